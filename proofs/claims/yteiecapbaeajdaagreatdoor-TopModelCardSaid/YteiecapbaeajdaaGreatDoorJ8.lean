/-
 A number of any length modulo an odd one: the conditions are met.
-/
import Derived.Test.YteiecapbaeajdaaGreatDoorJ7
import Derived.WalkKit
import Derived.KernelRfl
namespace Go.Proofs.YteiecapbaeajdaaGreatDoor
open Go Go.Avc Go.Proofs
set_option linter.unusedVariables false
set_option linter.unusedSimpArgs false
set_option maxRecDepth 100000
open Go Go.Avc
noncomputable section
theorem RN:∀ i:Fin 256,(kR.getD i.val 0).toNat=bitLen i.val:=by decide+kernel
theorem RU (i:Nat) (h:i<256):bitLen i≤8:=bitLen_le8 i h
theorem my {b n z:Int} (h0:0≤z) (h1:z<256) (hb0:0≤b) (hb:b≤56) (h:cK n=b+cK z):
  ((0:Int)≤IntKind.u8.wrap z∧IntKind.u8.wrap z<((256:Nat):Int))∧
  ((-9223372036854775808:Int)≤b+IntKind.i64.wrap (((kR.getD (IntKind.u8.wrap z).toNat 0).toNat:Nat):Int)∧b+IntKind.i64.wrap (((kR.getD (IntKind.u8.wrap z).toNat 0).toNat:Nat):Int)≤9223372036854775807)∧
  b+IntKind.i64.wrap (((kR.getD (IntKind.u8.wrap z).toNat 0).toNat:Nat):Int)=cK n:=by
 obtain ⟨k,rfl⟩:=Int.eq_ofNat_of_zero_le h0
 have hk:k<256:=by omega
 have e1:IntKind.u8.wrap (k:Int)=k:=tG _ _ (by omega) (by show (k:Int)≤255;omega)
 have h8:=RU k hk
 have e2:(kR.getD k 0).toNat=bitLen k:=RN ⟨k,hk⟩
 have e3:IntKind.i64.wrap ((bitLen k:Nat):Int)=(bitLen k:Nat):=tG _ _ (by omega) (by show ((bitLen k:Nat):Int)≤9223372036854775807;omega)
 have e4:cK (k:Int)=(bitLen k:Nat):=by unfold cK;rw [ax]
 rw [e1,ax,e2,e3,h,e4]
 exact ⟨⟨by omega,by omega⟩,⟨by omega,by omega⟩,rfl⟩
theorem HX (n:Int) (b:Nat) (hb:b≤64):aW .u64 n b=n / 2 ^ b:=by
 unfold aW
 rw [ax,show min b IntKind.u64.bits=b from Nat.min_eq_left hb]
 exact Int.fdiv_eq_ediv_of_nonneg _ (by exact_mod_cast Nat.zero_le (2 ^ b))
theorem vH {n:Int} (h0:0≤n) (b:Nat) (h:n / 2 ^ b≠0):cK n=b+cK (n / 2 ^ b):=by
 obtain ⟨k,rfl⟩:=Int.eq_ofNat_of_zero_le h0
 have e1:((k:Nat):Int) / 2 ^ b=((k / 2 ^ b:Nat):Int):=by simp
 rw [e1] at h ⊢
 unfold cK
 rw [ax,ax,bitLen_shift k b (by omega)]
 omega
theorem In {n:Int} (h:al n):0≤cK n∧cK n≤64:=by
 obtain ⟨k,rfl⟩:=Int.eq_ofNat_of_zero_le h.1
 unfold cK
 rw [ax]
 refine ⟨by omega,?_⟩
 have hk:k<2 ^ 64:=by have:=h.2;omega
 unfold bitLen
 split
 ·decide
 ·rename_i h0
  have:=(Nat.log2_lt h0).2 hk
  omega
theorem amQ:abW:=by
 delta abW iR sZ NY Nn Gr MJ Mr GM NN Mm M7 IS
 intro n hn
 have h0:0≤n:=hn.1
 have h1:n<18446744073709551616:=hn.2
 have s:∀ z:Int,∀ b:Nat,b≤64→aW .u64 z (b:Int)=z / 2 ^ b:=HX
 have s32:∀ z:Int,aW .u64 z 32=z / 4294967296:=fun z=>s z 32 (by decide)
 have s16:∀ z:Int,aW .u64 z 16=z / 65536:=fun z=>s z 16 (by decide)
 have s8:∀ z:Int,aW .u64 z 8=z / 256:=fun z=>s z 8 (by decide)
 have l32:∀ z:Int,0≤z→4294967296≤z→cK z=32+cK (z / 4294967296):=fun z h k=>vH h 32 (by show z / 4294967296≠0;omega)
 have l16:∀ z:Int,0≤z→65536≤z→cK z=16+cK (z / 65536):=fun z h k=>vH h 16 (by show z / 65536≠0;omega)
 have l8:∀ z:Int,0≤z→256≤z→cK z=8+cK (z / 256):=fun z h k=>vH h 8 (by show z / 256≠0;omega)
 simp only [s32,s16,s8]
 have T:∀ {p:Prop},p→((0:Int)≤32∧p):=fun h=>⟨by decide,h⟩
 refine aa (fun c1=>⟨by decide,aa (fun c2=>⟨by decide,⟨by decide,by decide⟩,aa (fun c3=>⟨by decide,⟨by decide,by decide⟩,?_⟩) fun c3=> ?_⟩) fun c2=>aa (fun c3=>⟨by decide,⟨by decide,by decide⟩,?_⟩) fun c3=> ?_⟩)
  fun c1=>aa (fun c2=>⟨by decide,⟨by decide,by decide⟩,aa (fun c3=>⟨by decide,⟨by decide,by decide⟩,?_⟩) fun c3=> ?_⟩) fun c2=>aa (fun c3=>⟨by decide,⟨by decide,by decide⟩,?_⟩) fun c3=> ?_
 all_goals
  first
  | replace c1:=av c1
  | replace c1:=au c1
  first
  | replace c2:=av c2
  | replace c2:=au c2
  first
  | replace c3:=av c3
  | replace c3:=au c3
 ·exact my (by omega) (by omega) (by decide) (by decide) (by rw [l32 n h0 c1,l16 _ (by omega) c2,l8 _ (by omega) c3];omega)
 ·exact my (by omega) (by omega) (by decide) (by decide) (by rw [l32 n h0 c1,l16 _ (by omega) c2];omega)
 ·exact my (by omega) (by omega) (by decide) (by decide) (by rw [l32 n h0 c1,l8 _ (by omega) c3];omega)
 ·exact my (by omega) (by omega) (by decide) (by decide) (by rw [l32 n h0 c1])
 ·exact my (by omega) (by omega) (by decide) (by decide) (by rw [l16 n h0 c2,l8 _ (by omega) c3];omega)
 ·exact my (by omega) (by omega) (by decide) (by decide) (by rw [l16 n h0 c2];omega)
 ·exact my (by omega) (by omega) (by decide) (by decide) (by rw [l8 n h0 c3];omega)
 ·exact my (by omega) (by omega) (by decide) (by decide) (by omega)
theorem aak:(base.with VN).Ok:=ac c30 (ai am c30 Tryz.func210 (by kernel_rfl) Tryz.call210 (by kernel_rfl) amQ)
theorem B0 {a:LD} (h:cE a):∀ n:Nat,0≤ck a n∧ck a n≤64*n
 | 0=>⟨Int.le_refl 0,by show (0:Int)≤_;omega⟩
 | n+1=>by
  have ih:=B0 h n
  have:=In (h n)
  rw [ck]
  split <;>omega
theorem amo:ag5:=by
 delta ag5 lM iR bR bI dU x8
 rintro a _ ⟨ha,hw⟩ _
 refine ⟨⟨by omega,by omega⟩,⟨⟨rfl,by omega,by omega,by rw [show ((a.length:Int)-1+1).toNat=a.length from by omega]⟩,trivial⟩,?_⟩
 rintro a' n _ ⟨rfl,h0,h1,h2⟩
 refine aa (fun h=> ?_) fun h=> ?_
 ·have h:=av h
  obtain ⟨i,rfl⟩:=Int.eq_ofNat_of_zero_le h
  rw [ax]
  have e1:((i:Int)+1).toNat=i+1:=by omega
  rw [e1,ck] at h2
  have hb:=In (hw i)
  refine ⟨⟨h,h1⟩,by omega,aa (fun h3=> ?_) fun h3=>⟨⟨by omega,by omega⟩,⟨rfl,by omega,by omega,?_⟩,by omega⟩⟩
  ·have h3:rv a' i≠0:=av h3
   rw [if_neg h3] at h2
   have hb':0≤cK ((a'.getD i []).getD 0 (CD.int 0)).toInt∧cK ((a'.getD i []).getD 0 (CD.int 0)).toInt≤64:=hb
   exact ⟨⟨by omega,by omega⟩,⟨h,h1⟩,by omega,hw i,⟨by omega,by omega⟩,h2.symm⟩
  ·have h3:rv a' i=0:=Decidable.not_not.1 (au h3)
   rw [h2,if_pos h3,show ((i:Int)-1+1).toNat=i from by omega]
 ·have h:=au h
  rw [h2,show (n+1).toNat=0 from by omega]
  rfl
theorem aez:(base.with VM).Ok:=ac aak (ai aa0 aak Tryz.func186 (by kernel_rfl) Tryz.call186 (by kernel_rfl) amo)
theorem yf {l:List Int} (h:aq l) (hl:l.length≤1000):aO (l.map ae):=⟨by rw [bA];exact hl,fun i=>by rw [b7];exact h i⟩
theorem LG {m a:LD} (ha:aO a) (hm:aO m) (c:Int):aO (nB m a c):=by
 unfold nB
 split
 ·exact ha
 ·exact yf (Nx _ _ _) (by rw [ug];have:=ha.1;have:=hm.1;unfold cZ;omega)
theorem HN {m a:LD} (h:a.length=m.length) (c:Int):(nB m a c).length=m.length:=by
 unfold nB
 split
 ·exact h
 ·rw [bA,ug];unfold cZ;omega
theorem ID {m a:LD} (ha:aO a) (hm:aO m) (c:Int):aO (Am m a c):=LG (yf (GU _ _ _) (by rw [qv];exact ha.1)) hm _
theorem Em {m a:LD} (h:a.length=m.length) (c:Int):(Am m a c).length=m.length:=HN (by rw [bA,qv];exact h) _
theorem agw {n:Nat} (h:n≤1000):aO (List.replicate n [CD.int 0]):=by
 rw [show List.replicate n [CD.int 0] =(List.replicate n 0).map ae from by rw [List.map_replicate];rfl]
 exact yf (Ds n) (by rw [List.length_replicate];exact h)
theorem JS {m a:LD} (hm:aO m) (k:Nat):∀ i,aO (pi m a k i)
 | 0=>agw hm.1
 | i+1=>ID (JS hm k i) hm _
theorem L7 (m a:LD) (k:Nat):∀ i,(pi m a k i).length=m.length
 | 0=>List.length_replicate
 | i+1=>Em (L7 m a k i) _
theorem En (m:LD):∀ i,(pU m i).length=m.length
 | 0=>by rw [pU,dc,List.length_replicate]
 | i+1=>Em (En m i) _
theorem Xe {n:Nat} (h:0<n):(List.replicate n [CD.int 0]).set 0 [CD.int 1] =((List.replicate n 0).set 0 1).map ae:=by
 rw [List.map_set,List.map_replicate]
 rfl
theorem BI {m:LD} (hm:aO m) (h0:0<m.length):∀ i,aO (pU m i)
 | 0=>by
  rw [pU,Xe h0]
  exact yf (gu (Ds _) (by exact ⟨by decide,by decide⟩) 0) (by rw [dc,List.length_replicate];exact hm.1)
 | i+1=>ID (BI hm h0 i) hm _
theorem ah6:abI:=by
 delta abI lM iR bR bI ui J5 xO BM Ks IX Co rU
 rintro l _ ⟨h2,h16,hw,hodd,htop⟩ _ _
 have c1:decide ((l.length:Int)<1)=false:=decide_eq_false (by omega)
 have c2:decide ((16:Int)<(l.length:Int))=false:=decide_eq_false (by omega)
 have c3:decide (dN .u64 ((l.getD 0 []).getD 0 (CD.int 0)).toInt 1=0)=false:=decide_eq_false hodd
 have e4:((l.length:Int)-1).toNat=l.length-1:=by omega
 have c4:decide (((l.getD ((l.length:Int)-1).toNat []).getD 0 (CD.int 0)).toInt=0)=false:=by rw [e4];exact decide_eq_false htop
 have c9:decide ((l.length:Int)=1)=false:=decide_eq_false (by omega)
 have hl:aO l:=⟨by omega,hw⟩
 refine ⟨fun _=>⟨by omega,by omega⟩,fun _=>by omega,fun _=>⟨fun _=>⟨by omega,by omega⟩,fun _=>⟨by omega,by omega⟩,fun _=>by omega,fun _=>⟨fun _=>⟨by omega,by omega⟩,fun _=>by omega,aa (fun h=> ?_) fun _=>⟨by omega,⟨⟨rfl,rfl,by omega,by omega,rfl⟩,trivial⟩,?_⟩⟩⟩⟩
 ·rw [c1,c2,c3,c4,c9] at h
  cases h
 ·rintro l1 x n l2 v q _ _ _ ⟨e1,e2,h0,h1,rfl⟩
  subst e1 e2
  obtain ⟨i,rfl⟩:=Int.eq_ofNat_of_zero_le h0
  rw [ax]
  refine aa (fun h=> ?_) fun h _=> ?_
  ·have h:=av h
   refine ⟨⟨by omega,by omega⟩,by omega,⟨by omega,by omega⟩,⟨rfl,rfl,by omega,by omega,?_⟩,by omega⟩
   rw [show ((i:Int)+1).toNat=i+1 from by omega]
   rfl
  ·have h:=au h
   have hi:i=6:=by omega
   subst hi
   rw [ax]
   have hs:(List.replicate l2.length [CD.int 0]).set 0 (((List.replicate l2.length [CD.int 0]).getD 0 []).set 0 (CD.int 1))=pU l2 0:=by
    rw [pU]
    congr 1
    rw [aw,List.getElem?_replicate,if_pos (by omega)]
    rfl
   refine ⟨⟨by omega,by omega,by omega,by omega⟩,⟨by omega,by rw [List.length_replicate];omega⟩,by rw [List.length_replicate];omega,fun _=>⟨⟨by omega,by omega⟩,⟨⟨rfl,by omega,by omega,rfl,rfl,hs⟩,trivial⟩,?_⟩⟩
   rintro n k l4 v4 l5 _ _ ⟨rfl,h0,h1,rfl,rfl,rfl⟩
   obtain ⟨j,rfl⟩:=Int.eq_ofNat_of_zero_le h0
   rw [ax]
   refine aa (fun h=> ?_) fun h=> ?_
   ·have h:=av h
    refine ⟨⟨BI hl (by omega) _,hl⟩,⟨by omega,by omega⟩,⟨rfl,by omega,by omega,rfl,rfl,?_⟩,by omega⟩
    rw [show ((j:Int)+1).toNat=j+1 from by omega]
    rfl
   ·have h:=au h
    refine ⟨rfl,rfl,rfl,?_⟩
    rw [ff,ak,show j=128*l4.length from by omega]
theorem acD:(base.with Tl).Ok:=ac aez (ai acu aez Tryz.func143 (by kernel_rfl) Tryz.call143 (by kernel_rfl) ah6)
theorem ahg:adA:=by
 delta adA lM iR bR bI dU Co rU
 rintro a m v q _ _ _ ⟨ha,hm⟩ _
 have hm1:=hm.1
 have ha1:=ha.1
 have hb:=B0 ha.2 a.length
 have hz:List.replicate ((m.length:Int)).toNat [CD.int 0] =pi m a (ck a a.length).toNat ((ck a a.length).toNat-(ck a a.length-1+1).toNat):=by
  rw [ax,show (ck a a.length).toNat-(ck a a.length-1+1).toNat=0 from by omega]
  rfl
 refine ⟨⟨by omega,by omega,by omega,by omega⟩,ha,⟨by omega,by omega⟩,⟨⟨rfl,rfl,rfl,rfl,by omega,by omega,hz⟩,trivial⟩,?_⟩
 rintro a' o n m' v' q' _ _ _ _ ⟨e1,e2,e3,e4,h0,h1,rfl⟩
 subst e1 e2 e3 e4
 refine aa (fun h=> ?_) fun h=> ?_
 ·have h:=av h
  obtain ⟨j,rfl⟩:=Int.eq_ofNat_of_zero_le h
  refine ⟨⟨h,by decide,by show (j:Int)≤9223372036854775807;omega⟩,⟨by omega,by omega⟩,by omega,⟨h,by decide⟩,by omega,⟨JS hm _ _,hm⟩,⟨by omega,by omega⟩,⟨rfl,rfl,rfl,rfl,by omega,by omega,?_⟩,by omega⟩
  rw [show ((j:Int)+1).toNat=j+1 from by omega,show ((j:Int)-1+1).toNat=j from by omega]
  generalize hK:(ck a' a'.length).toNat=K
  have hj:j<K:=by omega
  rw [show K-j=(K-(j+1))+1 from by omega,pi,show K-1-(K-(j+1))=j from by omega]
  rw [show ((j:Int) / 64).toNat=j / 64 from by omega,show ((j%64:Nat):Int)=(j:Int)%64 from by omega]
  rfl
 ·have h:=au h
  refine ⟨?_,rfl,rfl,rfl⟩
  rw [fa,ak,show (n+1).toNat=0 from by omega,Nat.sub_zero]
theorem Y6:(base.with UF).Ok:=ac acD (ai Y0 acD Tryz.func144 (by kernel_rfl) Tryz.call144 (by kernel_rfl) ahg)
abbrev u32:Pat:= .int .u32
abbrev i32:Pat:= .int .i32
abbrev Gc:BPat:= .cells 318 [u32,i32,u32,.arrI 780 .u64,.arrI 36 .u64]
abbrev Vd:Pat:= .iface 259 (.agg [.ptr 0 0])
abbrev qSe:BPat:= .cells 300 [Vd,.own 2,i64,i64,i64]
abbrev qSo:BPat:= .cells 300 [.iface 259 (.agg [.ptr 1 0]),.own 2,i64,i64,i64]
def me (l:LD):List Int:=hid (dG ((((fa pR ((ba l l.length).map ae)).drop 0).take 4).map fun r=>(r.getD 0 .d0).toInt))
def yq (l:LD):LD:=jv (List.replicate 3 [.int 0,.int 0,.int 0,.int 0]) 2 1 l
def pP:List Int:=hid (List.replicate 780 0)
def wV:List Int:=hid (List.replicate 36 0)
def tF (l:List Int):Prop:=ar (l.map ae)
def ap6:Ct:= {ps:= [rb],bs:= [],pre:=fun | [.r l] =>ar l∧l.length≤400 | _=>False,res:=fun | [.r l] => .ret w4 [] [.li (me l)] | _=>ag}
def apM:Ct:= {ps:= [Ab],bs:= [],pre:=fun | [.li t] =>tF t | _=>False,res:=fun | [.li t] => .ret w4 [] [.li (me (t.map ae))] | _=>ag}
def ajX:Ct:= {ps:= [],bs:= [],pre:=fun _=>True,res:=fun _=> .ret (.ptr 0 0) [Gc] [.i 0,.i 0,.i 0,.li pP,.li wV]}
def aqc:Ct:= {ps:= [],bs:= [],pre:=fun _=>True,res:=fun _=> .ret Vd [Gc] [.i 0,.i 0,.i 0,.li pP,.li wV]}
def akd:Ct:= {ps:= [.agg [.skip]],bs:= [],pre:=fun _=>True,res:=fun _=> .ret i64 [] [.i 2]}
def al2:Ct:= {ps:= [.agg [.skip]],bs:= [],pre:=fun _=>True,res:=fun _=> .ret i64 [] [.i 3]}
def ai7:Ct:= {ps:= [Vd,.rd PM],bs:= [Gc],pre:=fun | [.r l,.i _,.i _,.i _,.li _,.li _] =>l.length≤1 | _=>False,res:=fun
 | [.r l,.i a,.i b,.i c,.li u,.li v] => .ret (.tup [.ptr 1 0,i64]) [Gc,qSe,oe] [.i 0,.i a,.i b,.i c,.li u,.li v,.i 0,.i 2,.i 0,.r (yq l)]
 | _=>ag}
def aqh:Ct:= {ps:= [Vd,.rd PM],bs:= [Gc],pre:=fun | [.r l,.i _,.i _,.i _,.li _,.li _] =>l.length≤1 | _=>False,res:=fun
 | [.r l,.i a,.i b,.i c,.li u,.li v] => .ret (.ptr 1 0) [Gc,qSe,oe] [.i a,.i b,.i c,.li u,.li v,.i 0,.i 2,.i 0,.r (yq l)]
 | _=>ag}
def aqd:Ct:= {ps:= [Ab],bs:= [],pre:=fun | [.li t] =>tF t | _=>False,res:=fun
 | [.li t] => .ret (.ptr 0 0) [qSo,Gc,oe] [.i 0,.i 2,.i 0,.i 0,.i 0,.i 0,.li pP,.li wV,.r (yq [b8 (me (t.map ae))])]
 | _=>ag}
abbrev zz:LD:=
 [[.int 4891460686036598785],[.int 2896914383306846353],[.int 13281191951274694749],
 [.int 3486998266802970665]]
abbrev NH (a:LD):List Int:=
 List.map (fun b=>(b.getD 0 (.int 0)).toInt)
 (List.take 4
 (List.drop 0
 (fa zz
 (List.map ae (ba a a.length)))))
def P98:Prop:=
 ∀ (a:LD),
 lM a→
 ar a∧a.length≤400→
 True∧
 ((0:Int)≤0∧0≤(↑(4:Nat):Int)∧(↑(4:Nat):Int)≤(↑(4:Nat):Int)∧(0:Int)<(↑(4:Nat):Int))∧
 xj zz∧
 (a.length≤1000∧ar a)∧
 (aO (List.map ae (ba a a.length))∧
 aO zz)∧
 (4:Nat)≤
 (fa zz
 (List.map ae (ba a a.length))).length∧
 (4:Nat)≤
 (fa zz
 (List.map ae (ba a a.length))).length∧
 aq (NH a)∧
 dG (NH a)=me a
def abR:af:=aj UF 98 (ap ap6)
abbrev G4 (a:List Int):LD:=
 List.map (fun b=> [.int b]) (List.take 32 (List.drop 0 a))
def P86:Prop:=
 ∀ (a:List Int),
 a.length=32→
 tF a→
 ((0:Int)≤0∧0≤(↑(32:Nat):Int)∧(↑(32:Nat):Int)≤(↑(32:Nat):Int)∧(0:Int)<(↑(32:Nat):Int))∧
 (ar (G4 a)∧(G4 a).length≤400)∧
 me (G4 a)=
 me (List.map ae a)
def Za:af:=aj abR 86 (ap apM)
def arT:Prop:=
 True→
 (0:Int)=0∧
 (0:Int)=0∧
 (0:Int)=0∧
 List.replicate 780 0=pP∧List.replicate 36 0=wV
def Wp:af:=aj Za 132 (ap ajX)
def P85:Prop:=
 True→
 True∧
 (0:Int)=0∧
 (0:Int)=0∧
 (0:Int)=0∧
 pP=pP∧wV=wV
def agu:af:=aj Wp 85 (ap aqc)
def apW:Prop:=
 True→(2:Int)=2
def SN:af:=aj agu 345 (ap akd)
def ard:Prop:=
 True→(3:Int)=3
def VE:af:=aj SN 346 (ap al2)
abbrev GT:List CD:=
 [.int ([0,0,0,0].getD 0 0),.int ([0,0,0,0].getD 1 0),
 .int ([0,0,0,0].getD 2 0),.int ([0,0,0,0].getD 3 0)]
def adm:Prop:=
 ∀ (a:LD) (b c d:Int) (e f:List Int),
 lM a→
 e.length=780→
 f.length=36→
 a.length≤1→
 lM a→
 True∧
 True∧
 iR ((3:Int)-(2:Int))∧
 bif decide ((3:Int)-(2:Int)<↑a.length) then
 Miss 2 eS
 else
 True∧
 ((0:Int)≤3∧(3:Int)≤3∧(↑(32:Nat):Int)*3≤140737488355328∧(3:Int)≤9223372036854775807)∧
 True∧
 True∧
 ((0:Int)≤2∧2≤(↑(3:Nat):Int)∧(↑(3:Nat):Int)≤(↑(3:Nat):Int)∧(2:Int)<(↑(3:Nat):Int))∧
 (0:Int)=0∧
 b=b∧
 c=c∧
 d=d∧
 e=e∧
 f=f∧
 (0:Int)=0∧
 (2:Int)=2∧
 (0:Int)=0∧
 jv
 [GT,GT,
 GT]
 2 1 a=
 yq a
def UY:af:=aj VE 131 (ap ai7)
def P84:Prop:=
 ∀ (a:LD) (b c d:Int) (e f:List Int),
 lM a→
 e.length=780→
 f.length=36→
 a.length≤1→
 a.length≤1∧
 b=b∧
 c=c∧
 d=d∧
 e=e∧
 f=f∧
 (0:Int)=0∧(2:Int)=2∧(0:Int)=0∧yq a=yq a
def af6:af:=aj UY 84 (ap aqh)
def P46:Prop:=
 ∀ (a:List Int),
 a.length=32→
 tF a→
 True∧
 tF a∧
 1≤1∧
 (0:Int)=0∧
 (2:Int)=2∧
 (0:Int)=0∧
 (0:Int)=0∧
 (0:Int)=0∧
 (0:Int)=0∧
 pP=pP∧
 wV=wV∧
 yq
 [[.int ((me (List.map ae a)).getD 0 0),
 .int ((me (List.map ae a)).getD 1 0),
 .int ((me (List.map ae a)).getD 2 0),
 .int ((me (List.map ae a)).getD 3 0)]] =
 yq
 [b8 (me (List.map ae a))]
def af2:af:=aj af6 46 (ap aqd)
theorem S2:xj pR:=by
 refine ⟨by decide,by decide,fun i=> ?_,by decide,by decide⟩
 unfold pR
 rw [b7]
 exact mO i
theorem TE:aO pR:=⟨by decide,S2.2.2.1⟩
theorem xX {l:LD} (h:l.length≤400) (hb:ar l):aO ((ba l l.length).map ae):=yf (Fd l _) (by rw [fy];omega)
theorem XG {m a:LD} (hm:aO m):aO (fa m a):=by rw [fa,ak];exact JS hm _ _
theorem RQ (m a:LD):(fa m a).length=m.length:=by rw [fa,ak];exact L7 m a _ _
theorem af4 {l:LD} (h:cE l) (n:Nat):aq ((l.take n).map fun r=>(r.getD 0 (CD.int 0)).toInt):=fun j=>by
 rw [aw,eW,List.getElem?_take]
 split
 ·cases hj:l[j]? with
  | none=>exact bh
  | some r=>
   have e:l.getD j [] =r:=by rw [aw,hj];rfl
   have:=h j
   unfold rv at this
   rw [e] at this
   exact this
 ·exact bh
theorem ap4:P98:=by
 delta P98 lM zz NH
 rintro l _ ⟨hb,hl⟩
 have hlen:(4:Nat)≤(fa pR ((ba l l.length).map ae)).length:=by rw [RQ];decide
 refine ⟨trivial,⟨by decide,by decide,by decide,by decide⟩,S2,⟨by omega,hb⟩,⟨xX hl hb,TE⟩,hlen,hlen,?_,?_⟩
 ·rw [List.drop_zero]
  exact af4 (XG TE).2 4
 ·rw [me,ak]
  rfl
theorem c98:(base.with abR).Ok:=ac Y6 (ai am Y6 Tryz.func98 (by kernel_rfl) Tryz.call98 (by kernel_rfl) ap4)
theorem aqY:P86:=by
 delta P86 G4
 intro t ht hy
 have e:((t.drop 0).take 32).map (fun x=> [CD.int x])=t.map ae:=by
  rw [List.drop_zero,List.take_of_length_le (by omega)]
  rfl
 rw [e]
 exact ⟨⟨by decide,by decide,by decide,by decide⟩,⟨hy,by rw [bA];omega⟩,rfl⟩
theorem c86:(base.with Za).Ok:=ac c98 (ai am c98 Tryz.func86 (by kernel_rfl) Tryz.call86 (by kernel_rfl) aqY)
theorem ah0:arT:=fun _=>⟨rfl,rfl,rfl,(by rw [pP,ak]),(by rw [wV,ak])⟩
theorem adB:(base.with Wp).Ok:=ac c86 (ai am c86 Tryz.func132 (by kernel_rfl) Tryz.call132 (by kernel_rfl) ah0)
theorem aqR:P85:=fun _=>⟨trivial,rfl,rfl,rfl,rfl,rfl⟩
theorem c85:(base.with agu).Ok:=ac adB (ai am adB Tryz.func85 (by kernel_rfl) Tryz.call85 (by kernel_rfl) aqR)
theorem aj5:apW:=fun _=>rfl
theorem Zw:(base.with SN).Ok:=ac c85 (ai am c85 Tryz.func345 (by kernel_rfl) Tryz.call345 (by kernel_rfl) aj5)
theorem ajY:ard:=fun _=>rfl
theorem ZO:(base.with VE).Ok:=ac Zw (ai am Zw Tryz.func346 (by kernel_rfl) Tryz.call346 (by kernel_rfl) ajY)
theorem ah8:adm:=by
 delta adm lM iR GT
 rintro l a b c u v _ _ _ h _
 refine ⟨trivial,trivial,⟨by decide,by decide⟩,aa (fun k=> ?_) fun _=>⟨trivial,⟨by decide,by decide,by decide,by decide⟩,trivial,trivial,⟨by decide,by decide,by decide,by decide⟩,rfl,rfl,rfl,rfl,rfl,rfl,rfl,rfl,rfl,rfl⟩⟩
 have:=av k
 omega
theorem adq:(base.with UY).Ok:=ac ZO (ai am ZO Tryz.func131 (by kernel_rfl) Tryz.call131 (by kernel_rfl) ah8)
theorem aqL:P84:=by
 delta P84 lM
 exact fun l a b c u v _ _ _ h=>⟨h,rfl,rfl,rfl,rfl,rfl,rfl,rfl,rfl,rfl⟩
theorem c84:(base.with af6).Ok:=ac adq (ai am adq Tryz.func84 (by kernel_rfl) Tryz.call84 (by kernel_rfl) aqL)
theorem arB:P46:=fun t _ h=>⟨trivial,h,Nat.le_refl 1,rfl,rfl,rfl,rfl,rfl,rfl,rfl,rfl,rfl⟩
theorem c46:(base.with af2).Ok:=ac c84 (ai am c84 Tryz.func46 (by kernel_rfl) Tryz.call46 (by kernel_rfl) arB)
def bj (l:LD):LD:=dW (bJ (ab l)).1
def qV (k:Int) (l:LD):List Int:=jp k (bj l)
abbrev O0:BPat:= .cells 128 [.ptr 1 0,.arrI 32 .u8,.iface 133 (.agg [.ptr 2 0])]
abbrev qTe:BPat:= .cells 128 [.ptr 1 0,.arrI 32 .u8,.iface 137 (.agg [.ptr 2 0])]
abbrev Pw:BPat:= .cells 298 [xI,.own 3,i64,i64,i64]
abbrev qSf:BPat:= .cells 300 [.iface 259 (.agg [.ptr 3 0]),.own 4,i64,i64,i64]
def arg:Ct:= {ps:= [i64,rb],bs:= [],pre:=fun | [.i k,.r l] =>bk l | _=>False,res:=fun
 | [.i k,.r l] => .ite (decide (k≠1)&&decide (k≠2)) (.ret (.tup [.nilp,i64,i64]) [] [.i (-1),.i 15])
   (.ite (decide ((bJ (ab l)).2.2=0))
    (.ite (decide (k=2)) (.ret (.tup [.ptr 0 0,i64,i64]) [qTe,gA,qSf,Gc,oe] [.i (-1),.i 0,.li (qV k l),.r (bj l),.i 0,.i 0,.i 2,.i 0,.i 0,.i 0,.i 0,.li pP,.li wV,.r (yq [b8 (me ((qV k l).map ae))])])
     (.ret (.tup [.ptr 0 0,i64,i64]) [O0,gA,Pw,ob] [.i (-1),.i 0,.li (qV k l),.r (bj l),.i 0,.i 0,.i 136,.i 0,.r (nk ((qV k l).map ae))]))
    (.ret (.tup [.nilp,i64,i64]) [] [.i (bJ (ab l)).2.1,.i (bJ (ab l)).2.2]))
 | _=>ag}
abbrev zT (a:Int):Bool:=
 decide (a≠1)&&decide (a≠2)
abbrev nu (a:LD):Int:=
 (bJ (ab a)).snd.snd
abbrev MY:Prop:=
 Miss 2 eS
abbrev Cq (a:LD):Int:=
 (bJ (ab a)).snd.fst
abbrev nh (a:LD):LD:=
 dW (bJ (ab a)).fst
abbrev amb:List SV:=
 [.tup [.ptr 1 0,.int .i64 (-1:Int),.int .i64 0]]
abbrev amD (a:LD):Blk:=
 .cells (185:TypeId)
 [.rd [.int .i64,.int .i64,.int .i64,.str] (nh a),
 .int .i64 0,.nilp]
abbrev akK:Blk:=
 .cells (298:TypeId)
 [.iface (253:TypeId) (.agg []),.own 4,.int .i64 0,.int .i64 136,
 .int .i64 0]
abbrev GR (a:Int)(b:LD):Prop:=
 Miss 2 eS
abbrev Ha (a:Int)(b:LD):Prop:=
 Miss 2 eS
abbrev IM (a:LD):Prop:=
 Miss 2 eS
def P21:Prop:=
 ∀ (a:Int) (b:LD),
 lM b→
 bk b→
 bif zT a then
 bif zT a then (-1:Int)=(-1:Int)∧(15:Int)=15
 else
 bif decide (nu b=0) then
 bif decide (a=2) then MY else MY
 else (-1:Int)=Cq b∧15=nu b
 else
 bk b∧
 bif decide (nu b=0) then
 (nh b).length≤1000000∧
 ((a=1∨a=2)∧ls (nh b))∧
 True∧
 bif decide (a=2) then
 tF (jp a (nh b))∧
 bif zT a then GR a b
 else
 bif decide (nu b=0) then
 bif decide (a=2) then
 (-1:Int)=(-1:Int)∧
 (0:Int)=0∧
 jp a (nh b)=qV a b∧
 nh b=bj b∧
 (0:Int)=0∧
 (0:Int)=0∧
 (2:Int)=2∧
 (0:Int)=0∧
 (0:Int)=0∧
 (0:Int)=0∧
 (0:Int)=0∧
 pP=pP∧
 wV=wV∧
 yq
 [b8
 (me
 (List.map ae
 (jp a (nh b))))] =
 yq
 [b8
 (me
 (List.map ae (qV a b)))]
 else GR a b
 else GR a b
 else
 bif zT a then Ha a b
 else
 bif decide (nu b=0) then
 bif decide (a=2) then Ha a b
 else
 (-1:Int)=(-1:Int)∧
 (0:Int)=0∧
 jp a (nh b)=qV a b∧
 nh b=bj b∧
 (0:Int)=0∧
 (0:Int)=0∧
 (136:Int)=136∧
 (0:Int)=0∧
 nk
 (List.map ae
 (jp a (nh b)))=
 nk
 (List.map ae (qV a b))
 else Ha a b
 else
 bif decide (nu b≠0) then
 bif zT a then
 Cq b=(-1:Int)∧nu b=15
 else
 bif decide (nu b=0) then
 bif decide (a=2) then IM b else IM b
 else
 Cq b=Cq b∧
 nu b=nu b
 else False
def aes:af:=aj af2 21 (ap arg)
theorem acA {L:List Int} (h:∀ j,0≤L.getD j 0∧L.getD j 0<256) (n:Nat):tF (L.take n):=fun j=>by
 rw [b7,aw,List.getElem?_take]
 split
 ·rw [← aw];exact h j
 ·exact ⟨by decide,by decide⟩
theorem ajo (h:Hs):tF (fin h):=by rw [fin,ak];exact acA (AB _) 32
theorem aam (l:LD):tF (lu l):=by rw [lu,ak];exact ajo _
theorem W9 (h:Hs):(fin h).length=32:=by rw [fin,ak,List.length_take,fH];rfl
theorem RD (l:LD):(lu l).length=32:=by rw [lu,ak];exact W9 _
theorem Qt (k:Int) (l:LD):tF (jp k l):=by
 unfold jp
 split
 ·exact aam _
 ·intro j
  rw [b7,aw,List.getElem?_replicate]
  split <;>exact ⟨by decide,by decide⟩
theorem Rp (k:Int) (l:LD):(jp k l).length=32:=by
 unfold jp
 split
 ·exact RD _
 ·rfl
theorem apR:P21:=by
 delta P21 lM zT nu MY Cq nh amb amD akK GR Ha IM
 intro k l _ hp
 have both:∀ {p:Prop} [Decidable p],decide p=true→decide p=false→False:=fun h1 h2=>by rw [h1] at h2;cases h2
 refine aa (fun h=>aa (fun _=>⟨rfl,rfl⟩) fun h'=>by rw [h] at h';cases h') fun h=>⟨hp,aa (fun e=> ?_) fun e=>aa (fun _=>aa (fun h'=>by rw [h] at h';cases h') fun _=>aa (fun e'=>(both e' e).elim) fun _=>⟨rfl,rfl⟩) fun e'=> ?_⟩
 ·have hl:=L5 (ab l)
  have hr:(dW (bJ (ab l)).1).length≤1024:=by rw [wL];exact hl
  have hk:k=1∨k=2:=by
   simp only [Bool.and_eq_false_iff,aT] at h
   omega
  refine ⟨by omega,⟨hk,by unfold ls;omega⟩,trivial,aa (fun k2=>⟨Qt _ _,aa (fun h'=>by rw [h] at h';cases h') fun _=>aa (fun _=>aa (fun _=> ?_) fun k2'=>(both k2 k2').elim) fun e'=>(both e e').elim⟩) fun k2=>aa (fun h'=>by rw [h] at h';cases h') fun _=>aa (fun _=>aa (fun k2'=>(both k2' k2).elim) fun _=> ?_) fun e'=>(both e e').elim⟩
  ·exact ⟨rfl,rfl,rfl,rfl,rfl,rfl,rfl,rfl,rfl,rfl,rfl,rfl,rfl,rfl⟩
  ·exact ⟨rfl,rfl,rfl,rfl,rfl,rfl,rfl,rfl,rfl⟩
 ·exact absurd (Decidable.not_not.1 (au e')) (au e)
theorem YB:(base.with aes).Ok:=ac c46 (ai am c46 Tryz.func21 (by kernel_rfl) Tryz.call21 (by kernel_rfl) apR)
abbrev gAe:BPat:= .cells 185 [.rd eR,i64,.ptr 4 0]
abbrev mI:List BPat:= [O0,gA,Pw,ob]
abbrev lO:List BPat:= [O0,gAe,Pw,ob,eB]
def hZ (k t n:Int) (d:LD) (x:Sp):Sp:=bH (cI k t n d) x (cI k t n d).length
def dF (x:Sp):List Int×Int×Int×Sp:=aC (hZ 2 3 1 [] x)
def GG (k t n:Int) (d it:LD) (at':Int) (x:Sp):Prop:=
 br it at'∧bT 800000000 x∧((k=0∧t=1∧ar d∧d.length≤900∧eO d=0∧ci it at' 1 1 d.length=true)∨(k=2∧n=1∧ci it at' 2 3 1=true∧(dF x).2.2.1=0)∨(k=4∧at'=it.length))
def ig (k:Int) (d:LD) (at':Int) (x:Sp):Int×Sp:=if k=0 then (at'+1,hZ 1 1 d.length d x) else if k=2 then (at'+1,(dF x).2.2.2) else (at',x)
def IR (k:Int) (x:Sp):LD:=if k=2 then (lw (dF x).1).map ae else []
abbrev fE:List CSh:= [.int .i64,.int .i64,.int .i64,.sl [.int .u8]]
abbrev ru:List CSh:= [.int .i64,.sl [.int .u8]]
def cC (l:LD) (i c:Nat):Int:=((l.getD i []).getD c .d0).toInt
def cD (l:LD) (i:Nat):LD:=((l.getD i []).getD 3 .d0).toSl
def pT (l:LD) (x:Sp):Nat→Int×Sp
 | 0=>(0,x)
 | i+1=>ig (cC l i 0) (cD l i) (pT l x i).1 (pT l x i).2
def pZ (l:LD) (x:Sp):Nat→LD
 | 0=> []
 | i+1=>pZ l x i++ [[.int 0,.sl (IR (cC l i 0) (pT l x i).2)]]
def cw (p:LD):Sp:=(0,136,0,nk ((qV 1 p).map ae))
def alP:Ct:= {ps:= [.ptr 0 0],bs:=mI,pre:=fun _=>True,res:=fun
 | [.li tg,.r it,.i at',.i a,.i b,.i c,.r s] => .ret i64 mI [.i 0,.li tg,.r it,.i at',.i a,.i b,.i c,.r s]
 | _=>ag}
def aiu:Ct:= {ps:= [.ptr 0 0],bs:=lO,pre:=fun _=>True,res:=fun
 | [.li tg,.r it,.i at',.i a,.i b,.i c,.r s,.i w] => .ret i64 lO [.i w,.li tg,.r it,.i at',.i a,.i b,.i c,.r s,.i w]
 | _=>ag}
def alL:Ct:= {ps:= [.ptr 0 0,DM],bs:=mI,pre:=fun | [.i _,.i _,.i _,.r _,.li _,.r it,.i at',.i _,.i _,.i _,.r _] =>br it at' | _=>False,res:=fun
 | [.i k,.i t,.i n,.r _,.li tg,.r it,.i at',.i a,.i b,.i c,.r s] => .ite (ci it at' k t n) (.ret i64 mI [.i 0,.li tg,.r it,.i (at'+1),.i a,.i b,.i c,.r s]) (.ret i64 lO [.i 10,.li tg,.r it,.i at',.i a,.i b,.i c,.r s,.i 10])
 | _=>ag}
def akV:Ct:= {ps:= [.ptr 0 0,DM],bs:=lO,pre:=fun | [.i _,.i _,.i _,.r _,.li _,.r it,.i at',.i _,.i _,.i _,.r _,.i w] =>br it at'∧w≠0 | _=>False,res:=fun
 | [.i k,.i t,.i n,.r _,.li tg,.r it,.i at',.i a,.i b,.i c,.r s,.i w] => .ret i64 lO [.i w,.li tg,.r it,.i at',.i a,.i b,.i c,.r s,.i w]
 | _=>ag}
def anl:List Dat→Prop
 | [.i t,.r d,.li _,.r it,.i at',.i a,.i b,.i c,.r s] =>t=1∧ar d∧d.length≤900∧eO d=0∧br it at'∧ci it at' 1 1 d.length=true∧bT 800000000 (a,b,c,s)
 | _=>False
def aq4:Ct:= {ps:= [.ptr 0 0,i64,rb],bs:=mI,pre:=anl,res:=fun
 | [.i t,.r d,.li tg,.r it,.i at',.i a,.i b,.i c,.r s] => .ret i64 mI [.i 0,.li tg,.r it,.i (at'+1),.i (hZ 1 1 d.length d (a,b,c,s)).1,.i (hZ 1 1 d.length d (a,b,c,s)).2.1,.i (hZ 1 1 d.length d (a,b,c,s)).2.2.1,.r (hZ 1 1 d.length d (a,b,c,s)).2.2.2]
 | _=>ag}
def amh:List Dat→Prop
 | [.i n,.li _,.r it,.i at',.i a,.i b,.i c,.r s] =>n=1∧br it at'∧ci it at' 2 3 1=true∧bT 800000000 (a,b,c,s)∧(dF (a,b,c,s)).2.2.1=0
 | _=>False
def ap1:Ct:= {ps:= [.ptr 0 0,i64],bs:=mI,pre:=amh,res:=fun
 | [.i n,.li tg,.r it,.i at',.i a,.i b,.i c,.r s] => .ret (.tup [.own 4,i64]) [O0,gA,Pw,ob,oe] [.i 0,.li tg,.r it,.i (at'+1),.i (dF (a,b,c,s)).2.2.2.1,.i (dF (a,b,c,s)).2.2.2.2.1,.i (dF (a,b,c,s)).2.2.2.2.2.1,.r (dF (a,b,c,s)).2.2.2.2.2.2,.r [b8 (dF (a,b,c,s)).1]]
 | _=>ag}
def ai3:Ct:= {ps:= [.ptr 0 0],bs:=mI,pre:=fun _=>True,res:=fun
 | [.li tg,.r it,.i at',.i a,.i b,.i c,.r s] => .ite (decide (at'=it.length)) (.ret i64 mI [.i 0,.li tg,.r it,.i at',.i a,.i b,.i c,.r s]) (.ret i64 lO [.i 12,.li tg,.r it,.i at',.i a,.i b,.i c,.r s,.i 12])
 | _=>ag}
def akk:Ct:= {ps:= [.ptr 0 0],bs:=lO,pre:=fun _=>True,res:=fun
 | [.li tg,.r it,.i at',.i a,.i b,.i c,.r s,.i w] => .ret i64 lO [.i w,.li tg,.r it,.i at',.i a,.i b,.i c,.r s,.i w]
 | _=>ag}
def amW:List Dat→Prop
 | [.i k,.i t,.i n,.r d,.li _,.r it,.i at',.i a,.i b,.i c,.r s] =>GG k t n d it at' (a,b,c,s)
 | _=>False
def apu:Ct:= {ps:= [.agg [i64,i64,i64,rb],.ptr 0 0],bs:=mI,pre:=amW,res:=fun
 | [.i k,.i t,.i n,.r d,.li tg,.r it,.i at',.i a,.i b,.i c,.r s] => .ret (.agg [i64,rb]) mI [.i 0,.r (IR k (a,b,c,s)),.li tg,.r it,.i (ig k d at' (a,b,c,s)).1,.i (ig k d at' (a,b,c,s)).2.1,.i (ig k d at' (a,b,c,s)).2.2.1,.i (ig k d at' (a,b,c,s)).2.2.2.1,.r (ig k d at' (a,b,c,s)).2.2.2.2]
 | _=>ag}
def ajT:List Dat→Ann
 | [.i k,.i t,.i n,.r d,.li tg,.r it,.i at',.i a,.i b,.i c,.r s] => {cut:= [],loop:= [(11,[la 70 [(4,.ptr 4 0),(9,.ptr 5 0),(47,.rd PM),(48,i64),(49,i64)] (mI++ [.cells 86 [i64,.nils],.cells 86 [i64,.own 6],ob]) (fun
   | [.r l',.i m,.i i,.li tg',.r it',.i at2,.i a',.i b',.i c',.r s',.i _,.i e,.r o] =>l'= [b8 (dF (a,b,c,s)).1] ∧m=1∧e=0∧tg'=tg∧it'=it∧at2=at'+1∧(a',b',c',s')=(dF (a,b,c,s)).2.2.2∧((i=0∧o= [])∨(i=1∧o=(lw (dF (a,b,c,s)).1).map ae))
   | _=>False) (fun | [_,.i m,.i i,_,_,_,_,_,_,_,_,_,_] =>(m-i).toNat | _=>0)])]}
 | _=> {cut:= [],loop:= []}
def lh (l p:LD):LD:=hid (pZ l (cw p) l.length)
def uR (k:Int) (p l:LD):Prop:=k=1∧bk p∧(bJ (ab p)).2.2=0∧l.length≤200∧∀ i,i<l.length→GG (cC l i 0) (cC l i 1) (cC l i 2) (cD l i) (bj p) (pT l (cw p) i).1 (pT l (cw p) i).2
def aab:Ct:= {ps:= [.agg [i64,rb,.own 0]],bs:= [.own 84 fE],pre:=fun | [.i k,.r p,.r l] =>uR k p l | _=>False,res:=fun
 | [.i k,.r p,.r l] => .ret (.tup [.own 1,i64,i64]) [.own 84 fE,.own 86 ru] [.i (-1),.i 0,.r l,.r (lh l p)]
 | _=>ag}
def U5:List Dat→Ann
 | [.i k,.r p,.r l] => {cut:= [],loop:= [(6,[la 39 [(5,.ptr 1 0),(8,.own 5),(25,.own 0),(26,i64),(27,i64)] [.own 84 fE,.cells 128 [.ptr 2 0,.arrI 32 .u8,.iface 133 (.agg [.ptr 3 0])],gA,.cells 298 [xI,.own 4,i64,i64,i64],ob,.own 86 ru] (fun
   | [.i n,.i i,.r l',.li tg,.r it,.i at',.i a,.i b,.i c,.r s,.r o] =>n=l.length∧0≤i∧i≤n∧l'=l∧it=bj p∧(at',a,b,c,s)=pT l (cw p) i.toNat∧o=pZ l (cw p) i.toNat
   | _=>False) (fun | [.i n,.i i,_,_,_,_,_,_,_,_,_] =>(n-i).toNat | _=>0)])]}
 | _=> {cut:= [],loop:= []}
abbrev Qg:BPat:= .cells 90 [rb]
def ka (l:LD):Nat→Int
 | 0=>0
 | i+1=>iE .i64 (ka l i) (de .i64 (IntKind.i64.wrap (rv l i)) (8*(i:Int)))
def aq9:Ct:= {ps:= [rb],bs:= [],pre:=fun | [.r l] =>l.length≤1000000 | _=>False,res:=fun | [.r l] => .ret (.own 0) [ob] [.r l] | _=>ag}
def aq3:Ct:= {ps:= [.ptr 0 0,i64],bs:= [Qg],pre:=fun | [.i n,.r l] =>0≤n∧n≤l.length∧l.length≤1000000 | _=>False,res:=fun | [.i n,.r l] => .ret rb [Qg] [.r (l.take n.toNat),.r (l.drop n.toNat)] | _=>ag}
def arM:Ct:= {ps:= [.ptr 0 0,i64],bs:= [Qg],pre:=fun | [.i w,.r l] =>0≤w∧w≤2∧w≤l.length∧l.length≤1000000∧ar l | _=>False,res:=fun | [.i w,.r l] => .ret i64 [Qg] [.i (ka (l.take w.toNat) w.toNat),.r (l.drop w.toNat)] | _=>ag}
def al3:List Dat→Ann
 | [.i w,.r l] => {cut:= [],loop:= [(3,[la 26 [(5,i64),(10,rb),(11,i64),(12,i64)] [Qg] (fun | [.i x,.r l',.i n,.i i,.r rest] =>l'=l.take w.toNat∧n=w∧0≤i∧i≤n∧x=ka (l.take w.toNat) i.toNat∧rest=l.drop w.toNat | _=>False) (fun | [_,_,.i n,.i i,_] =>(n-i).toNat | _=>0)])]}
 | _=> {cut:= [],loop:= []}
abbrev dY (a:List Int):Prop:=
 a.length=32
def agO:Prop:=
 ∀ (a:List Int) (b:LD) (c d e f:Int) (g:LD),
 dY a→True→True∧(0:Int)=0∧a=a∧b=b∧c=c∧d=d∧e=e∧f=f∧g=g
def ach:Prop:=
 ∀ (a:List Int) (b:LD) (c d e f:Int) (g:LD) (h:Int),
 dY a→True→True∧h=h∧a=a∧b=b∧c=c∧d=d∧e=e∧f=f∧g=g∧h=h
def afA:af:=aj aes 25 (nF alP (ap aiu))
abbrev yo (a:List Int):Blk:=
 .cells (128:TypeId)
 [.ptr 1 0,.arrI 32 .u8 a,.iface (133:TypeId) (.agg [.ptr 2 0])]
abbrev uo (a:LD):SV:=
 .rd [.int .i64,.int .i64,.int .i64,.str] a
abbrev xw (a b c:Int):Blk:=
 .cells (298:TypeId)
 [.iface (253:TypeId) (.agg []),.own 3,.int .i64 a,.int .i64 b,.int .i64 c]
abbrev xe (a:LD):Blk:=
 .own (5:TypeId) [.int .u8] a
abbrev H3 (a:Int)(b:LD):Blk:=
 .cells (185:TypeId) [uo b,.int .i64 a,.ptr 5 0]
abbrev H9:List Blk:=
 [.cells (204:TypeId) [.int .i64 10]]
def Zb:Prop:=
 ∀ (a b c:Int) (d:LD) (e:List Int) (f:LD) (g h i j:Int) (k:LD),
 lM d→
 dY e→
 br f g→
 br f g∧
 bif ci f g a b c then
 bif ci f g a b c then (0:Int)=0∧e=e∧f=f∧g+1=g+1∧h=h∧i=i∧j=j∧k=k
 else
 Miss 2 eS
 else
 bif ci f g a b c then
 Miss 2 eS
 else (10:Int)=10∧e=e∧f=f∧g=g∧h=h∧i=i∧j=j∧k=k∧(10:Int)=10
def Y1:Prop:=
 ∀ (n n n:Int) (a:LD) (b:List Int) (c:LD) (d e f g:Int) (h:LD) (i:Int),
 lM a→
 dY b→
 br c d∧i≠0→
 (br c d∧i≠0)∧i=i∧b=b∧c=c∧d=d∧e=e∧f=f∧g=g∧h=h∧i=i
def abv:af:=aj afA 92 (nF alL (ap akV))
abbrev bD (a:LD):Int:=
 ↑a.length
abbrev DI (a b c d e:Int)(f g h:LD):Prop:=
 a=1∧
 ar f∧
 f.length≤900∧
 eO f=0∧
 br g b∧
 ci g b 1 1 (bD f)=true∧
 bT 800000000 (c,d,e,h)
abbrev xN (a b c:Int)(d e:LD):Int:=
 (hZ 1 1 (bD d) d (a,b,c,e)).snd.snd.fst
abbrev ua (a b c:Int)(d e:LD):LD:=
 (hZ 1 1 (bD d) d (a,b,c,e)).snd.snd.snd
abbrev Fh (a b c:Int)(d e:LD):Prop:=
 a=(hZ 1 1 (bD d) d (a,b,c,e)).fst∧
 b=(hZ 1 1 (bD d) d (a,b,c,e)).snd.fst∧
 c=xN a b c d e∧e=ua a b c d e
abbrev gR (a:LD):Int:=
 if eO a=0 then bD a else 0
abbrev XB (a:Int)(b:LD):Blk:=
 .cells (151:Nat)
 [.int .i64 (1:Int),.int .i64 a,.int .i64 (gR b),
 .rd [.int .u8] b]
def P51:Prop:=
 ∀ (a:Int) (b:LD) (c:List Int) (d:LD) (e f g h:Int) (i:LD),
 lM b→
 dY c→
 DI a e f g h b d i→
 True∧
 a=1∧
 bif decide (eO b≠0) then
 True∧
 bif decide (eO b=0) then
 (0:Int)=0∧c=c∧d=d∧e=e+1∧Fh f g h b i
 else
 Miss 2 eS
 else
 br d e∧
 bif ci d e 1 a (gR b) then
 a=1∧
 bif decide (eO b≠0) then
 True∧
 bif decide (eO b=0) then
 (0:Int)=0∧c=c∧d=d∧e+1=e+1∧Fh f g h b i
 else
 Miss 2 eS
 else
 (oO 1 a (gR b) b∧
 b.length≤1000∧ar b∧bM (f,g,h,i))∧
 (0:Int)=0∧
 c=c∧
 d=d∧
 e+1=e+1∧
 (bH (cI 1 a (gR b) b)
 (f,g,h,i) (cI 1 a (gR b) b).length).fst=
 (hZ 1 1 (bD b) b (f,g,h,i)).fst∧
 (bH (cI 1 a (gR b) b)
 (f,g,h,i) (cI 1 a (gR b) b).length).snd.fst=
 (hZ 1 1 (bD b) b (f,g,h,i)).snd.fst∧
 (bH (cI 1 a (gR b) b)
 (f,g,h,i)
 (cI 1 a (gR b) b).length).snd.snd.fst=
 xN f g h b i∧
 (bH
 (cI 1 a (gR b) b) (f,g,h,i)
 (cI 1 a (gR b) b).length).snd.snd.snd=
 ua f g h b i
 else
 Miss 2 eS
def acq:af:=aj abv 51 (ap aq4)
abbrev zh (a b c d e:Int)(f g:LD):Prop:=
 a=1∧
 br f b∧
 ci f b 2 3 1=true∧
 bT 800000000 (c,d,e,g)∧(dF (c,d,e,g)).snd.snd.fst=0
abbrev jG (a b c d:Int)(e:LD):Int×Int×Int×LD:=
 ((bH (cI 2 3 a []) (b,c,d,e)
 (cI 2 3 a []).length).fst,
 (bH (cI 2 3 a []) (b,c,d,e)
 (cI 2 3 a []).length).snd.fst,
 (bH (cI 2 3 a []) (b,c,d,e)
 (cI 2 3 a []).length).snd.snd.fst,
 (bH (cI 2 3 a []) (b,c,d,e)
 (cI 2 3 a []).length).snd.snd.snd)
abbrev Ek (a b c d:Int)(e:LD):Prop:=
 (aC (jG a b c d e)).snd.snd.snd.fst=
 (dF (b,c,d,e)).snd.snd.snd.fst
abbrev EY (a b c d:Int)(e:LD):Prop:=
 (aC (jG a b c d e)).snd.snd.snd.snd.fst=
 (dF (b,c,d,e)).snd.snd.snd.snd.fst
abbrev E4 (a b c d:Int)(e:LD):Prop:=
 (aC (jG a b c d e)).snd.snd.snd.snd.snd.fst=
 (dF (b,c,d,e)).snd.snd.snd.snd.snd.fst
abbrev Eu (a b c d:Int)(e:LD):Prop:=
 (aC (jG a b c d e)).snd.snd.snd.snd.snd.snd=
 (dF (b,c,d,e)).snd.snd.snd.snd.snd.snd
abbrev mD (a b c:Int)(d:LD):LD:=
 [b8 (dF (a,b,c,d)).fst]
abbrev EQ (a b c d e:Int)(f g:LD)(h:List Int):Prop:=
 (0:Int)=0∧
 h=h∧
 f=f∧
 a+1=a+1∧
 Ek b c d e g∧
 EY b c d e g∧
 E4 b c d e g∧Eu b c d e g∧ [] =mD c d e g
abbrev XJ (a:Int):Blk:=
 .cells (151:Nat) [.int .i64 (2:Int),.int .i64 (3:Int),.int .i64 a,.nils]
def P53:Prop:=
 ∀ (a:Int) (b:List Int) (c:LD) (d e f g:Int) (h:LD),
 dY b→
 zh a d e f g c h→
 br c d∧
 bif ci c d 2 3 a then
 (oO 2 3 a [] ∧
 0≤1000∧ar [] ∧bM (e,f,g,h))∧
 (a=1∧Ah (jG a e f g h))∧
 bif decide ((aC (jG a e f g h)).snd.snd.fst=0) then
 (0:Int)=0∧
 b=b∧
 c=c∧
 d+1=d+1∧
 Ek a e f g h∧
 EY a e f g h∧
 E4 a e f g h∧
 Eu a e f g h∧
 [b8 (aC (jG a e f g h)).fst] =
 mD e f g h
 else
 bif decide ((aC (jG a e f g h)).snd.snd.fst≠0) then
 True∧
 bif decide ((aC (jG a e f g h)).snd.snd.fst=0) then
 EQ d a e f g c h b
 else
 Miss 2 eS
 else EQ d a e f g c h b
 else
 Miss 2 eS
def aca:af:=aj acq 53 (ap ap1)
def agK:Prop:=
 ∀ (a:List Int) (b:LD) (c d e f:Int) (g:LD),
 dY a→
 True→
 True∧
 bif decide (c=bD b) then
 bif decide (c=bD b) then 0=(0:Int)∧a=a∧b=b∧c=c∧d=d∧e=e∧f=f∧g=g
 else
 Miss 2 eS
 else
 bif decide (c=bD b) then
 Miss 2 eS
 else 12=(12:Int)∧a=a∧b=b∧c=c∧d=d∧e=e∧f=f∧g=g∧(12:Int)=(12:Int)
def ab9:Prop:=
 ∀ (a:List Int) (b:LD) (c d e f:Int) (g:LD) (h:Int),
 dY a→True→True∧h=h∧a=a∧b=b∧c=c∧d=d∧e=e∧f=f∧g=g∧h=h
def Zm:af:=aj aca 27 (nF ai3 (ap akk))
abbrev iY (a:Int)(b:LD):Int:=
 ((b.getD a.toNat []).getD 0 (.int 0)).toInt
abbrev ze (a:Int)(b:LD):List Int:=
 [iY a b,((b.getD a.toNat []).getD 1 (.int 0)).toInt,
 ((b.getD a.toNat []).getD 2 (.int 0)).toInt,((b.getD a.toNat []).getD 3 (.int 0)).toInt]
def P36:Prop:=
 ∀ (a b c:Int) (d:LD) (e:List Int) (f:LD) (g h i j:Int) (k:LD),
 lM d→
 dY e→
 GG a b c d f g (h,i,j,k)→
 bif decide (a=0) then
 DI b g h i j d f k∧
 (0:Int)=0∧
 [] =IR a (h,i,j,k)∧
 e=e∧
 f=f∧
 g+1=(ig a d g (h,i,j,k)).fst∧
 (hZ (1:Int) (1:Int) (bD d) d (h,i,j,k)).fst=
 (ig a d g (h,i,j,k)).snd.fst∧
 (hZ (1:Int) (1:Int) (bD d) d (h,i,j,k)).snd.fst=
 (ig a d g (h,i,j,k)).snd.snd.fst∧
 xN h i j d k=(ig a d g (h,i,j,k)).snd.snd.snd.fst∧
 ua h i j d k=(ig a d g (h,i,j,k)).snd.snd.snd.snd
 else
 bif decide (a=1) then False
 else
 bif decide (a=2) then
 zh c g h i j f k∧
 ((1:Nat)≤9223372036854775807→
 ((mD h i j k=mD h i j k∧
 (↑(1:Nat):Int)=1∧
 (0:Int)=0∧
 e=e∧
 f=f∧
 g+1=g+1∧
 ((dF (h,i,j,k)).snd.snd.snd.fst,
 (dF (h,i,j,k)).snd.snd.snd.snd.fst,
 (dF (h,i,j,k)).snd.snd.snd.snd.snd.fst,
 (dF (h,i,j,k)).snd.snd.snd.snd.snd.snd)=
 (dF (h,i,j,k)).snd.snd.snd∧
 ((0:Int)=0∧([] :LD)= [] ∨
 (0:Int)=1∧
 [] =
 List.map ae
 (lw (dF (h,i,j,k)).fst)))∧
 True)∧
 ∀ (m:LD) (o p:Int) (q:List Int) (r:LD) (s t u v:Int) (w:LD) (n_13 x:Int)
 (y:LD),
 lM m→
 m=mD h i j k∧
 o=1∧
 x=0∧
 q=e∧
 r=f∧
 s=g+1∧
 (t,u,v,w)=(dF (h,i,j,k)).snd.snd.snd∧
 (p=0∧y= [] ∨
 p=1∧
 y=
 List.map ae
 (lw (dF (h,i,j,k)).fst))→
 bif decide (p<o) then
 bR p m∧
 p.toNat<m.length∧
 aq (ze p m)∧
 ((0:Int)≤0∧0≤(↑(32:Nat):Int)∧(↑(32:Nat):Int)≤(↑(32:Nat):Int)∧(0:Int)<(↑(32:Nat):Int))∧
 aR (y.length+32) (1:Nat)∧
 iR (p+1)∧
 (m=mD h i j k∧
 o=1∧
 x=0∧
 q=e∧
 r=f∧
 s=g+1∧
 (t,u,v,w)=(dF (h,i,j,k)).snd.snd.snd∧
 (p+1=0∧
 y++
 List.map (fun z=> [.int z])
 (List.take (32:Nat)
 (List.drop (0:Nat)
 (lw (ze p m))))=
 [] ∨
 p+1=1∧
 y++
 List.map (fun z=> [.int z])
 (List.take (32:Nat)
 (List.drop (0:Nat)
 (lw (ze p m))))=
 List.map ae
 (lw (dF (h,i,j,k)).fst)))∧
 (o-(p+1)).toNat<(o-p).toNat
 else
 x=0∧
 y=IR a (h,i,j,k)∧
 q=e∧
 r=f∧
 s=(ig a d g (h,i,j,k)).fst∧
 t=(ig a d g (h,i,j,k)).snd.fst∧
 u=(ig a d g (h,i,j,k)).snd.snd.fst∧
 v=(ig a d g (h,i,j,k)).snd.snd.snd.fst∧
 w=(ig a d g (h,i,j,k)).snd.snd.snd.snd)
 else
 bif decide (a=3) then False
 else
 True∧
 bif decide (g=bD f) then
 (0:Int)=0∧
 [] =IR a (h,i,j,k)∧
 e=e∧
 f=f∧
 g=(ig a d g (h,i,j,k)).fst∧
 h=(ig a d g (h,i,j,k)).snd.fst∧
 i=(ig a d g (h,i,j,k)).snd.snd.fst∧
 j=(ig a d g (h,i,j,k)).snd.snd.snd.fst∧
 k=(ig a d g (h,i,j,k)).snd.snd.snd.snd
 else
 Miss 2 eS
def RZ:af:=aj Zm 36 (ap apu)
abbrev yY (a:LD):Int:=
 (bJ (ab a)).snd.snd
abbrev Xl (a:Int)(b:LD):List (Nat×SV):=
 [(15,.rd [.int .u8] b),(14,.ptr 1 1),(13,.int .i64 a),
 (12,.ptr 1 0),(4,.int .i64 0),(3,.int .i64 0),
 (2,.nils),(1,.ptr 1 0)]
abbrev WY (a:LD):Blk:=
 .own (84:TypeId) [.int .i64,.int .i64,.int .i64,.sl [.int .u8]] a
abbrev Es (a b c d e:Int)(f g:LD):Int×LD:=
 (ig (iY a f) ((f.getD a.toNat []).getD 3 (.int 0)).toSl b
 (c,d,e,g)).snd.snd.snd
abbrev y6 (a b:LD):Prop:=
 ∀ (c d:Int) (e:LD) (f:List Int) (g:LD) (h i j k:Int) (m o:LD),
 lM e→
 dY f→
 lM o→
 c=bD a∧
 0≤d∧
 d≤c∧
 e=a∧
 g=bj b∧
 (h,i,j,k,m)=pT a (cw b) d.toNat∧
 o=pZ a (cw b) d.toNat→
 bif decide (d<c) then
 bR d e∧
 d.toNat<e.length∧
 GG (iY d e) ((e.getD d.toNat []).getD 1 (.int 0)).toInt
 ((e.getD d.toNat []).getD 2 (.int 0)).toInt ((e.getD d.toNat []).getD 3 (.int 0)).toSl g h (i,j,k,m)∧
 aR (o.length+1) 32∧
 iR (d+1)∧
 (c=bD a∧
 0≤d+1∧
 d+1≤c∧
 e=a∧
 g=bj b∧
 ((ig (iY d e)
 ((e.getD d.toNat []).getD 3 (.int 0)).toSl h (i,j,k,m)).fst,
 (ig (iY d e)
 ((e.getD d.toNat []).getD 3 (.int 0)).toSl h (i,j,k,m)).snd.fst,
 (ig (iY d e)
 ((e.getD d.toNat []).getD 3 (.int 0)).toSl h (i,j,k,m)).snd.snd.fst,
 (Es d h i j k e m).fst,(Es d h i j k e m).snd)=
 pT a (cw b) (d+1).toNat∧
 o++
 [[.int 0,
 .sl (IR (iY d e) (i,j,k,m))]] =
 pZ a (cw b) (d+1).toNat)∧
 (c-(d+1)).toNat<(c-d).toNat
 else (-1:Int)=(-1:Int)∧(0:Int)=0∧e=a∧o=lh a b
abbrev Xy (a:LD):SV:=
 .int .i64 (bJ (ab a)).snd.fst
def P13:Prop:=
 ∀ (a:Int) (b c:LD),
 lM b→
 lM c→
 uR a b c→
 bk b∧
 bif decide (a≠1)&&decide (a≠2) then (-1:Int)=(-1:Int)∧(15:Int)=0∧c=c∧ [] =lh c b
 else
 bif decide (yY b=0) then
 bif decide (a=2) then
 lM c→
 Miss 0 eS ∧
 y6 c b
 else
 lM c→
 ((bD c=bD c∧
 (0:Int)≤0∧
 0≤bD c∧
 c=c∧
 bj b=bj b∧
 ((0:Int),0,136,0,
 nk (List.map ae (qV a b)))=
 pT c (cw b) (0:Nat)∧
 [] =pZ c (cw b) (0:Nat))∧
 True)∧
 y6 c b
 else
 bif decide (yY b≠0) then
 (bJ (ab b)).snd.fst=(-1:Int)∧
 yY b=0∧c=c∧ [] =lh c b
 else
 lM c→
 Miss 0 eS ∧
 y6 c b
theorem ZK:IW RZ Tryz.f13 aab U5=P13:=by kernel_rfl
def ag4:af:=aj RZ 13 (ap aab)
def P62:Prop:=
 ∀ (a:LD),
 lM a→
 a.length≤1000000→∀ (b:Bool),(b=true→a= [])→bif b then [] =a else aR (0+a.length) 1∧ [] ++a=a
def Ym:af:=aj ag4 62 (ap aq9)
abbrev eH (a:Int)(b:LD):LD:=
 List.take a.toNat b
def P34:Prop:=
 ∀ (a:Int) (b:LD),
 lM b→
 0≤a∧a≤bD b∧b.length≤1000000→
 lM b→
 bif decide (bD b<a) then False
 else
 ((0:Int)≤0∧0≤a∧a≤bD b)∧
 (List.drop 0 (eH a b)).length≤1000000∧
 (0≤a∧a≤bD b∧bD b≤bD b)∧
 List.drop 0 (eH a b)=eH a b∧
 List.drop a.toNat (List.take (bD b).toNat b)=List.drop a.toNat b
def abf:af:=aj Ym 34 (ap aq3)
def P33:Prop:=
 ∀ (a:Int) (b:LD),
 lM b→
 0≤a∧a≤2∧a≤bD b∧b.length≤1000000∧ar b→
 (0≤a∧a≤bD b∧b.length≤1000000)∧
 (lM (eH a b)→
 ((eH a b=eH a b∧
 (↑(eH a b).length:Int)=a∧
 (0:Int)≤0∧
 0≤(↑(eH a b).length:Int)∧
 0=ka (eH a b) 0∧List.drop a.toNat b=List.drop a.toNat b)∧
 True)∧
 ∀ (c:Int) (d:LD) (e f:Int) (g:LD),
 lM d→
 d=eH a b∧
 e=a∧
 0≤f∧f≤e∧c=ka (eH a b) f.toNat∧g=List.drop a.toNat b→
 bif decide (f<e) then
 bR f d∧
 f.toNat<d.length∧
 iR ((8:Int)*f)∧
 (0:Int)≤8*f∧
 iR (f+1)∧
 (d=eH a b∧
 e=a∧
 0≤f+1∧
 f+1≤e∧
 iE .i64 c
 (de .i64 (IntKind.i64.wrap (iY f d)) ((8:Int)*f))=
 ka (eH a b) (f+1).toNat∧
 g=List.drop a.toNat b)∧
 (e-(f+1)).toNat<(e-f).toNat
 else c=ka (eH a b) a.toNat∧g=List.drop a.toNat b)
def M0:af:=aj abf 33 (ap arM)
theorem cN {b:Bool} {p:Prop} (h1:b=true) (h2:b=false):p:=by rw [h1] at h2;cases h2
theorem dJ {p:Prop} [Decidable p] {q:Prop} (h:¬ p) (e:decide p=true):q:=absurd (av e) h
theorem cL {p:Prop} [Decidable p] {q:Prop} (h:p) (e:decide p=false):q:=absurd h (au e)
theorem ahH:agO:=by
 delta agO dY
 exact fun l its n a b c s _ _=>⟨trivial,rfl,rfl,rfl,rfl,rfl,rfl,rfl,rfl⟩
theorem akH:ach:=by
 delta ach dY
 exact fun l its n a b c s w _ _=>⟨trivial,rfl,rfl,rfl,rfl,rfl,rfl,rfl,rfl,rfl⟩
theorem c25:(base.with afA).Ok:=ac YB (ju (ai am YB Tryz.func25 (by kernel_rfl) Tryz.call25 (by kernel_rfl) ahH) (ai am YB Tryz.func25 (by kernel_rfl) Tryz.call25 (by kernel_rfl) akH))
theorem akw:Zb:=by
 delta Zb lM dY yo uo xw xe H3 H9
 exact fun k t n d tg its at' a b c s _ _ h=>⟨h,aa (fun e=>aa (fun _=>⟨rfl,rfl,rfl,rfl,rfl,rfl,rfl,rfl⟩) fun e'=>cN e e') fun e=>aa (fun e'=>cN e' e) fun _=>⟨rfl,rfl,rfl,rfl,rfl,rfl,rfl,rfl,rfl⟩⟩
theorem aiF:Y1:=by
 delta Y1 lM dY
 exact fun _ _ _ _ _ _ _ _ _ _ _ _ _ _ h=>⟨h,rfl,rfl,rfl,rfl,rfl,rfl,rfl,rfl,rfl⟩
theorem c92:(base.with abv).Ok:=ac c25 (ju (ai am c25 Tryz.func92 (by kernel_rfl) Tryz.call92 (by kernel_rfl) akw) (ai am c25 Tryz.func92 (by kernel_rfl) Tryz.call92 (by kernel_rfl) aiF))
theorem apL:P51:=by
 delta P51 lM dY yo uo xw xe H3 H9 bD DI xN ua Fh gR XB
 rintro t d tg its at' a b c s _ _ ⟨rfl,hb,hd,hc,hp,hh,hs⟩
 refine ⟨trivial,rfl,aa (fun e=>dJ (fun h=>h hc) e) fun _=> ?_⟩
 rw [if_pos hc]
 exact ⟨hp,aa (fun _=>⟨rfl,aa (fun e=>dJ (fun h=>h hc) e) fun _=>⟨⟨fun _=>rfl,by omega,hb,aF (by omega) hs⟩,rfl,rfl,rfl,rfl,rfl,rfl,rfl,rfl⟩⟩) fun e=>cN hh e⟩
theorem c51:(base.with acq).Ok:=ac c92 (ai am c92 Tryz.func51 (by kernel_rfl) Tryz.call51 (by kernel_rfl) apL)
theorem PA {k t n m:Int} {d:LD} (hd:ar d) {x:Sp} (h:bT m x):bT (m+(d.length+6:Nat)) (hZ k t n d x):=
 aF (by have:=L6 k t n d;omega) (ya (U3 k t n hd) h _)
theorem VU:ar [] :=fun i=>qs (Nat.zero_le i)
theorem arv:P53:=by
 delta P53 dY yo uo xw xe H3 H9 zh jG Ek EY E4 Eu mD EQ XJ
 rintro n tg its at' a b c s _ ⟨rfl,hp,hh,hs,hf⟩
 have ho:=PA (k:=2) (t:=3) (n:=1) VU hs
 refine ⟨hp,aa (fun _=>⟨⟨fun h=>by omega,by omega,VU,aF (by omega) hs⟩,⟨rfl,aF (by simp) ho⟩,aa (fun _=>⟨rfl,rfl,rfl,rfl,rfl,rfl,rfl,rfl,rfl⟩) fun e=>cL hf e⟩) fun e=>cN hh e⟩
theorem Yn:(base.with aca).Ok:=ac c51 (ai am c51 Tryz.func53 (by kernel_rfl) Tryz.call53 (by kernel_rfl) arv)
theorem amE:agK:=by
 delta agK dY yo uo xw xe bD
 exact fun tg its n a b c s _ _=>⟨trivial,aa (fun e=>aa (fun _=>⟨rfl,rfl,rfl,rfl,rfl,rfl,rfl,rfl⟩) fun e'=>cN e e') fun e=>aa (fun e'=>cN e' e) fun _=>⟨rfl,rfl,rfl,rfl,rfl,rfl,rfl,rfl,rfl⟩⟩
theorem amv:ab9:=by
 delta ab9 dY
 exact fun _ _ _ _ _ _ _ _ _ _=>⟨trivial,rfl,rfl,rfl,rfl,rfl,rfl,rfl,rfl,rfl⟩
theorem c27:(base.with Zm).Ok:=ac Yn (ju (ai am Yn Tryz.func27 (by kernel_rfl) Tryz.call27 (by kernel_rfl) amE) (ai am Yn Tryz.func27 (by kernel_rfl) Tryz.call27 (by kernel_rfl) amv))
theorem M3 {w:List Int} (h:w.length=4): [gI w 0,gI w 1,gI w 2,gI w 3] =w:=by
 match w,h with
 | [a,b,c,d],_=>rfl
theorem EC (a:List Int):(dG a).length=4:=by unfold dG;exact EH _ _
theorem N2 {a:List Int} (h:aq a):aq (dG a):=by unfold dG;exact Ki h (j7 512)
theorem Hq:∀ (f i:Nat) (x:Sp),(mZ x f i).1.length=4∧aq (mZ x f i).1
 | 0,i,x=>⟨rfl,Jg⟩
 | f+1,i,x=>by
  have h1:=EC (lD x)
  have h2:aq (dG (lD x)):=N2 (Fd _ _)
  rw [mZ]
  generalize dG (lD x)=Y at *
  split
  ·exact Hq f _ _
  ·exact ⟨h1,h2⟩
theorem Lf (x:Sp):(aC x).1.length=4:=by rw [aC,ak];exact (Hq _ _ _).1
theorem Wc (x:Sp):aq (aC x).1:=by rw [aC,ak];exact (Hq _ _ _).2
theorem Ei (a:List Int):(lw a).length=32:=iW _ 4
theorem aqw:P36:=by
 delta P36 lM iR aR bR dY yo uo xw xe bD DI xN ua zh mD iY ze
 rintro k t n d tg its at' a b c s _ _ ⟨hp,hs,h | h | h⟩
 ·obtain ⟨rfl,rfl,hb,hd,hc,hh⟩:=h
  exact aa (fun _=>⟨⟨rfl,hb,hd,hc,hp,hh,hs⟩,rfl,rfl,rfl,rfl,rfl,rfl,rfl,rfl,rfl⟩) fun e=>cL rfl e
 ·obtain ⟨rfl,rfl,hh,hf⟩:=h
  have hx1:=Lf (hZ 2 3 1 [] (a,b,c,s))
  have hx2:=Wc (hZ 2 3 1 [] (a,b,c,s))
  refine aa (fun e=>dJ (by decide) e) fun _=>aa (fun e=>dJ (by decide) e) fun _=>aa (fun _=>⟨⟨rfl,hp,hh,hs,hf⟩,fun _=>⟨⟨⟨rfl,rfl,rfl,rfl,rfl,rfl,rfl,.inl ⟨rfl,rfl⟩⟩,trivial⟩,?_⟩⟩) fun e=>cL rfl e
  rintro l m i tg' its' at2 a' b' c' s' e0 e o _ ⟨rfl,rfl,rfl,rfl,rfl,rfl,hst,hio⟩
  refine aa (fun hlt=> ?_) fun hlt=> ?_
  ·have hlt:=av hlt
   obtain ⟨rfl,rfl⟩:i=0∧o= [] :=hio.resolve_right fun h=>by omega
   have ew: [((([b8 (dF (a,b,c,s)).1].getD (0:Int).toNat []).getD 0 (CD.int 0))).toInt,((([b8 (dF (a,b,c,s)).1].getD (0:Int).toNat []).getD 1 (CD.int 0))).toInt,((([b8 (dF (a,b,c,s)).1].getD (0:Int).toNat []).getD 2 (CD.int 0))).toInt,((([b8 (dF (a,b,c,s)).1].getD (0:Int).toNat []).getD 3 (CD.int 0))).toInt] =(dF (a,b,c,s)).1:=M3 hx1
   rw [ew]
   refine ⟨⟨by omega,Int.one_pos⟩,Nat.one_pos,hx2,⟨by decide,by decide,by decide,by decide⟩,⟨by decide,by decide⟩,⟨by decide,by decide⟩,⟨rfl,rfl,rfl,rfl,rfl,rfl,hst,.inr ⟨rfl,?_⟩⟩,by decide⟩
   rw [List.drop_zero,List.take_of_length_le (by rw [Ei];exact Nat.le_refl _),List.nil_append]
   rfl
  ·have hlt:=au hlt
   obtain ⟨rfl,rfl⟩:i=1∧o=(lw (dF (a,b,c,s)).1).map ae:=hio.resolve_left fun h=>by omega
   have hst':(a',b',c',s')=(ig 2 d at' (a,b,c,s)).2:=hst
   refine ⟨rfl,rfl,rfl,rfl,rfl,congrArg (·.1) hst',congrArg (·.2.1) hst',congrArg (·.2.2.1) hst',congrArg (·.2.2.2) hst'⟩
 ·obtain ⟨rfl,hat⟩:=h
  exact aa (fun e=>dJ (by decide) e) fun _=>aa (fun e=>dJ (by decide) e) fun _=>aa (fun e=>dJ (by decide) e) fun _=>aa (fun e=>dJ (by decide) e) fun _=>⟨trivial,aa (fun _=>⟨rfl,rfl,rfl,rfl,rfl,rfl,rfl,rfl,rfl⟩) fun e=>cL hat e⟩
theorem c36:(base.with RZ).Ok:=ac c27 (ai ajT c27 Tryz.func36 (by kernel_rfl) Tryz.call36 (by kernel_rfl) aqw)
theorem Lc (l:LD) (x:Sp):∀ i,(pZ l x i).length=i
 | 0=>rfl
 | i+1=>by rw [pZ,cx,Lc l x i];rfl
theorem aq2:P13:=by
 delta P13 lM iR aR bR dY bD iY yY Xl WY Es y6 Xy
 rintro k p l _ _ ⟨rfl,hp,hok,hl,hpre⟩
 refine ⟨hp,aa (fun e=>by cases e) fun _=>aa (fun _=>aa (fun e=>dJ (by decide) e) fun _=>fun _=>⟨⟨⟨rfl,by omega,by omega,rfl,rfl,rfl,rfl⟩,trivial⟩,?_⟩) fun e=>cL hok e⟩
 rintro n i' l' tg its at' a b c s o _ _ _ ⟨rfl,h0,h1,rfl,rfl,hst,rfl⟩
 obtain ⟨i,rfl⟩:=Int.eq_ofNat_of_zero_le h0
 rw [ax] at hst ⊢
 refine aa (fun h=> ?_) fun h=> ?_
 ·have h:=av h
  have hi:i<l'.length:=by omega
  have hpr:=hpre i hi
  rw [← hst] at hpr
  have hn:pT l' (cw p) (i+1)=ig (cC l' i 0) (cD l' i) at' (a,b,c,s):=by rw [pT,← hst]
  have hm:pZ l' (cw p) (i+1)=pZ l' (cw p) i++ [[.int 0,.sl (IR (cC l' i 0) (a,b,c,s))]] :=by rw [pZ,← hst]
  rw [show ((i:Int)+1).toNat=i+1 from by omega,hn,hm,Lc]
  exact ⟨⟨by omega,h⟩,hi,hpr,⟨by omega,by omega⟩,⟨by omega,by omega⟩,⟨rfl,by omega,by omega,rfl,rfl,rfl,rfl⟩,by omega⟩
 ·have h:=au h
  rw [show i=l'.length from by omega]
  exact ⟨rfl,rfl,rfl,(by rw [lh,ak])⟩
theorem c13:(base.with ag4).Ok:=ac c36 (ai U5 c36 Tryz.func13 (by kernel_rfl) Tryz.call13 (by kernel_rfl) aq2)
theorem apx:P62:=by
 delta P62 lM aR
 intro l _ h β hβ
 refine aa (fun e=>(hβ e).symm) fun _=>⟨⟨by omega,by omega⟩,rfl⟩
theorem c62:(base.with Ym).Ok:=ac c13 (ai am c13 Tryz.func62 (by kernel_rfl) Tryz.call62 (by kernel_rfl) apx)
theorem arN:P34:=by
 delta P34 lM bD eH
 rintro n l _ ⟨h0,h1,h2⟩ _
 refine aa (fun e=> ?_) fun _=>⟨⟨by omega,h0,h1⟩,?_,⟨h0,h1,by omega⟩,by rw [List.drop_zero],?_⟩
 ·have:=av e
  omega
 ·rw [List.drop_zero,List.length_take];omega
 ·rw [ax,List.take_length]
theorem c34:(base.with abf).Ok:=ac c62 (ai am c62 Tryz.func34 (by kernel_rfl) Tryz.call34 (by kernel_rfl) arN)
theorem apN:P33:=by
 delta P33 lM iR bR bD iY eH
 rintro w l _ ⟨h0,h1,h2,h3,hb⟩
 obtain ⟨k,rfl⟩:=Int.eq_ofNat_of_zero_le h0
 rw [ax]
 have hk:(l.take k).length=k:=by rw [List.length_take];omega
 refine ⟨⟨h0,h2,h3⟩,fun _=>⟨⟨⟨rfl,by rw [hk],by omega,by omega,rfl,rfl⟩,trivial⟩,?_⟩⟩
 rintro x l' n i' rest _ ⟨rfl,rfl,g0,g1,rfl,rfl⟩
 obtain ⟨i,rfl⟩:=Int.eq_ofNat_of_zero_le g0
 rw [ax]
 refine aa (fun h=> ?_) fun h=> ?_
 ·have h:=av h
  rw [show ((i:Int)+1).toNat=i+1 from by omega]
  exact ⟨⟨g0,by rw [hk];exact h⟩,by rw [hk];omega,⟨by omega,by omega⟩,by omega,⟨by omega,by omega⟩,⟨rfl,rfl,by omega,by omega,rfl,rfl⟩,by omega⟩
 ·have h:=au h
  rw [show i=k from by omega]
  exact ⟨rfl,rfl⟩
theorem c33:(base.with M0).Ok:=ac c34 (ai al3 c34 Tryz.func33 (by kernel_rfl) Tryz.call33 (by kernel_rfl) apN)
def spR:LD:=([1,16,0,1,1,1,0,0,0,0,0,2,3,1,0,0,0,0,0,0,1,1,0,7,2,1,0,4] :List Int).map ae
def cT:LD:=([1,1,1,0,0,0,0,0,2,3,1,0,0,0,0,0] :List Int).map ae
def iL (b:Int):LD:= [[.int 0,.int 1,.int 0,.sl [[.int b]]],[.int 2,.int 0,.int 1,.sl []],[.int 4,.int 0,.int 0,.sl []]]
def jJ (j:Nat):LD×LD:=(spR.drop ([19,24,27,28].getD j 28),(iL 7).take j)
def UU:Code:=match Tryz.f10.body with | some (.seq x _)=>x | _=> .skip
def Ux:Code:=match Tryz.f10.body with | some (.seq _ (.seq _ z))=>z | _=> .skip
def NA:Oper:=match Tryz.f10.body with | some (.seq _ (.seq (.region _ os _) _))=>(os[0]?).getD default | _=>default
def NR:Oper:=match Tryz.f10.body with | some (.seq _ (.seq (.region _ os _) _))=>(os[1]?).getD default | _=>default
def Ff:Ct:= {ps:= [rb],bs:= [],pre:=fun | [.r l] =>l=spR | _=>False,res:=fun | [.r l] => .ret (.tup [.agg [i64,rb,.own 0],i64]) [.own 84 fE] [.i 1,.r cT,.i 0,.r (iL 7)] | _=>ag}
def VW:List Dat→Ann:=fun _=> {cut:= [],loop:= [(5,[la 48 [(2,.ptr 0 0),(3,.ptr 1 0),(4,.ptr 2 0)] [.cells 26 [i64,rb,.own 3],.cells 27 [i64],.cells 90 [rb],.own 84 fE] (fun
 | [.i k,.r p,.i e,.r rest,.r l] =>k=1∧p=cT∧e=0∧((rest,l)=jJ 0∨(rest,l)=jJ 1∨(rest,l)=jJ 2∨(rest,l)=jJ 3)
 | _=>False) (fun | [_,_,_,.r rest,_] =>rest.length | _=>0)])]}
end
end Go.Proofs.YteiecapbaeajdaaGreatDoor
namespace Go.Proofs.YteiecapbaeajdaaGreatDoor
open Go Go.Avc Go.Proofs
open Go.RowKit Go.Extern.Stop Go.Stop Go.Extern
set_option linter.unusedVariables false
set_option linter.unusedSimpArgs false
set_option maxRecDepth 100000
theorem QC:JH Tryz.prog 32 2:=by
 intro vs w hvs
 refine ⟨Tryz.call32 vs w,?_⟩
 have hbin:∀ w:World,(binOp BinOp.neq 20 .nilIface .nilIface).run Tryz.prog w= .ok (.bool false) w:=fun _=>by kernel_rfl
 have hnt:Tryz.f32.ntmps=17:=by kernel_rfl
 obtain ⟨p,q,rfl⟩:∃ p q,vs= #[p,q] :=by
  rcases vs with ⟨l⟩
  match l,hvs with
  | [p,q],_=>exact ⟨p,q,rfl⟩
 refine callsD_of_wpS Tryz.func32 rfl fun c₀ cs hu=> ?_
 apply wpS_seq
 apply wpS_region
 simp [wpOpsS,go_sem,recoverD,hu,hnt,Exit.thenS]
 apply wpS_seq
 apply wpS_region
 simp [wpOpsS,go_sem,hbin,Exit.thenS]
 refine wpS_cond (t:=false) (by simp [Act.eval,Array.replicate]) ?_
 simp only [if_false,Bool.false_eq_true]
 refine wpS_of_wp (wp_skip ?_)
 have hres:Tryz.f32.results= #[] :=by kernel_rfl
 cases c₀
 simp_all [bodyPostS,results,Exit.thenS]
end Go.Proofs.YteiecapbaeajdaaGreatDoor
namespace Go.Proofs.YteiecapbaeajdaaGreatDoor
open Go Go.Avc Go.Proofs
set_option linter.unusedVariables false
set_option maxRecDepth 100000
set_option linter.unusedSimpArgs false
open Go Go.Avc
noncomputable section
abbrev NJ (a:LD):Prop:=
 (0:Int)≤1∧(1:Int)≤2∧1≤(↑a.length:Int)∧a.length≤1000000∧ar a
abbrev Ob (a:LD):Prop:=
 (0:Int)≤2∧
 (2:Int)≤2∧
 2≤(↑(List.drop 1 a).length:Int)∧(List.drop 1 a).length≤1000000∧ar (List.drop 1 a)
abbrev zW (a:LD):Int:=
 ka (List.take 2 (List.drop 1 a)) 2
abbrev lS (a:LD):Int:=
 ka (List.take 1 a) 1
abbrev oX:LD:=
 [[.int 1],[.int 1],[.int 1],[.int 0],[.int 0],[.int 0],
 [.int 0],[.int 0],[.int 2],[.int 3],[.int 1],[.int 0],
 [.int 0],[.int 0],[.int 0],[.int 0]]
abbrev Dn (a:LD):LD×LD:=
 (List.drop (zW a).toNat (List.drop 2 (List.drop 1 a)),[])
abbrev Cw:LD:=
 [[.int 0,.int 1,.int 0,.sl [[.int 7]]],
 [.int 2,.int 0,.int 1,.sl []],
 [.int 4,.int 0,.int 0,.sl []]]
abbrev zQ (a:LD):Int:=
 ka (List.take 2 (List.drop 1 (List.drop 1 a))) 2
abbrev yX (a:LD):LD:=
 List.drop 2 (List.drop 1 (List.drop 1 a))
abbrev B2 (a b:LD):LD×LD:=
 (List.drop (zQ a).toNat (yX a),
 b++
 [[.int (lS a),.int (ka (List.take 1 (List.drop 1 a)) 1),
 .int 0,.sl (List.take (zQ a).toNat (yX a))]])
abbrev xF (a b:LD):LD×LD:=
 (List.drop 2 (List.drop 1 a),
 b++ [[.int (lS a),.int 0,.int (zW a),.sl []]])
abbrev JB (a b:Int)(c d e:LD):Prop:=
 Ob c∧
 aR (d.length+1) 48∧
 (a=1∧
 e=oX∧
 b=0∧
 (xF c d=jJ 0∨
 xF c d=jJ 1∨
 xF c d=jJ 2∨
 xF c d=jJ 3))∧
 (List.drop 2 (List.drop 1 c)).length<c.length
abbrev yu (a b:LD):LD×LD:=
 (List.drop 1 a,b++ [[.int (lS a),.int 0,.int 0,.sl []]])
abbrev I8 (a b:Int)(c d e:LD):Prop:=
 aR (c.length+1) 48∧
 (a=1∧
 d=oX∧
 b=0∧
 (yu e c=jJ 0∨
 yu e c=jJ 1∨
 yu e c=jJ 2∨
 yu e c=jJ 3))∧
 (List.drop 1 e).length<e.length
abbrev JE (a b:Int)(c d e:LD):Prop:=
 bif decide (lS c=3) then
 bif decide (lS c=3) then I8 a b d e c
 else (0:Int)=1∧ [] =oX∧(5:Int)=0∧ [] =Cw
else
 bif decide (lS c=4) then I8 a b d e c
 else (0:Int)=1∧ [] =oX∧(5:Int)=0∧ [] =Cw
def Zs:Prop:=
 ∀ (a:LD),
 lM a→
 a=
 [[.int 1],[.int 16],[.int 0],[.int 1],[.int 1],[.int 1],
 [.int 0],[.int 0],[.int 0],[.int 0],[.int 0],[.int 2],
 [.int 3],[.int 1],[.int 0],[.int 0],[.int 0],[.int 0],
 [.int 0],[.int 0],[.int 1],[.int 1],[.int 0],[.int 7],
 [.int 2],[.int 1],[.int 0],[.int 4]] →
 NJ a∧
 Ob a∧
 (0≤zW a∧
 zW a≤(↑(List.drop 2 (List.drop 1 a)).length:Int)∧
 (List.drop 2 (List.drop 1 a)).length≤1000000)∧
 ((lS a=(1:Int)∧
 List.take (zW a).toNat (List.drop 2 (List.drop 1 a))=oX∧
 (0:Int)=(0:Int)∧
 (Dn a=jJ 0∨
 Dn a=jJ 1∨
 Dn a=jJ 2∨
 Dn a=jJ 3))∧
 True)∧
 ∀ (b:Int) (c:LD) (d:Int) (e f:LD),
 lM c→
 lM e→
 b=(1:Int)∧
 c=oX∧
 d=(0:Int)∧
 ((e,f)=jJ 0∨
 (e,f)=jJ 1∨
 (e,f)=jJ 2∨(e,f)=jJ 3)→
 lM e→
 bif decide ((0:Int)<↑e.length) then
 NJ e∧
 (lM f→
 bif decide (↑f.length=(200:Int)) then
 0=(1:Int)∧ [] =oX∧(9:Int)=(0:Int)∧ [] =Cw
 else
 bif decide (lS e=(0:Int)) then
 ((0:Int)≤(1:Int)∧
 (1:Int)≤(2:Int)∧
 1≤(↑(List.drop 1 e).length:Int)∧
 (List.drop 1 e).length≤1000000∧ar (List.drop 1 e))∧
 ((0:Int)≤(2:Int)∧
 (2:Int)≤(2:Int)∧
 2≤(↑(List.drop 1 (List.drop 1 e)).length:Int)∧
 (List.drop 1 (List.drop 1 e)).length≤1000000∧
 ar (List.drop 1 (List.drop 1 e)))∧
 (0≤zQ e∧
 zQ e≤(↑(yX e).length:Int)∧
 (yX e).length≤1000000)∧
 aR (f.length+1) 48∧
 (b=(1:Int)∧
 c=oX∧
 d=(0:Int)∧
 (B2 e f=jJ 0∨
 B2 e f=jJ 1∨
 B2 e f=jJ 2∨
 B2 e f=jJ 3))∧
 (List.drop (zQ e).toNat (yX e)).length<e.length
 else
 bif decide (lS e=(1:Int)) then
 bif decide (lS e=(1:Int)) then JB b d e f c
 else JE b d e f c
 else
 bif decide (lS e=(2:Int)) then JB b d e f c
 else JE b d e f c)
 else b=(1:Int)∧c=oX∧(0:Int)=(0:Int)∧f=Cw
theorem Vl:Ff.VCD (base.with M0) Tryz.f10.results.toList Tryz.f10.ntmps (Tryz.f10.ntmps-Ff.ps.length) UU NA NR 6 32 2 Ux VW=Zs:=by kernel_rfl
def Se:af:=aj M0 10 (ap Ff)
theorem tY {l:LD} (h:(l.all fun r=>decide (0≤(r.getD 0 .d0).toInt)&&decide ((r.getD 0 .d0).toInt<256))=true):ar l:=fun i=>by
 rcases Nat.lt_or_ge i l.length with hi | hi
 ·have:=List.all_eq_true.1 h l[i] (List.getElem_mem hi)
  simp only [cV,aK] at this
  have e:l.getD i [] =l[i] :=by rw [aw,cJ hi];rfl
  unfold rv
  rw [e]
  exact this
 ·exact qs hi
theorem nd {b:Bool} {p q:Prop} (h:b=true) (hp:p):bif b then p else q:=by rw [h];exact hp
theorem dq {b:Bool} {p q:Prop} (h:b=false) (hq:q):bif b then p else q:=by rw [h];exact hq
theorem aqj:Zs:=by
 delta Zs lM aR NJ Ob zW lS oX Dn Cw zQ yX B2 xF JB yu I8 JE
 rintro l _ rfl
 refine ⟨?_,?_,?_,?_,?_⟩
 rotate_left 4
 ·rintro k p e rest l _ _ ⟨rfl,rfl,rfl,h⟩
  rcases h with h | h | h | h
  all_goals
   cases h
   repeat' first
    | exact trivial
    | exact tY (by decide+kernel)
    | refine nd (by decide+kernel) ?_
    | refine dq (by decide+kernel) ?_
    | exact .inl rfl
    | exact .inr (.inl rfl)
    | exact .inr (.inr (.inl rfl))
    | exact .inr (.inr (.inr rfl))
    | apply And.intro
    | rfl
    | decide+kernel
    | intro _
 all_goals
  repeat' first
   | exact trivial
   | exact tY (by decide+kernel)
   | exact .inl rfl
   | apply And.intro
   | rfl
   | decide+kernel
theorem arP:da (base.with M0) 10 (ap Ff):=Si (fn:=Tryz.f10) (x:=UU) (z:=Ux) (i1:=1) (o1:=NA) (o2:=NR) (t:=6) (fc:=32) (nc:=2) (k:=Tryz.f10.ntmps-Ff.ps.length) (ct:=Ff) c33 Tryz.func10 (by kernel_rfl) (by kernel_rfl) (by kernel_rfl) (by kernel_rfl) QC VW (by kernel_rfl) (fun vs w _=>Tryz.call10 vs w) (by rw [Vl];exact aqj)
theorem c10:(base.with Se).Ok:=ac c33 arP
def ct9:Ct:= {ps:= [],bs:= [],pre:=fun _=>True,res:=fun _=> .ret .bool [] [.b true]}
abbrev N5:LD:=
 [[.int 1],[.int 16],[.int 0],[.int 1],[.int 1],[.int 1],
 [.int 0],[.int 0],[.int 0],[.int 0],[.int 0],[.int 2],
 [.int 3],[.int 1],[.int 0],[.int 0],[.int 0],[.int 0],
 [.int 0],[.int 0],[.int 1],[.int 1],[.int 0],[.int 7],
 [.int 2],[.int 1],[.int 0],[.int 4]]
abbrev zd:LD:=
 [[.int 1],[.int 1],[.int 1],[.int 0],[.int 0],[.int 0],
 [.int 0],[.int 0],[.int 2],[.int 3],[.int 1],[.int 0],
 [.int 0],[.int 0],[.int 0],[.int 0]]
abbrev NS:LD:=
 [[.int 2,.int 0,.int 1,.sl []],
 [.int 4,.int 0,.int 0,.sl []]]
abbrev Hd:LD:=
 [.int 0,.int 1,.int 0,.sl [[.int 7]]] ::NS
abbrev NM:LD:=
 [.int 0,.int 1,.int 0,.sl [[.int 8]]] ::NS
abbrev nC:LD:=
 lh (iL 7) cT
abbrev Mu:Bool:=
 decide ((0:Int)≠0)||decide ((0:Int)≠0)||decide ((↑nC.length:Int)≠3)
abbrev Du:Bool:=
 Mu ||
 decide ((↑(lh (iL 8) cT).length:Int)≠3)
abbrev zG:Bool:=
 Du ||
 decide
 ((((lh Hd zd).getD 2 []).getD 0
 (.int 0)).toInt≠
 (0:Int))
abbrev M4:Bool:=
 Du||decide (((nC.getD (Int.toNat 2) []).getD 0 .d0).toInt≠0)
abbrev tT:LD:=
 ((nC.getD (Int.toNat 1) []).getD 1 .d0).toSl
abbrev Jc:LD:=
 (((lh (iL 8) cT).getD (Int.toNat 1) []).getD
 1 .d0).toSl
def P9:Prop:=
 True→
 N5=N5∧
 ((bw false (decide ((0:Int)≠0))=true→lM (iL 7))→
 uR 1 zd Hd∧
 ((0:Int)≤0∧(0:Int)<(↑(3:Nat):Int))∧
 (0:Nat)<(3:Nat)∧
 uR 1 zd NM∧
 ((bw false (decide ((0:Int)≠0)||decide ((0:Int)≠0))=true→
 lM nC)→
 (bw false Mu=true→
 lM
 (lh (iL 8) cT))→
 ((!Du)=true→bR 2 nC)∧
 ((!Du)=true→(2:Nat)<nC.length)∧
 ((!zG)=true→bR 1 nC)∧
 ((!zG)=true→(1:Nat)<nC.length)∧
 ((bw false M4=true→lM tT)→
 ((!(zG||decide ((↑tT.length:Int)≠32)))=true→
 bR 1
 (lh (iL 8) cT))∧
 ((!(zG||decide ((↑tT.length:Int)≠32)))=true→
 (1:Nat) <
 (lh (iL 8)
 cT).length)∧
 ((bw false (M4||decide ((↑tT.length:Int)≠32))=
 true→
 lM Jc)→
 bif
 zG||decide ((↑tT.length:Int)≠32) ||
 decide ((↑Jc.length:Int)≠32) then
 false=true
 else
 bR 1 nC∧
 (1:Nat)<nC.length∧
 bR 1
 (lh (iL 8)
 cT)∧
 (1:Nat) <
 (lh (iL 8)
 cT).length∧
 decide
 (ab
 (((lh Hd
 zd).getD
 1 []).getD
 1 (.int 0)).toSl≠
 ab
 (((lh NM
 zd).getD
 1 []).getD
 1 (.int 0)).toSl)=
 true))))
theorem e9:IW Se Tryz.f9 ct9 am=P9:=by kernel_rfl
def sp9:af:=aj Se 9 (ap ct9)
def vl:List Int→Int
 | [] =>0
 | a::l=>a+18446744073709551616*vl l
theorem arp:vl pW=21888242871839275222246405745257275088548364400416034343698204186575808495617:=by decide
theorem tW (a b c d:Int):vl [a,b,c,d] =a+18446744073709551616*b+18446744073709551616*18446744073709551616*c+18446744073709551616*18446744073709551616*18446744073709551616*d:=by simp only [vl];grind
theorem vl5 (a b c d e:Int):vl [a,b,c,d,e] =a+18446744073709551616*b+18446744073709551616*18446744073709551616*c+18446744073709551616*18446744073709551616*18446744073709551616*d+18446744073709551616*18446744073709551616*18446744073709551616*18446744073709551616*e:=by simp only [vl];grind
theorem uX {l:List Int} (h:l.length=4):∃ a b c d,l= [a,b,c,d] :=by
 match l,h with
 | [a,b,c,d],_=>exact ⟨a,b,c,d,rfl⟩
theorem aeW {l:List Int} (h:l.length=5):∃ a b c d e,l= [a,b,c,d,e] :=by
 match l,h with
 | [a,b,c,d,e],_=>exact ⟨a,b,c,d,e,rfl⟩
theorem mL (a x y c:Int):ee a x y c+18446744073709551616*cY a x y c=a+x*y+c:=by unfold ee cY;omega
theorem u9 (a x y c:Int):al (ee a x y c):=by unfold al ee;omega
theorem rk {a x y c:Int} (ha:al a) (hx:al x) (hy:al y) (hc:al c):al (cY a x y c):=by
 have:=DG ha hx hy hc
 unfold al cY
 omega
theorem Yk {x b0 b1 b2 b3 t0 t1 t2 t3 t4:Int} (hx:al x) (h0:al b0) (h1:al b1) (h2:al b2) (h3:al b3) (k0:al t0) (k1:al t1) (k2:al t2) (k3:al t3):
  ∃ u0 u1 u2 u3 c,gr x [b0,b1,b2,b3] [t0,t1,t2,t3,t4] 4=([u0,u1,u2,u3,t4],c)∧al u0∧al u1∧al u2∧al u3∧al c∧
   vl [u0,u1,u2,u3] +18446744073709551616*18446744073709551616*18446744073709551616*18446744073709551616*c=vl [t0,t1,t2,t3] +x*vl [b0,b1,b2,b3] :=by
 have s1:gr x [b0,b1,b2,b3] [t0,t1,t2,t3,t4] 1=([ee t0 x b0 0,t1,t2,t3,t4],cY t0 x b0 0):=rfl
 have e0:=mL t0 x b0 0
 have w0:=u9 t0 x b0 0
 have v0:=rk k0 hx h0 bh
 generalize ee t0 x b0 0=u0 at *
 generalize cY t0 x b0 0=c0 at *
 have s2:gr x [b0,b1,b2,b3] [t0,t1,t2,t3,t4] 2=([u0,ee t1 x b1 c0,t2,t3,t4],cY t1 x b1 c0):=by rw [gr,s1];rfl
 have e1:=mL t1 x b1 c0
 have w1:=u9 t1 x b1 c0
 have v1:=rk k1 hx h1 v0
 generalize ee t1 x b1 c0=u1 at *
 generalize cY t1 x b1 c0=c1 at *
 have s3:gr x [b0,b1,b2,b3] [t0,t1,t2,t3,t4] 3=([u0,u1,ee t2 x b2 c1,t3,t4],cY t2 x b2 c1):=by rw [gr,s2];rfl
 have e2:=mL t2 x b2 c1
 have w2:=u9 t2 x b2 c1
 have v2:=rk k2 hx h2 v1
 generalize ee t2 x b2 c1=u2 at *
 generalize cY t2 x b2 c1=c2 at *
 have s4:gr x [b0,b1,b2,b3] [t0,t1,t2,t3,t4] 4=([u0,u1,u2,ee t3 x b3 c2,t4],cY t3 x b3 c2):=by rw [gr,s3];rfl
 have e3:=mL t3 x b3 c2
 have w3:=u9 t3 x b3 c2
 have v3:=rk k3 hx h3 v2
 generalize ee t3 x b3 c2=u3 at *
 generalize cY t3 x b3 c2=c3 at *
 refine ⟨u0,u1,u2,u3,c3,s4,w0,w1,w2,w3,v3,?_⟩
 rw [tW,tW,tW]
 clear s1 s2 s3 s4 w0 v0 w1 v1 w2 v2 w3 v3
 grind
theorem af8 {k u0 u1 u2 u3 u4 c0:Int} (hk:al k) (h1:al u1) (h2:al u2) (h3:al u3) (hc:al c0):
  ∃ r0 r1 r2 c,jy k [u0,u1,u2,u3,u4] c0 3=([r0,r1,r2,u3,u4],c)∧al r0∧al r1∧al r2∧al c∧
   r0+18446744073709551616*r1+18446744073709551616*18446744073709551616*r2+18446744073709551616*18446744073709551616*18446744073709551616*c=u1+18446744073709551616*u2+18446744073709551616*18446744073709551616*u3+k*(2896914383306846353+18446744073709551616*13281191951274694749+18446744073709551616*18446744073709551616*3486998266802970665)+c0:=by
 have p1:al 2896914383306846353:=⟨by decide,by decide⟩
 have p2:al 13281191951274694749:=⟨by decide,by decide⟩
 have p3:al 3486998266802970665:=⟨by decide,by decide⟩
 have s1:jy k [u0,u1,u2,u3,u4] c0 1=([ee u1 k 2896914383306846353 c0,u1,u2,u3,u4],cY u1 k 2896914383306846353 c0):=rfl
 have e0:=mL u1 k 2896914383306846353 c0
 have w0:=u9 u1 k 2896914383306846353 c0
 have v0:=rk h1 hk p1 hc
 generalize ee u1 k 2896914383306846353 c0=r0 at *
 generalize cY u1 k 2896914383306846353 c0=d0 at *
 have s2:jy k [u0,u1,u2,u3,u4] c0 2=([r0,ee u2 k 13281191951274694749 d0,u2,u3,u4],cY u2 k 13281191951274694749 d0):=by rw [jy,s1];rfl
 have e1:=mL u2 k 13281191951274694749 d0
 have w1:=u9 u2 k 13281191951274694749 d0
 have v1:=rk h2 hk p2 v0
 generalize ee u2 k 13281191951274694749 d0=r1 at *
 generalize cY u2 k 13281191951274694749 d0=d1 at *
 have s3:jy k [u0,u1,u2,u3,u4] c0 3=([r0,r1,ee u3 k 3486998266802970665 d1,u3,u4],cY u3 k 3486998266802970665 d1):=by rw [jy,s2];rfl
 have e2:=mL u3 k 3486998266802970665 d1
 have w2:=u9 u3 k 3486998266802970665 d1
 have v2:=rk h3 hk p3 v1
 generalize ee u3 k 3486998266802970665 d1=r2 at *
 generalize cY u3 k 3486998266802970665 d1=d2 at *
 refine ⟨r0,r1,r2,d2,s3,w0,w1,w2,v2,?_⟩
 clear s1 s2 s3 w0 v0 w1 v1 w2 v2 p1 p2 p3
 grind
theorem aik {u0:Int} (h:al u0):∃ m,u0+(u0*inv%18446744073709551616)*4891460686036598785=18446744073709551616*m:=by
 have h1:inv*4891460686036598785+1=18446744073709551616*3723675147829272286:=by decide
 have h2:=Int.mul_ediv_add_emod (u0*inv) 18446744073709551616
 refine ⟨u0*3723675147829272286-(u0*inv / 18446744073709551616)*4891460686036598785,?_⟩
 generalize u0*inv%18446744073709551616=r at *
 generalize u0*inv / 18446744073709551616=q at *
 grind
theorem nP:∀ {l:List Int},aq l→0≤vl l
 | [],_=>Int.le_refl 0
 | a::l,h=>by
  have h0:=(h 0).1
  have:=nP (l:=l) fun i=>h (i+1)
  have e: [a].getD 0 0=a:=rfl
  have h0:0≤a:=h0
  have:0≤18446744073709551616*vl l:=Int.mul_nonneg (by decide) this
  simp only [vl]
  omega
theorem Ey {l:List Int} (h:∀ x∈l,al x):aq l:=fun i=>by
 rw [aw]
 cases hi:l[i]? with
 | none=>exact bh
 | some x=>exact h x (List.mem_of_getElem? hi)
theorem Uo {a b c d e:Int} (ha:al a) (hb:al b) (hc:al c) (hd:al d) (he:al e):aq [a,b,c,d,e] :=Ey fun x hx=>by
 simp only [List.mem_cons,List.not_mem_nil,or_false] at hx
 rcases hx with rfl | rfl | rfl | rfl | rfl <;>assumption
theorem ws {a b c d:Int} (ha:al a) (hb:al b) (hc:al c) (hd:al d):aq [a,b,c,d] :=Ey fun x hx=>by
 simp only [List.mem_cons,List.not_mem_nil,or_false] at hx
 rcases hx with rfl | rfl | rfl | rfl <;>assumption
theorem Db {x:Int} {b t:List Int} (hx:al x) (hb:b.length=4) (wb:aq b) (hB:vl b<21888242871839275222246405745257275088548364400416034343698204186575808495617) (ht:t.length=5) (wt:aq t) (hT:vl t<vl b+21888242871839275222246405745257275088548364400416034343698204186575808495617):
  ∃ k,(Cz x b t).length=5∧aq (Cz x b t)∧18446744073709551616*vl (Cz x b t)=vl t+x*vl b+k*21888242871839275222246405745257275088548364400416034343698204186575808495617∧vl (Cz x b t)<vl b+21888242871839275222246405745257275088548364400416034343698204186575808495617:=by
 obtain ⟨b0,b1,b2,b3,rfl⟩:=uX hb
 obtain ⟨t0,t1,t2,t3,t4,rfl⟩:=aeW ht
 have hbn:=nP wb
 have htn:=nP wt
 have g0:al t0:=wt 0
 have g1:al t1:=wt 1
 have g2:al t2:=wt 2
 have g3:al t3:=wt 3
 have g4:al t4:=wt 4
 obtain ⟨q0,q1,q2,q3,c,em,w0,w1,w2,w3,wc,ev⟩:=Yk (b0:=b0) (b1:=b1) (b2:=b2) (b3:=b3) (t4:=t4) hx (wb 0) (wb 1) (wb 2) (wb 3) g0 g1 g2 g3
 have eB:vl [b0,b1,b2,b3] =vl [b0,b1,b2,b3] :=rfl
 have eT:vl [t0,t1,t2,t3,t4] =vl [t0,t1,t2,t3] +18446744073709551616*18446744073709551616*18446744073709551616*18446744073709551616*t4:=by rw [vl5,tW]
 have ev':vl [q0,q1,q2,q3] +18446744073709551616*18446744073709551616*18446744073709551616*18446744073709551616*c=vl [t0,t1,t2,t3] +x*vl [b0,b1,b2,b3] :=ev
 have hu:=nP (ws w0 w1 w2 w3)
 have hxB:0≤x*vl [b0,b1,b2,b3] :=Int.mul_nonneg hx.1 hbn
 have hxB2:x*vl [b0,b1,b2,b3] ≤(18446744073709551616-1)*21888242871839275222246405745257275088548364400416034343698204186575808495617:=Int.mul_le_mul (by have:=hx.2;omega) (by omega) hbn (by decide)
 have hu4:0≤t4+c∧t4+c<18446744073709551616:=by
  have:=g4.1
  have:=wc.1
  omega
 have eu:u1 x [b0,b1,b2,b3] [t0,t1,t2,t3,t4] = [q0,q1,q2,q3,t4+c] :=by
  unfold YteiecapbaeajdaaGreatDoor.u1
  rw [em]
  show [q0,q1,q2,q3,IntKind.u64.wrap (t4+c)] =_
  rw [qc,Int.emod_eq_of_lt hu4.1 hu4.2]
 have ek:kW [q0,q1,q2,q3,t4+c] =q0*inv%18446744073709551616:=qc _
 have wk:al (q0*inv%18446744073709551616):=⟨Int.emod_nonneg _ (by decide),Int.emod_lt_of_pos _ (by decide)⟩
 obtain ⟨m,hm⟩:=aik w0
 generalize q0*inv%18446744073709551616=k at *
 have p0:al 4891460686036598785:=⟨by decide,by decide⟩
 have hc0:=rk w0 wk p0 bh
 have ec0:=mL q0 k 4891460686036598785 0
 have ez:ee q0 k 4891460686036598785 0=0:=by
  unfold ee
  rw [Int.add_zero,hm]
  exact Int.mul_emod_right _ _
 rw [ez] at ec0
 generalize hcd:cY q0 k 4891460686036598785 0=c0 at *
 obtain ⟨r0,r1',r2,c',er,v0,v1,v2,vc,ew⟩:=af8 (u0:=q0) (u4:=t4+c) wk w1 w2 w3 hc0
 have er1:r1 [q0,q1,q2,q3,t4+c] =([r0,r1',r2,q3,t4+c],c'):=by
  unfold YteiecapbaeajdaaGreatDoor.r1
  rw [ek]
  show jy k [q0,q1,q2,q3,t4+c] (cY q0 k 4891460686036598785 0) 3=_
  rw [hcd,er]
 have es:Cz x [b0,b1,b2,b3] [t0,t1,t2,t3,t4] = [r0,r1',r2,di (t4+c) c' 0,dj (t4+c) c' 0] :=by
  unfold Cz f5
  rw [eu,er1]
  rfl
 have wS:=wz (t4+c) c' 0
 have hC:al (dj (t4+c) c' 0):=by
  have:=vc.1
  have:=vc.2
  unfold al dj
  omega
 have esum:di (t4+c) c' 0+18446744073709551616*dj (t4+c) c' 0=t4+c+c':=by unfold di dj;omega
 have hval:18446744073709551616*vl (Cz x [b0,b1,b2,b3] [t0,t1,t2,t3,t4])=vl [t0,t1,t2,t3,t4] +x*vl [b0,b1,b2,b3] +k*21888242871839275222246405745257275088548364400416034343698204186575808495617:=by
  rw [es,vl5,eT]
  rw [tW q0] at ev'
  generalize di (t4+c) c' 0=S at *
  generalize dj (t4+c) c' 0=C at *
  generalize vl [b0,b1,b2,b3] =B at *
  generalize vl [t0,t1,t2,t3] =T at *
  generalize x*B=xB at *
  clear em eu ek er er1 es hm
  grind
 refine ⟨k,by rw [es];rfl,by rw [es];exact Uo v0 v1 v2 wS hC,hval,?_⟩
 have hk:k*21888242871839275222246405745257275088548364400416034343698204186575808495617≤(18446744073709551616-1)*21888242871839275222246405745257275088548364400416034343698204186575808495617:=Int.mul_le_mul_of_nonneg_right (by have:=wk.2;omega) (by decide)
 have hxB3:x*vl [b0,b1,b2,b3] ≤(18446744073709551616-1)*vl [b0,b1,b2,b3] :=Int.mul_le_mul_of_nonneg_right (by have:=hx.2;omega) hbn
 generalize vl [b0,b1,b2,b3] =B at *
 generalize x*B=xB at *
 generalize k*21888242871839275222246405745257275088548364400416034343698204186575808495617=kP at *
 omega
theorem XL {a b:List Int} (ha:a.length=4) (wa:aq a) (hb:b.length=4) (wb:aq b) (hB:vl b<21888242871839275222246405745257275088548364400416034343698204186575808495617):
  ∃ q,(eh a b 4).length=5∧aq (eh a b 4)∧18446744073709551616*18446744073709551616*18446744073709551616*18446744073709551616*vl (eh a b 4)=vl a*vl b+q*21888242871839275222246405745257275088548364400416034343698204186575808495617∧vl (eh a b 4)<vl b+21888242871839275222246405745257275088548364400416034343698204186575808495617:=by
 obtain ⟨a0,a1,a2,a3,rfl⟩:=uX ha
 have hbn:=nP wb
 have z0:vl (eh [a0,a1,a2,a3] b 0)=0:=rfl
 obtain ⟨k0,l1,w1,e1,t1⟩:=Db (t:=eh [a0,a1,a2,a3] b 0) (wa 0) hb wb hB rfl (Uo bh bh bh bh bh) (by rw [z0];omega)
 obtain ⟨k1,l2,w2,e2,t2⟩:=Db (t:=eh [a0,a1,a2,a3] b 1) (wa 1) hb wb hB l1 w1 t1
 obtain ⟨k2,l3,w3,e3,t3⟩:=Db (t:=eh [a0,a1,a2,a3] b 2) (wa 2) hb wb hB l2 w2 t2
 obtain ⟨k3,l4,w4,e4,t4⟩:=Db (t:=eh [a0,a1,a2,a3] b 3) (wa 3) hb wb hB l3 w3 t3
 refine ⟨k0+18446744073709551616*k1+18446744073709551616*18446744073709551616*k2+18446744073709551616*18446744073709551616*18446744073709551616*k3,l4,w4,?_,t4⟩
 have d1:18446744073709551616*vl (eh [a0,a1,a2,a3] b 1)=vl (eh [a0,a1,a2,a3] b 0)+a0*vl b+k0*21888242871839275222246405745257275088548364400416034343698204186575808495617:=e1
 have d2:18446744073709551616*vl (eh [a0,a1,a2,a3] b 2)=vl (eh [a0,a1,a2,a3] b 1)+a1*vl b+k1*21888242871839275222246405745257275088548364400416034343698204186575808495617:=e2
 have d3:18446744073709551616*vl (eh [a0,a1,a2,a3] b 3)=vl (eh [a0,a1,a2,a3] b 2)+a2*vl b+k2*21888242871839275222246405745257275088548364400416034343698204186575808495617:=e3
 have d4:18446744073709551616*vl (eh [a0,a1,a2,a3] b 4)=vl (eh [a0,a1,a2,a3] b 3)+a3*vl b+k3*21888242871839275222246405745257275088548364400416034343698204186575808495617:=e4
 rw [z0] at d1
 rw [tW]
 generalize vl (eh [a0,a1,a2,a3] b 1)=T1 at *
 generalize vl (eh [a0,a1,a2,a3] b 2)=T2 at *
 generalize vl (eh [a0,a1,a2,a3] b 3)=T3 at *
 generalize vl (eh [a0,a1,a2,a3] b 4)=T4 at *
 generalize vl b=B at *
 clear e1 e2 e3 e4 t1 t2 t3 t4 l1 l2 l3 l4 w1 w2 w3 w4 hB hbn z0 wb hb wa ha
 grind
theorem C1 {x y c:Int} (hx:al x) (hy:al y) (hc:0≤c∧c≤1):iQ x y c=x-y-c+18446744073709551616*bE x y c:=by
 unfold al at hx hy
 unfold iQ bE
 split <;>omega
theorem adc {a0 a1 a2 a3 b0 b1 b2 b3:Int} (ha:aq [a0,a1,a2,a3]) (hb:aq [b0,b1,b2,b3]):
  vl (cB [a0,a1,a2,a3] [b0,b1,b2,b3] 4).1=vl [a0,a1,a2,a3] - vl [b0,b1,b2,b3] +18446744073709551616*18446744073709551616*18446744073709551616*18446744073709551616*(cB [a0,a1,a2,a3] [b0,b1,b2,b3] 4).2:=by
 have s1:cB [a0,a1,a2,a3] [b0,b1,b2,b3] 1=([iQ a0 b0 0,0,0,0],bE a0 b0 0):=rfl
 have e0:=C1 (ha 0) (hb 0) (c:=0) ⟨by decide,by decide⟩
 have c0:=C5 a0 b0 0
 have s2:cB [a0,a1,a2,a3] [b0,b1,b2,b3] 2=([iQ a0 b0 0,iQ a1 b1 (bE a0 b0 0),0,0],bE a1 b1 (bE a0 b0 0)):=by rw [cB,s1];rfl
 have e1:=C1 (ha 1) (hb 1) c0
 have c1:=C5 a1 b1 (bE a0 b0 0)
 have s3:cB [a0,a1,a2,a3] [b0,b1,b2,b3] 3=([iQ a0 b0 0,iQ a1 b1 (bE a0 b0 0),iQ a2 b2 (bE a1 b1 (bE a0 b0 0)),0],bE a2 b2 (bE a1 b1 (bE a0 b0 0))):=by rw [cB,s2];rfl
 have e2:=C1 (ha 2) (hb 2) c1
 have c2:=C5 a2 b2 (bE a1 b1 (bE a0 b0 0))
 have s4:cB [a0,a1,a2,a3] [b0,b1,b2,b3] 4=([iQ a0 b0 0,iQ a1 b1 (bE a0 b0 0),iQ a2 b2 (bE a1 b1 (bE a0 b0 0)),iQ a3 b3 (bE a2 b2 (bE a1 b1 (bE a0 b0 0)))],bE a3 b3 (bE a2 b2 (bE a1 b1 (bE a0 b0 0)))):=by rw [cB,s3];rfl
 have e3:=C1 (ha 3) (hb 3) c2
 have f0:iQ a0 b0 0=a0-b0-0+18446744073709551616*bE a0 b0 0:=e0
 have f1:iQ a1 b1 (bE a0 b0 0)=a1-b1-bE a0 b0 0+18446744073709551616*bE a1 b1 (bE a0 b0 0):=e1
 have f2:iQ a2 b2 (bE a1 b1 (bE a0 b0 0))=a2-b2-bE a1 b1 (bE a0 b0 0)+18446744073709551616*bE a2 b2 (bE a1 b1 (bE a0 b0 0)):=e2
 have f3:iQ a3 b3 (bE a2 b2 (bE a1 b1 (bE a0 b0 0)))=a3-b3-bE a2 b2 (bE a1 b1 (bE a0 b0 0))+18446744073709551616*bE a3 b3 (bE a2 b2 (bE a1 b1 (bE a0 b0 0))):=e3
 rw [s4]
 simp only [tW]
 rw [f0,f1,f2,f3]
 generalize bE a3 b3 (bE a2 b2 (bE a1 b1 (bE a0 b0 0)))=g3 at *
 generalize bE a2 b2 (bE a1 b1 (bE a0 b0 0))=g2 at *
 generalize bE a1 b1 (bE a0 b0 0)=g1 at *
 generalize bE a0 b0 0=g0 at *
 clear s1 s2 s3 s4 e0 e1 e2 e3 f0 f1 f2 f3 c0 c1 c2 ha hb
 grind
theorem Pf {l:List Int} (h:l.length=4) (hw:aq l):vl l<18446744073709551616*18446744073709551616*18446744073709551616*18446744073709551616:=by
 obtain ⟨a,b,c,d,rfl⟩:=uX h
 have h0:al a:=hw 0
 have h1:al b:=hw 1
 have h2:al c:=hw 2
 have h3:al d:=hw 3
 unfold al at *
 rw [tW]
 omega
theorem Gt {a:List Int} (h:a.length=4) (hw:aq a):((cB a pW 4).2=0↔21888242871839275222246405745257275088548364400416034343698204186575808495617≤vl a)∧(21888242871839275222246405745257275088548364400416034343698204186575808495617≤vl a→vl (cB a pW 4).1=vl a-21888242871839275222246405745257275088548364400416034343698204186575808495617):=by
 obtain ⟨a0,a1,a2,a3,rfl⟩:=uX h
 have e:=adc (b0:=4891460686036598785) (b1:=2896914383306846353) (b2:=13281191951274694749) (b3:=3486998266802970665) hw mO
 have e':vl (cB [a0,a1,a2,a3] pW 4).1=vl [a0,a1,a2,a3] - 21888242871839275222246405745257275088548364400416034343698204186575808495617+18446744073709551616*18446744073709551616*18446744073709551616*18446744073709551616*(cB [a0,a1,a2,a3] pW 4).2:=by
  rw [← arp];exact e
 obtain ⟨h1,h2,h3⟩:=Dh [a0,a1,a2,a3] pW 4
 have g1:=nP h1
 have g2:=Pf (Fc _ _ _) h1
 have g3:=nP hw
 have g4:=Pf h hw
 generalize (cB [a0,a1,a2,a3] pW 4).2=c at *
 refine ⟨⟨fun hc=> ?_,fun hc=> ?_⟩,fun hc=> ?_⟩
 ·omega
 ·omega
 ·omega
theorem Mj {a:List Int} (h:a.length=4) (hw:aq a) (h2:vl a<21888242871839275222246405745257275088548364400416034343698204186575808495617+21888242871839275222246405745257275088548364400416034343698204186575808495617):∃ q,vl (jn a)=vl a+q*21888242871839275222246405745257275088548364400416034343698204186575808495617∧0≤vl (jn a)∧vl (jn a)<21888242871839275222246405745257275088548364400416034343698204186575808495617:=by
 obtain ⟨h3,h4⟩:=Gt h hw
 have:=nP hw
 unfold jn
 split
 ·rename_i hc
  have:=h3.1 hc
  exact ⟨-1,by rw [h4 this];omega,by rw [h4 this];omega,by rw [h4 this];omega⟩
 ·rename_i hc
  have:¬ 21888242871839275222246405745257275088548364400416034343698204186575808495617≤vl a:=fun k=>hc (h3.2 k)
  exact ⟨0,by omega,by omega,by omega⟩
theorem QX {a b:List Int} (ha:a.length=4) (wa:aq a) (hb:b.length=4) (wb:aq b) (hB:vl b<21888242871839275222246405745257275088548364400416034343698204186575808495617):
  ∃ q,18446744073709551616*18446744073709551616*18446744073709551616*18446744073709551616*vl (tM a b)=vl a*vl b+q*21888242871839275222246405745257275088548364400416034343698204186575808495617∧0≤vl (tM a b)∧vl (tM a b)<21888242871839275222246405745257275088548364400416034343698204186575808495617:=by
 obtain ⟨q,hl,hw,he,ht⟩:=XL ha wa hb wb hB
 unfold tM
 generalize eh a b 4=T at *
 obtain ⟨t0,t1,t2,t3,t4,rfl⟩:=aeW hl
 have g0:al t0:=hw 0
 have g1:al t1:=hw 1
 have g2:al t2:=hw 2
 have g3:al t3:=hw 3
 have g4:al t4:=hw 4
 have hn:=nP (ws g0 g1 g2 g3)
 have e5:vl [t0,t1,t2,t3,t4] =vl [t0,t1,t2,t3] +18446744073709551616*18446744073709551616*18446744073709551616*18446744073709551616*t4:=by rw [vl5,tW]
 have h4:=g4.1
 have htake: [t0,t1,t2,t3,t4].take 4= [t0,t1,t2,t3] :=rfl
 rw [htake]
 have hz:t4=0:=by omega
 obtain ⟨r,k1,k2,k3⟩:=Mj rfl (ws g0 g1 g2 g3) (by omega)
 refine ⟨q+18446744073709551616*18446744073709551616*18446744073709551616*18446744073709551616*r,?_,k2,k3⟩
 rw [e5,hz] at he
 rw [k1]
 generalize vl [t0,t1,t2,t3] =V at *
 clear e5 hn k1 k2 k3 ht hB
 grind
theorem zb {x y c:Int} :di x y c+18446744073709551616*dj x y c=x+y+c:=by unfold di dj;omega
theorem acW {a0 a1 a2 a3 b0 b1 b2 b3:Int} :
  vl (fv [a0,a1,a2,a3] [b0,b1,b2,b3] 4).1+18446744073709551616*18446744073709551616*18446744073709551616*18446744073709551616*(fv [a0,a1,a2,a3] [b0,b1,b2,b3] 4).2=vl [a0,a1,a2,a3] +vl [b0,b1,b2,b3] :=by
 have s1:fv [a0,a1,a2,a3] [b0,b1,b2,b3] 1=([di a0 b0 0,0,0,0],dj a0 b0 0):=rfl
 have e0:=zb (x:=a0) (y:=b0) (c:=0)
 generalize di a0 b0 0=r0 at *
 generalize dj a0 b0 0=c0 at *
 have s2:fv [a0,a1,a2,a3] [b0,b1,b2,b3] 2=([r0,di a1 b1 c0,0,0],dj a1 b1 c0):=by rw [fv,s1];rfl
 have e1:=zb (x:=a1) (y:=b1) (c:=c0)
 generalize di a1 b1 c0=r1 at *
 generalize dj a1 b1 c0=c1 at *
 have s3:fv [a0,a1,a2,a3] [b0,b1,b2,b3] 3=([r0,r1,di a2 b2 c1,0],dj a2 b2 c1):=by rw [fv,s2];rfl
 have e2:=zb (x:=a2) (y:=b2) (c:=c1)
 generalize di a2 b2 c1=r2 at *
 generalize dj a2 b2 c1=c2 at *
 have s4:fv [a0,a1,a2,a3] [b0,b1,b2,b3] 4=([r0,r1,r2,di a3 b3 c2],dj a3 b3 c2):=by rw [fv,s3];rfl
 have e3:=zb (x:=a3) (y:=b3) (c:=c2)
 generalize di a3 b3 c2=r3 at *
 generalize dj a3 b3 c2=c3 at *
 rw [s4]
 simp only [tW]
 clear s1 s2 s3 s4
 grind
theorem D0 (a b:List Int):∀ i,(fv a b i).1.length=4
 | 0=>rfl
 | i+1=>by rw [fv,dc,D0 a b i]
theorem afW {a b:List Int} (ha:a.length=4) (wa:aq a) (hb:b.length=4) (wb:aq b) (hA:vl a<21888242871839275222246405745257275088548364400416034343698204186575808495617) (hB:vl b<21888242871839275222246405745257275088548364400416034343698204186575808495617):
  ∃ q,vl (jn (fv a b 4).1)=vl a+vl b+q*21888242871839275222246405745257275088548364400416034343698204186575808495617∧0≤vl (jn (fv a b 4).1)∧vl (jn (fv a b 4).1)<21888242871839275222246405745257275088548364400416034343698204186575808495617:=by
 obtain ⟨a0,a1,a2,a3,rfl⟩:=uX ha
 obtain ⟨b0,b1,b2,b3,rfl⟩:=uX hb
 have e:=acW (a0:=a0) (a1:=a1) (a2:=a2) (a3:=a3) (b0:=b0) (b1:=b1) (b2:=b2) (b3:=b3)
 obtain ⟨h1,h2,h3⟩:=ut wa wb 4
 have hl:=D0 [a0,a1,a2,a3] [b0,b1,b2,b3] 4
 have g1:=nP h1
 have hz:(fv [a0,a1,a2,a3] [b0,b1,b2,b3] 4).2=0:=by omega
 rw [hz] at e
 obtain ⟨q,k1,k2,k3⟩:=Mj hl h1 (by omega)
 exact ⟨q,by omega,k2,k3⟩
theorem D5:∀ i,(po i).length=4
 | 0=>rfl
 | i+1=>by rw [po];exact J1 (D0 _ _ _)
theorem PV:∀ i:Nat,∃ q,vl (po i)=2 ^ i+q*21888242871839275222246405745257275088548364400416034343698204186575808495617∧0≤vl (po i)∧vl (po i)<21888242871839275222246405745257275088548364400416034343698204186575808495617
 | 0=>⟨0,by decide,by decide,by decide⟩
 | i+1=>by
  obtain ⟨q,h1,h2,h3⟩:=PV i
  obtain ⟨r,k1,k2,k3⟩:=afW (D5 i) (j7 i) (D5 i) (j7 i) h3 h3
  have e:po (i+1)=jn (fv (po i) (po i) 4).1:=rfl
  rw [e]
  refine ⟨2*q+r,?_,k2,k3⟩
  rw [k1,h1,Int.pow_succ]
  grind
theorem Z8 {a:List Int} (ha:a.length=4) (wa:aq a):∃ q,vl (dG a)=18446744073709551616*18446744073709551616*18446744073709551616*18446744073709551616*vl a+q*21888242871839275222246405745257275088548364400416034343698204186575808495617∧0≤vl (dG a)∧vl (dG a)<21888242871839275222246405745257275088548364400416034343698204186575808495617:=by
 obtain ⟨q,h1,h2,h3⟩:=PV 512
 obtain ⟨r,k1,k2,k3⟩:=QX ha wa (D5 512) (j7 512) h3
 unfold dG
 generalize vl (tM a (po 512))=V at *
 generalize vl (po 512)=S at *
 generalize vl a=A at *
 have hp:(2:Int) ^ 512=(18446744073709551616*18446744073709551616*18446744073709551616*18446744073709551616)*(18446744073709551616*18446744073709551616*18446744073709551616*18446744073709551616):=by
  have h256:(2:Int) ^ 256=18446744073709551616*18446744073709551616*18446744073709551616*18446744073709551616:=by decide
  rw [show (512:Nat)=256+256 from rfl,Int.pow_add,h256]
 have hi:∃ c:Int,18446744073709551616*18446744073709551616*18446744073709551616*18446744073709551616*9915499612839321149637521777990102151350674507940716049588462388200839649614=1+c*21888242871839275222246405745257275088548364400416034343698204186575808495617:=⟨52454480824480482120356829342366457550537710351690908576382634413609933864959,by decide⟩
 obtain ⟨c,hc⟩:=hi
 rw [hp] at h1
 refine ⟨9915499612839321149637521777990102151350674507940716049588462388200839649614*(A*q+r)+c*(18446744073709551616*18446744073709551616*18446744073709551616*18446744073709551616*A-V),?_,k2,k3⟩
 clear h2 h3 k2 k3 wa ha hp
 grind
theorem Pb {a:List Int} (ha:a.length=4) (wa:aq a):∃ q,18446744073709551616*18446744073709551616*18446744073709551616*18446744073709551616*vl (lp a)=vl a+q*21888242871839275222246405745257275088548364400416034343698204186575808495617∧0≤vl (lp a)∧vl (lp a)<21888242871839275222246405745257275088548364400416034343698204186575808495617:=by
 have h1:vl [1,0,0,0] =1:=by decide
 obtain ⟨r,k1,k2,k3⟩:=QX ha wa (b:= [1,0,0,0]) rfl (ws ⟨by decide,by decide⟩ bh bh bh) (by rw [h1];decide)
 rw [h1,Int.mul_one] at k1
 exact ⟨r,k1,k2,k3⟩
theorem Rr {a b q:Int} (h:a=b+q*21888242871839275222246405745257275088548364400416034343698204186575808495617) (h1:0≤a) (h2:a<21888242871839275222246405745257275088548364400416034343698204186575808495617) (h3:0≤b) (h4:b<21888242871839275222246405745257275088548364400416034343698204186575808495617):a=b:=by omega
theorem Tb {a:List Int} (ha:a.length=4) (wa:aq a) (h:vl a<21888242871839275222246405745257275088548364400416034343698204186575808495617):vl (lp (dG a))=vl a:=by
 obtain ⟨q,h1,h2,h3⟩:=Z8 ha wa
 obtain ⟨r,k1,k2,k3⟩:=Pb (EC a) (N2 wa)
 have hn:=nP wa
 rw [h1] at k1
 obtain ⟨c,hc⟩:∃ c:Int,18446744073709551616*18446744073709551616*18446744073709551616*18446744073709551616*9915499612839321149637521777990102151350674507940716049588462388200839649614=1+c*21888242871839275222246405745257275088548364400416034343698204186575808495617:=⟨52454480824480482120356829342366457550537710351690908576382634413609933864959,by decide⟩
 generalize vl (lp (dG a))=L at *
 generalize vl a=A at *
 refine Rr (q:=9915499612839321149637521777990102151350674507940716049588462388200839649614*(q+r)+c*(A-L)) ?_ k2 k3 hn h
 clear h1 h2 h3 k2 k3 hn h wa ha
 grind
theorem QL {a b:List Int} (ha:a.length=4) (hb:b.length=4) (wa:aq a) (wb:aq b) (h:vl a=vl b):a=b:=by
 obtain ⟨a0,a1,a2,a3,rfl⟩:=uX ha
 obtain ⟨b0,b1,b2,b3,rfl⟩:=uX hb
 have g0:al a0:=wa 0
 have g1:al a1:=wa 1
 have g2:al a2:=wa 2
 have g3:al a3:=wa 3
 have k0:al b0:=wb 0
 have k1:al b1:=wb 1
 have k2:al b2:=wb 2
 have k3:al b3:=wb 3
 unfold al at *
 rw [tW,tW] at h
 have e0:a0=b0:=by omega
 subst e0
 have e1:a1=b1:=by omega
 subst e1
 have e2:a2=b2:=by omega
 subst e2
 have e3:a3=b3:=by omega
 subst e3
 rfl
def frN (n:Nat) (K:Nat→Bool):Bool:=Nat.rec (K 0) (fun m _=>K (m+1)) n
theorem afI (n:Nat) (K:Nat→Bool):frN n K=K n:=by cases n <;>rfl
def frZ (x:Int) (K:Int→Bool):Bool:=match x with
 | .ofNat n=>frN n fun n=>K (.ofNat n)
 | .negSucc n=>K (.negSucc n)
theorem aeb (x:Int) (K:Int→Bool):frZ x K=K x:=by cases x with
 | ofNat n=>exact afI n fun n=>K (.ofNat n)
 | negSucc n=>rfl
def HM:List Int→(List Int→Bool)→Bool
 | [],K=>K []
 | x::l,K=>frZ x fun x=>HM l fun l=>K (x::l)
theorem yp:∀ (l:List Int) (K:List Int→Bool),HM l K=K l
 | [],K=>rfl
 | x::l,K=>by rw [HM,aeb,yp l]
def thF (s:List Int):List Int:=(List.range 25).map fun j=>xr (s.getD j 0) (xr (FX s ((j%5+4)%5)) (ny (FX s ((j%5+1)%5)) 1))
def chF (s:List Int):List Int:=(List.range 25).map fun j=>xr (s.getD j 0) (kS .u64 (s.getD (j-j%5+(j+2)%5) 0) (s.getD (j-j%5+(j+1)%5) 0))
def rnF (s:List Int) (r:Int) (K:List Int→Bool):Bool:=HM (thF s) fun s=>HM (iI s) fun s=>HM (chF s) fun s=>HM (s.set 0 (xr (s.getD 0 0) (oG r))) K
theorem abM {s:List Int} (h:s.length=25) (r:Int) (K:List Int→Bool):rnF s r K=K (round s r):=by
 unfold rnF
 rw [yp,yp,yp,yp]
 have e1:thF s=fR s:=(Ay h).symm
 have e2:chF (iI (fR s))=rY (iI (fR s)):=(xW (i9 _)).symm
 rw [e1,e2]
 rfl
def Vf:Nat→Nat→List Int→(List Int→Bool)→Bool
 | 0,_,s,K=>K s
 | n+1,i,s,K=>rnF s (i:Int) fun s=>Vf n (i+1) s K
theorem XF {s:List Int} (h:s.length=25):∀ i,(eP s i).length=25
 | 0=>h
 | i+1=>by
  have e:(rY (iI (fR (eP s i)))).length=25:=by rw [xW (i9 _)];simp
  rw [eP]
  unfold round
  rw [dc,e]
theorem Ov {s:List Int} (h:s.length=25) (K:List Int→Bool):∀ n i,Vf n i (eP s i) K=K (eP s (i+n))
 | 0,i=>rfl
 | n+1,i=>by
  rw [Vf,abM (XF h i),← XY,Ov h K n (i+1),show i+1+n=i+(n+1) from by omega]
theorem Ex {s z:List Int} (h:s.length=25) (k:Vf 24 0 s (fun t=>decide (t=z))=true):fP s=z:=by
 rw [zL]
 have:=Ov h (fun t=>decide (t=z)) 24 0
 rw [show eP s 0=s from rfl,k] at this
 exact av this.symm
def ke0:List Int:= [8372025008686331489,8100131176266490226,282578803306356,284782101528576,25769803776,0,0,0,0,0,0,0,0,0,0,0,9223372036854775808,0,0,0,0,0,0,0,0]
def ke1:List Int:= [17883697082401287854,4253325710419480824,11613133384083954445,4150652354307323921,5450703342257237111,3850305790896014819,2098129896617138482,3261985650114761404,14082931796852556143,8502102766655106628,17839499364438936170,13021195715379908664,15399973476708412778,5250098445452077603,2841967868550486175,6709708827652306979,15223099987002964623,9348929316260896462,96394114582478202,3855134325323266039,610184281064956661,17490923861226901500,985653902140203456,1505509844641713764,11031009988316786517]
theorem ke:fP ke0=ke1:=Ex rfl (by kernel_rfl)
def UO:List Int:= [174,238,55,155,190,167,47,248,248,208,150,211,50,217,6,59,13,219,141,167,72,35,42,161,17,120,160,60,83,20,154,57]
def ks7:List Int:= [146085512912896257,259,0,0,0,0,0,0,0,0,0,0,0,0,0,0,0,17883697082401287854,4253325710419480824,11613133384083954445,4150652354307323921,0,0,0,0]
def kz7:List Int:= [14052056302608695159,17578836594094856944,18314827469102199205,8093192738066234267,17508017827032677215,2886178562792874151,14793273547368993520,1383062114744888811,7168119107699457784,2163302939794814075,986248445006035889,5064298006269386921,8803759145140315383,17159037738295442138,14508567843353664383,14856863771369055405,991290347843542656,16095916574360114579,9909427587133103591,12918494340837085612,11151706324598239179,15394613505218226162,13192475577469199322,7244770877287454406,18313807249409089941]
theorem kp7:fP ks7=kz7:=Ex rfl (by kernel_rfl)
def Ko:List Int:= [14052056302608695159,17578836594094856944,18314827469102199205,3481506719638846363]
def ks8:List Int:= [146366987889606913,259,0,0,0,0,0,0,0,0,0,0,0,0,0,0,0,17883697082401287854,4253325710419480824,11613133384083954445,4150652354307323921,0,0,0,0]
def kz8:List Int:= [5991343304603806364,5545951138849680404,16782799169413629814,4653188081362363761,3259842054026930299,6721820371532259915,2555612426354464456,12981712720304069041,10908308515129413883,17663178918108430462,2540219414342171211,6618120495261238060,1010860472115011509,13259967290300216063,13779810973806611518,3972286236533893228,1720460063043334908,11287706456884518063,4108595074166285240,12501175042273369553,7097706341743713761,12950817525631413630,15312954729242174154,11859214295558485001,13141323501984080208]
theorem kp8:fP ks8=kz8:=Ex rfl (by kernel_rfl)
def Hw:List Int:= [5991343304603806364,5545951138849680404,16782799169413629814,41502062934975857]
theorem Lk:bJ (ab cT)=([⟨1,1,1,[]⟩,⟨2,3,1,[]⟩],-1,0):=by kernel_rfl
def PS:LD:= [[.int 1,.int 1,.int 1,.str []],[.int 2,.int 3,.int 1,.str []]]
theorem Lj:bj cT=PS:=by
 unfold bj
 rw [Lk]
 kernel_rfl
theorem OX:bZ (az PS)=(ab cT,-1,0):=by kernel_rfl
def kbl:LD:= [[.sl wo],[.sl [[.int 1]]],[.sl cT]]
def kh0:List Int:= [8372025008686331489,8100131176266490226,282578803306356,284782101528576,0,0,0,0,0,0,0,0,0,0,0,0,0,0,0,0,0,0,0,0,0]
theorem ajw:xS kbl 3=(kh0,36):=by kernel_rfl
theorem adf:qV 1 cT=UO:=by
 unfold qV
 rw [Lj]
 unfold jp
 rw [if_pos (by rw [OX])]
 unfold Ra
 have e:([[.sl wo],[.sl [[.int (IntKind.u8.wrap 1)]]],[.sl (ah (bZ (az PS)).1)]] :LD)=kbl:=by
  rw [OX]
  kernel_rfl
 have e2:fq (fq kh0 36 6) 135 128=ke0:=by decide+kernel
 rw [e,lu,ak,show kbl.length=3 from rfl,ajw,fin,ak]
 show (c7 (fP (fq (fq kh0 36 6) 135 128))).take 32=UO
 rw [e2,ke,oB]
 decide+kernel
def iC (l:List Int):LD:=((l++List.replicate (136-l.length) 0)++(UO++List.replicate 32 0)).map ae
theorem ML:cw cT=(0,136,0,iC []):=by
 unfold cw
 rw [adf]
 have:nk (UO.map ae)=iC [] :=by kernel_rfl
 rw [this]
theorem amN:hZ 1 1 1 [[.int 7]] (0,136,0,iC [])=(7,136,0,iC [1,1,1,0,0,0,7]):=by kernel_rfl
theorem aj0:hZ 1 1 1 [[.int 8]] (0,136,0,iC [])=(7,136,0,iC [1,1,1,0,0,0,8]):=by kernel_rfl
theorem aln:hZ 2 3 1 [] (7,136,0,iC [1,1,1,0,0,0,7])=(13,136,0,iC [1,1,1,0,0,0,7,2,3,1,0,0,0]):=by kernel_rfl
theorem ahf:hZ 2 3 1 [] (7,136,0,iC [1,1,1,0,0,0,8])=(13,136,0,iC [1,1,1,0,0,0,8,2,3,1,0,0,0]):=by kernel_rfl
theorem Fz {x:Sp} (h:x.2.1=136):∀ i:Nat,i<136→aL x (i+1)=(0,(i:Int)+1,x.2.2.1+1,dn x.2.2.2)
 | 0,_=>by
  rw [aL,aL,i8,if_pos h]
  rfl
 | i+1,hi=>by
  rw [aL,Fz h i (by omega),i8,if_neg (by show ¬ ((i:Int)+1=136);omega)]
  rfl
theorem PB {x:Sp} (h:x.2.1=136):∀ i:Nat,i<136→i8 (aL x i)=(0,(i:Int),x.2.2.1+1,dn x.2.2.2)
 | 0,_=>by
  rw [aL,i8,if_pos h]
  rfl
 | i+1,hi=>by
  rw [Fz h i (by omega),i8,if_neg (by show ¬ ((i:Int)+1=136);omega)]
  rfl
theorem F9 {x:Sp} (h:x.2.1=136):∀ i:Nat,i≤136→c8 x i=(dn x.2.2.2).take i
 | 0,_=>rfl
 | i+1,hi=>by
  have hl:=gS x.2.2.2
  rw [c8,F9 h i (by omega),PB h i (by omega)]
  show _++ [[CD.int (rv (dn x.2.2.2) (i:Int).toNat)]] =_
  rw [ax,List.take_add_one,cJ (by omega)]
  congr 1
  unfold dn
  rw [b7,List.getElem_map,aw,cJ (by rw [fH];omega)]
  rfl
theorem Ga {x:Sp} (h:x.2.1=136):lA x=(c7 (fP (ba x.2.2.2 200))).take 32:=by
 rw [lA,ak,F9 h 32 (by omega)]
 unfold dn
 rw [← List.map_take,List.map_map]
 generalize (c7 (fP (ba x.2.2.2 200))).take 32=L
 have:((fun r:List CD=>(r.getD 0 .d0).toInt) ∘ ae)=id:=rfl
 rw [this,List.map_id]
abbrev ZW:Sp:=(13,136,0,iC [1,1,1,0,0,0,7,2,3,1,0,0,0])
abbrev adi:Sp:=(13,136,0,iC [1,1,1,0,0,0,8,2,3,1,0,0,0])
theorem bl7:lD ZW=Ko:=by
 unfold lD
 rw [Ga rfl]
 have e:ba (iC [1,1,1,0,0,0,7,2,3,1,0,0,0]) 200=ks7:=by kernel_rfl
 show jV ((iq ((c7 (fP (ba (iC [1,1,1,0,0,0,7,2,3,1,0,0,0]) 200))).take 32)).map ae)=Ko
 rw [e,kp7,oB]
 kernel_rfl
theorem bl8:lD adi=Hw:=by
 unfold lD
 rw [Ga rfl]
 have e:ba (iC [1,1,1,0,0,0,8,2,3,1,0,0,0]) 200=ks8:=by kernel_rfl
 show jV ((iq ((c7 (fP (ba (iC [1,1,1,0,0,0,8,2,3,1,0,0,0]) 200))).take 32)).map ae)=Hw
 rw [e,kp8,oB]
 kernel_rfl
theorem Kb {x:Sp} {w:List Int} (h:lD x=w) (hw:(cB w pW 4).2≠0):aC x=(dG w,1,0,aL x 32):=by
 rw [aC,ak,show (64:Nat)=63+1 from rfl,mZ,h,if_neg hw]
 rfl
theorem lt7:(cB Ko pW 4).2≠0:=by decide+kernel
theorem lt8:(cB Hw pW 4).2≠0:=by decide+kernel
theorem amU:aq Ko:=ws ⟨by decide,by decide⟩ ⟨by decide,by decide⟩ ⟨by decide,by decide⟩ ⟨by decide,by decide⟩
theorem ahV:aq Hw:=ws ⟨by decide,by decide⟩ ⟨by decide,by decide⟩ ⟨by decide,by decide⟩ ⟨by decide,by decide⟩
theorem On {w:List Int} (h:w.length=4) (hw:aq w) (hl:(cB w pW 4).2≠0):lw (dG w)=b9 (fun i=>gI w i) 4:=by
 have hlt:vl w<21888242871839275222246405745257275088548364400416034343698204186575808495617:=by
  have:=(Gt h hw).1
  omega
 have e:lp (dG w)=w:=QL (by unfold lp;exact EH _ _) h (by unfold lp;exact Ki (N2 hw) (ws ⟨by decide,by decide⟩ bh bh bh)) hw (Tb h hw hlt)
 unfold lw
 rw [e]
theorem Pl:bT 0 (cw cT):=by
 rw [ML]
 exact ⟨by decide,by decide,by decide,by decide,by decide,by decide,rfl,tY (by decide+kernel)⟩
def Pc (b:Int):List Int:=(dF (hZ 1 1 1 [[.int b]] (cw cT))).1
theorem dr7:dF (hZ 1 1 1 [[.int 7]] (cw cT))=(dG Ko,1,0,aL ZW 32):=by
 unfold dF
 rw [ML,amN,aln]
 exact Kb bl7 lt7
theorem dr8:dF (hZ 1 1 1 [[.int 8]] (cw cT))=(dG Hw,1,0,aL adi 32):=by
 unfold dF
 rw [ML,aj0,ahf]
 exact Kb bl8 lt8
theorem pl1 (b:Int):pT (iL b) (cw cT) 1=(1,hZ 1 1 1 [[.int b]] (cw cT)):=by
 rw [pT,pT]
 rfl
theorem pl2 (b:Int):pT (iL b) (cw cT) 2=(2,(dF (hZ 1 1 1 [[.int b]] (cw cT))).2.2.2):=by
 rw [pT,pl1]
 show ig 2 [] 1 (hZ 1 1 1 [[.int b]] (cw cT))=_
 unfold ig
 rw [if_neg (by decide),if_pos rfl]
 rfl
theorem Nd:bk cT:=⟨by show cT=ah (ab cT);kernel_rfl,by decide⟩
theorem Gb (b:Int) (hb:0≤b∧b<256) (hd:(dF (hZ 1 1 1 [[.int b]] (cw cT))).2.2.1=0) (hz:bT 800000000 (dF (hZ 1 1 1 [[.int b]] (cw cT))).2.2.2):uR 1 cT (iL b):=by
 have h1:ar [[CD.int b]] :=Vq hb
 have hs:=PA (k:=1) (t:=1) (n:=1) h1 Pl
 refine ⟨rfl,Nd,by rw [Lk],by show (3:Nat)≤200;decide,fun i hi=> ?_⟩
 have hi:i<3:=hi
 rw [Lj]
 match i,hi with
 | 0,_=>exact ⟨⟨Int.le_refl 0,(by decide:(0:Int)≤1000000)⟩,aF (by decide) Pl,.inl ⟨rfl,rfl,h1,by show (1:Nat)≤900;decide,rfl,by show ci PS 0 1 1 1=true;decide+kernel⟩⟩
 | 1,_=>
  rw [pl1]
  exact ⟨⟨(by decide:(0:Int)≤1),(by decide:(1:Int)≤1000000)⟩,aF (by simp) hs,.inr (.inl ⟨rfl,rfl,by show ci PS 1 2 3 1=true;decide+kernel,hd⟩)⟩
 | 2,_=>
  rw [pl2]
  exact ⟨⟨(by decide:(0:Int)≤2),(by decide:(2:Int)≤1000000)⟩,hz,.inr (.inr ⟨rfl,rfl⟩)⟩
theorem OY {l:List Int} (h:iC l=iC l) (hb:(iC l).length=200∧ar (iC l)):bT 0 ((13:Int),(136:Int),(0:Int),iC l):=
 ⟨(by decide:(0:Int)≤13),(by decide:(13:Int)≤136),(by decide:(0:Int)≤136),Int.le_refl 136,Int.le_refl 0,Int.le_refl 0,hb.1,hb.2⟩
theorem arm:uR 1 cT (iL 7):=by
 refine Gb 7 ⟨by decide,by decide⟩ (by rw [dr7]) ?_
 rw [dr7]
 exact aF (by decide) (lL (OY rfl ⟨rfl,tY (by decide+kernel)⟩) 32)
theorem apB:uR 1 cT (iL 8):=by
 refine Gb 8 ⟨by decide,by decide⟩ (by rw [dr8]) ?_
 rw [dr8]
 exact aF (by decide) (lL (OY rfl ⟨rfl,tY (by decide+kernel)⟩) 32)
theorem PU (b:Int):lh (iL b) cT= [[.int 0,.sl []],[.int 0,.sl ((lw (Pc b)).map ae)],[.int 0,.sl []]] :=by
 rw [lh,ak]
 show pZ (iL b) (cw cT) 3=_
 rw [pZ,pZ,pZ,pZ,pl1]
 rfl
theorem akS:(lw (Pc 7)).map ae=(b9 (fun i=>gI Ko i) 4).map ae:=by
 unfold Pc
 rw [dr7,On rfl amU lt7]
theorem aj6:(lw (Pc 8)).map ae=(b9 (fun i=>gI Hw i) 4).map ae:=by
 unfold Pc
 rw [dr8,On rfl ahV lt8]
theorem an7:lh (iL 7) cT= [[.int 0,.sl []],[.int 0,.sl ((b9 (fun i=>gI Ko i) 4).map ae)],[.int 0,.sl []]] :=by rw [PU,akS]
theorem an8:lh (iL 8) cT= [[.int 0,.sl []],[.int 0,.sl ((b9 (fun i=>gI Hw i) 4).map ae)],[.int 0,.sl []]] :=by rw [PU,aj6]
theorem vc9:P9:=by
 delta P9 lM bR N5 zd NS Hd NM nC Mu Du zG M4 tT Jc
 have a7:=an7
 have a8:=an8
 have a7':lh [[CD.int 0,CD.int 1,CD.int 0,CD.sl [[CD.int 7]]],[CD.int 2,CD.int 0,CD.int 1,CD.sl []],[CD.int 4,CD.int 0,CD.int 0,CD.sl []]] [[CD.int 1],[CD.int 1],[CD.int 1],[CD.int 0],[CD.int 0],[CD.int 0],[CD.int 0],[CD.int 0],[CD.int 2],[CD.int 3],[CD.int 1],[CD.int 0],[CD.int 0],[CD.int 0],[CD.int 0],[CD.int 0]] =_:=an7
 have a8':lh [[CD.int 0,CD.int 1,CD.int 0,CD.sl [[CD.int 8]]],[CD.int 2,CD.int 0,CD.int 1,CD.sl []],[CD.int 4,CD.int 0,CD.int 0,CD.sl []]] [[CD.int 1],[CD.int 1],[CD.int 1],[CD.int 0],[CD.int 0],[CD.int 0],[CD.int 0],[CD.int 0],[CD.int 2],[CD.int 3],[CD.int 1],[CD.int 0],[CD.int 0],[CD.int 0],[CD.int 0],[CD.int 0]] =_:=an8
 rw [a7,a8,a7',a8']
 intro _
 refine ⟨rfl,fun _=>⟨arm,⟨by decide,by decide⟩,by decide,apB,fun _ _=> ?_⟩⟩
 repeat' first
  | exact trivial
  | refine dq (by decide+kernel) ?_
  | apply And.intro
  | rfl
  | decide+kernel
  | intro _
theorem c9:(base.with sp9).Ok:=ac c10 (ai am c10 Tryz.func9 (by kernel_rfl) Tryz.call9 (by kernel_rfl) vc9)
def asI:List Dat→Ann
 | [.r a,.r b] => {cut:= [(7,[la 150 [(0,.rd eR),(1,.rd eR),(5,rb),(8,rb)] [] (fun
   | [.r a',.r b',.r p,.r q] =>a'=a∧b'=b∧a.length≤6∧b.length≤6∧(bZ (az a)).2.2=0∧(bZ (az b)).2.2=0∧p=ah (bZ (az a)).1∧q=ah (bZ (az b)).1
   | _=>False) js])],loop:= []}
 | _=> {cut:= [],loop:= []}
def gL (hp:List Blk):List (Nat×Blk)→Prop
 | [] =>True
 | (b,x)::u=>hp.getD b .none=x∧gL hp u
def tc (F:List SV→List Blk→CR) (svs:List SV) (hp:List Blk):CR:=
 match F svs hp with
 | .need p (.ret sv upd [])=> .need (p∧gL hp upd) (.ret sv [] [])
 | r=>r
theorem HU:∀ (hp:List Blk) (b:Nat),hp.set b (hp.getD b .none)=hp
 | [],_=>rfl
 | _::_,0=>rfl
 | x::hp,b+1=>by
  show x::hp.set b (hp.getD b .none)=x::hp
  rw [HU hp b]
theorem Au {hp:List Blk} :∀ {u:List (Nat×Blk)},gL hp u→bq hp u=hp
 | [],_=>rfl
 | (b,x)::u,h=>by
  show bq (hp.set b x) u=hp
  rw [← h.1,HU]
  exact Au h.2
theorem yQ {C:Ctx} {f:FuncId} {F:List SV→List Blk→CR} (h:da C f F):da C f (tc F):=by
 intro svs hp K R hw
 refine h svs hp K R ?_
 unfold tc at hw
 split at hw
 ·rename_i p sv upd he
  rw [he]
  refine ⟨hw.1.1,?_⟩
  show _∧_
  rw [Au hw.1.2]
  exact hw.2
 ·exact hw
def cn:List Nat→Nat
 | [] =>0
 | d::l=>d+4294967296*cn l
def yB:Nat→Nat→List Nat
 | 0,_=> []
 | f+1,n=>if n=0 then [] else n%4294967296::yB f (n / 4294967296)
def FE (n:Nat):List Nat:=yB n n
def s9 (l:List Nat):Prop:=∀ d∈l,d<4294967296
def Rx (l:List Nat):Prop:=∀ m d,l=m++ [d] →d≠0
theorem K4:∀ f n,n≤f→cn (yB f n)=n
 | 0,n,h=>by
  have:n=0:=by omega
  subst this;rfl
 | f+1,n,h=>by
  rw [yB]
  by_cases e:n=0
  ·rw [if_pos e,e];rfl
  ·rw [if_neg e,cn,K4 f (n / 4294967296) (by omega)]
   omega
theorem Xu (n:Nat):cn (FE n)=n:=K4 n n (Nat.le_refl n)
theorem LC:∀ f n,s9 (yB f n)
 | 0,_=>fun d hd=>by cases hd
 | f+1,n=>by
  rw [yB]
  split
  ·intro d hd;cases hd
  ·intro d hd
   cases hd with
   | head=>exact Nat.mod_lt _ (by omega)
   | tail _ hd=>exact LC f _ d hd
theorem XS (n:Nat):s9 (FE n):=LC n n
theorem HZ:∀ {l:List Nat},cn l=0→Rx l→l= []
 | [],_,_=>rfl
 | d::l,h,ht=>by
  rw [cn] at h
  have hl:cn l=0:=by omega
  have hd:d=0:=by omega
  have h2:=HZ hl fun m x e=>ht (d::m) x (by rw [e];rfl)
  subst h2
  exact absurd hd (ht [] d rfl)
theorem O1:∀ {l:List Nat} {f:Nat},s9 l→Rx l→cn l≤f→yB f (cn l)=l
 | [],f,_,_,_=>by cases f <;>rfl
 | d::l,f,hd,ht,hf=>by
  have h0:cn (d::l)≠0:=fun e=>by cases HZ e ht
  cases f with
  | zero=>omega
  | succ f=>
   rw [yB,if_neg h0]
   have h1:=hd d (List.mem_cons_self ..)
   have e1:cn (d::l)%4294967296=d:=by rw [cn];omega
   have e2:cn (d::l) / 4294967296=cn l:=by rw [cn];omega
   rw [e1,e2,O1 (fun x hx=>hd x (List.mem_cons_of_mem _ hx)) (fun m x e=>ht (d::m) x (by rw [e];rfl)) (by rw [cn] at hf h0;omega)]
theorem QA {l:List Nat} (hd:s9 l) (ht:Rx l):FE (cn l)=l:=O1 hd ht (Nat.le_refl _)
theorem AX:∀ (l:List Nat) (t:Nat),(∀ j,t≤j→l.getD j 0=0)→cn (l.take t)=cn l
 | [],t,_=>by rw [List.take_nil]
 | d::l,0,h=>by
  rw [List.take_zero]
  have h0:d=0:=h 0 (by omega)
  have h1:=AX l 0 fun j _=>h (j+1) (by omega)
  rw [List.take_zero] at h1
  show 0=d+4294967296*cn l
  rw [← h1,h0];rfl
 | d::l,t+1,h=>by
  rw [List.take_succ_cons,cn,cn,AX l t fun j hj=>h (j+1) (by omega)]
theorem Qu {l:List Nat} {t:Nat} (hd:s9 l) (hl:t≤l.length) (h0:∀ j,t≤j→l.getD j 0=0) (h1:t=0∨l.getD (t-1) 0≠0):l.take t=FE (cn l):=by
 rw [← AX l t h0]
 refine (QA (fun d h=>hd d (List.mem_of_mem_take h)) fun m d e=> ?_).symm
 rcases h1 with rfl | h1
 ·rw [List.take_zero] at e
  have:=congrArg List.length e
  simp at this
 ·intro hd0
  apply h1
  have hlen:m.length+1=t:=by
   have:=congrArg List.length e
   rw [List.length_take,cx] at this
   simp at this
   omega
  have h2:(l.take t).getD (t-1) 0=d:=by
   rw [e,aw,List.getElem?_append_right (by omega)]
   rw [show t-1-m.length=0 from by omega];rfl
  rw [aw,List.getElem?_take_of_lt (by omega)] at h2
  rw [aw,h2,hd0]
theorem Jy:∀ {l:List Nat},s9 l→cn l<4294967296 ^ l.length
 | [],_=>by decide
 | d::l,h=>by
  have h1:=Jy fun x hx=>h x (List.mem_cons_of_mem _ hx)
  have h2:=h d (List.mem_cons_self ..)
  rw [cn,List.length_cons,Nat.pow_succ]
  omega
theorem kC (l:List Nat):cn l=l.getD 0 0+4294967296*cn l.tail:=by
 cases l <;>rfl
theorem gX (l:List Nat) (i:Nat):l.tail.getD i 0=l.getD (i+1) 0:=by
 cases l <;>simp
theorem vI {l:List Nat} (h:s9 l) (i:Nat):l.getD i 0<4294967296:=by
 rw [aw]
 cases e:l[i]? with
 | none=>exact (by decide:0<4294967296)
 | some d=>exact h d (List.mem_of_getElem? e)
theorem Bl {l:List Nat} (h:s9 l):s9 l.tail:=fun d hd=>h d (List.mem_of_mem_tail hd)
theorem Ef:∀ (n:Nat) {a b:List Nat},a.length≤n→b.length≤n→(∀ i,a.getD i 0=b.getD i 0)→cn a=cn b
 | 0,a,b,ha,hb,h=>by
  have e1:a= [] :=List.length_eq_zero_iff.1 (by omega)
  have e2:b= [] :=List.length_eq_zero_iff.1 (by omega)
  rw [e1,e2]
 | n+1,a,b,ha,hb,h=>by
  rw [kC a,kC b,h 0,Ef n (a:=a.tail) (b:=b.tail) (by simp;omega) (by simp;omega) fun i=>by rw [gX,gX];exact h (i+1)]
theorem LM:∀ (i:Nat) {a b:List Nat},s9 a→s9 b→(∀ j,i<j→a.getD j 0=b.getD j 0)→a.getD i 0<b.getD i 0→cn a<cn b
 | 0,a,b,ha,hb,h,hl=>by
  rw [kC a,kC b,Ef (max a.length b.length) (a:=a.tail) (b:=b.tail) (by simp;omega) (by simp;omega) fun j=>by rw [gX,gX];exact h (j+1) (by omega)]
  omega
 | i+1,a,b,ha,hb,h,hl=>by
  have ih:=LM i (a:=a.tail) (b:=b.tail) (Bl ha) (Bl hb) (fun j hj=>by rw [gX,gX];exact h (j+1) (by omega)) (by rw [gX,gX];exact hl)
  have h1:=vI ha 0
  rw [kC a,kC b]
  omega
def rI (d:Nat):List CD:= [.int (d:Int)]
def be (n:Nat):LD:=(FE n).map rI
def dI (l:LD):List Nat:=l.map fun r=>((r.getD 0 .d0).toInt).toNat
def dv (l:LD):Nat:=cn (dI l)
def fS (l:LD):Prop:=l=(dI l).map rI∧s9 (dI l)
def yd (l:LD):Prop:=l=be (dv l)
theorem xf (l:List Nat):dI (l.map rI)=l:=by
 unfold dI
 rw [List.map_map]
 have:((fun r:List CD=>((r.getD 0 .d0).toInt).toNat) ∘ rI)=id:=by funext d;rfl
 rw [this,List.map_id]
theorem cM (n:Nat):dv (be n)=n:=by unfold dv be;rw [xf,Xu]
theorem uF (n:Nat):yd (be n):=by unfold yd;rw [cM]
theorem zg (n:Nat):fS (be n):=by unfold fS be;rw [xf];exact ⟨rfl,XS n⟩
theorem Yi {l:List Nat} (h:s9 l):fS (l.map rI):=by unfold fS;rw [xf];exact ⟨rfl,h⟩
theorem kv (l:LD):(dI l).length=l.length:=bA ..
theorem Rj (l:List Nat) (i:Nat):rv (l.map rI) i=((l.getD i 0:Nat):Int):=by
 unfold rv
 rw [aw (l:=l.map rI),eW,aw (l:=l)]
 cases l[i]? <;>rfl
theorem pS {l:LD} (h:fS l) (i:Nat):rv l i=(((dI l).getD i 0:Nat):Int):=by
 have:=Rj (dI l) i
 rwa [← h.1] at this
theorem gO {l:LD} (h:fS l) (i:Nat):0≤rv l i∧rv l i<4294967296:=by
 rw [pS h]
 have:=vI h.2 i
 omega
theorem Qy {l:LD} {t:Nat} (h:fS l) (hl:t≤l.length) (h0:∀ j,t≤j→rv l j=0) (h1:t=0∨rv l (t-1)≠0):l.take t=be (dv l):=by
 have e:l.take t=((dI l).take t).map rI:=by rw [List.map_take,← h.1]
 rw [e,Qu h.2 (by rw [kv];exact hl) (fun j hj=>by have:=h0 j hj;rw [pS h] at this;omega) (h1.imp id fun h1=>by rw [pS h] at h1;omega)]
 rfl
end
end Go.Proofs.YteiecapbaeajdaaGreatDoor
namespace Go.NT
set_option linter.unusedVariables false
def Pr (p:Nat):Prop:=2≤p∧∀ d,d∣p→d=1∨d=p
theorem Pr.coprime {p a:Nat} (h:Pr p) (ha:¬ p∣a):Nat.gcd p a=1:=by
 rcases h.2 _ (Nat.gcd_dvd_left p a) with e | e
 ·exact e
 ·exact absurd (e ▸ Nat.gcd_dvd_right p a) ha
theorem Pr.dvd_mul {p a b:Nat} (h:Pr p) (hd:p∣a*b):p∣a∨p∣b:=by
 by_cases ha:p∣a
 ·exact .inl ha
 ·exact .inr (Nat.Coprime.dvd_of_dvd_mul_left (h.coprime ha) hd)
theorem Ge:∀ n:Nat,2≤n→∃ p,Pr p∧p∣n:=by
 intro n
 induction n using Nat.strongRecOn with
 | ind n ih=>
  intro h
  by_cases hp:∀ d,d∣n→d=1∨d=n
  ·exact ⟨n,⟨h,hp⟩,Nat.dvd_refl n⟩
  ·have ⟨d,hd⟩:=Classical.not_forall.1 hp
   have ⟨h1,h2⟩:=Classical.not_imp.1 hd
   have h3:d≠1:=fun e=>h2 (.inl e)
   have h4:d≠n:=fun e=>h2 (.inr e)
   have h5:=Nat.le_of_dvd (by omega) h1
   have h6:d≠0:=fun e=>by subst e;have:=Nat.eq_zero_of_zero_dvd h1;omega
   have ⟨p,k1,k2⟩:=ih d (by omega) (by omega)
   exact ⟨p,k1,Nat.dvd_trans k2 h1⟩
theorem Tk {n:Nat} (h2:2≤n) (h:∀ p,Pr p→p∣n→p*p≤n→False):Pr n:=by
 refine ⟨h2,fun d hd=> ?_⟩
 by_cases h1:d=1
 ·exact .inl h1
 by_cases h3:d=n
 ·exact .inr h3
 exfalso
 obtain ⟨e,he⟩:=hd
 have hd0:d≠0:=fun k=>by rw [k,Nat.zero_mul] at he;omega
 have he0:e≠0:=fun k=>by rw [k,Nat.mul_zero] at he;omega
 have he1:e≠1:=fun k=>by rw [k,Nat.mul_one] at he;omega
 rcases Nat.le_total d e with hl | hl
 ·have ⟨p,k1,k2⟩:=Ge d (by omega)
  have k3:=Nat.le_of_dvd (by omega) k2
  exact h p k1 (Nat.dvd_trans k2 ⟨e,he⟩) (by rw [he];exact Nat.mul_le_mul k3 (Nat.le_trans k3 hl))
 ·have ⟨p,k1,k2⟩:=Ge e (by omega)
  have k3:=Nat.le_of_dvd (by omega) k2
  exact h p k1 (Nat.dvd_trans k2 ⟨d,by rw [he,Nat.mul_comm]⟩) (by rw [he];exact Nat.mul_le_mul (Nat.le_trans k3 hl) k3)
def ch:Nat→Nat→Nat
 | _,0=>1
 | 0,_+1=>0
 | n+1,k+1=>ch n k+ch n (k+1)
theorem ve (n:Nat):ch n 0=1:=by cases n <;>rfl
theorem oJ:∀ n k,n<k→ch n k=0
 | 0,k+1,_=>rfl
 | n+1,k+1,h=>by
  rw [ch,oJ n k (by omega),oJ n (k+1) (by omega)]
theorem CQ:∀ n k,(k+1)*ch (n+1) (k+1)=(n+1)*ch n k
 | 0,0=>rfl
 | 0,k+1=>by rw [oJ 1 (k+2) (by omega),oJ 0 (k+1) (by omega)];omega
 | n+1,0=>by
  have:=CQ n 0
  rw [ve] at this ⊢
  rw [ch,ve]
  omega
 | n+1,k+1=>by
  have h1:=CQ n k
  have h2:=CQ n (k+1)
  have e1:ch (n+2) (k+2)=ch (n+1) (k+1)+ch (n+1) (k+2):=rfl
  have e2:ch (n+1) (k+1)=ch n k+ch n (k+1):=rfl
  rw [e1]
  grind
theorem TU {p k:Nat} (hp:Pr p) (h0:0<k) (h1:k<p):p∣ch p k:=by
 obtain ⟨q,rfl⟩:∃ q,p=q+1:=⟨p-1,by have:=hp.1;omega⟩
 obtain ⟨j,rfl⟩:∃ j,k=j+1:=⟨k-1,by omega⟩
 rcases hp.dvd_mul (⟨ch q j,CQ q j⟩:(q+1)∣(j+1)*ch (q+1) (j+1)) with h | h
 ·have:=Nat.le_of_dvd (by omega) h;omega
 ·exact h
def tm (a b:Int) (n k:Nat):Int:=(ch n k:Int)*a ^ (n-k)*b ^ k
theorem apt (a b:Int) (n:Nat):tm a b (n+1) 0=a*tm a b n 0:=by
 unfold tm
 rw [ve,ve,Nat.sub_zero,Nat.sub_zero,Int.pow_succ]
 grind
theorem Zl (a b:Int) (n k:Nat):tm a b (n+1) (k+1)=a*tm a b n (k+1)+b*tm a b n k:=by
 unfold tm
 have e1:ch (n+1) (k+1)=ch n k+ch n (k+1):=rfl
 rw [e1,Nat.add_sub_add_right]
 by_cases h:k<n
 ·rw [show n-k=(n-(k+1))+1 from by omega,Int.pow_succ,Int.pow_succ]
  grind
 ·rw [oJ n (k+1) (by omega),Int.pow_succ]
  grind
theorem M5 (a b:Int) (n k:Nat) (h:n<k):tm a b n k=0:=by
 unfold tm;rw [oJ n k h];simp
theorem QF {p k:Nat} (hp:Pr p) (h0:0<k) (h1:k<p) (a b:Int):(p:Int)∣tm a b p k:=by
 have:(p:Int)∣(ch p k:Int):=Int.natCast_dvd_natCast.2 (TU hp h0 h1)
 unfold tm
 rw [Int.mul_assoc]
 exact Int.dvd_mul_of_dvd_left this
def sm (f:Nat→Int):Nat→Int
 | 0=>0
 | n+1=>sm f n+f n
theorem qP (f:Nat→Int):∀ n,sm f (n+1)=f 0+sm (fun j=>f (j+1)) n
 | 0=>by simp [sm]
 | n+1=>by
  rw [sm,qP f n,sm]
  omega
theorem Jj (c d:Int) (f g:Nat→Int):∀ n,sm (fun j=>c*f j+d*g j) n=c*sm f n+d*sm g n
 | 0=>by simp [sm]
 | n+1=>by
  rw [sm,Jj c d f g n,sm,sm]
  grind
theorem Bo {f g:Nat→Int} :∀ {n},(∀ j,j<n→f j=g j)→sm f n=sm g n
 | 0,_=>rfl
 | n+1,h=>by rw [sm,sm,Bo fun j hj=>h j (by omega),h n (by omega)]
theorem H8 {f:Nat→Int} {m:Int} :∀ {n},(∀ j,j<n→m∣f j)→m∣sm f n
 | 0,_=>⟨0,by simp [sm]⟩
 | n+1,h=>Int.dvd_add (H8 fun j hj=>h j (by omega)) (h n (by omega))
def ml (D:Int) (x y:Int×Int):Int×Int:=(x.1*y.1+D*(x.2*y.2),x.1*y.2+x.2*y.1)
def pw (D:Int) (x:Int×Int):Nat→Int×Int
 | 0=>(1,0)
 | n+1=>ml D x (pw D x n)
theorem Ua (D a b:Int):∀ n K,n<2*K→pw D (a,b) n=(sm (fun j=>tm a b n (2*j)*D ^ j) K,sm (fun j=>tm a b n (2*j+1)*D ^ j) K)
 | 0,K,h=>by
  obtain ⟨L,rfl⟩:∃ L,K=L+1:=⟨K-1,by omega⟩
  have z:∀ (f:Nat→Int) n,(∀ j,f j=0)→sm f n=0:=fun f n hf=>by
   induction n with
   | zero=>rfl
   | succ n ih=>rw [sm,ih,hf];rfl
  rw [qP,z _ L (fun j=>by rw [M5 _ _ _ _ (by omega)];simp),z _ (L+1) (fun j=>by rw [M5 _ _ _ _ (by omega)];simp)]
  simp [pw,tm,ve]
 | n+1,K,h=>by
  rw [pw,Ua D a b n K (by omega)]
  obtain ⟨L,rfl⟩:∃ L,K=L+1:=⟨K-1,by omega⟩
  unfold ml
  ext
  ·show a*sm _ (L+1)+D*(b*sm _ (L+1))=sm _ (L+1)
   rw [qP (fun j=>tm a b n (2*j)*D ^ j),qP (fun j=>tm a b (n+1) (2*j)*D ^ j)]
   have e1:sm (fun j=>tm a b (n+1) (2*(j+1))*D ^ (j+1)) L=sm (fun j=>a*(tm a b n (2*(j+1))*D ^ (j+1))+(D*b)*(tm a b n (2*j+1)*D ^ j)) L:=by
    refine Bo fun j _=> ?_
    rw [show 2*(j+1)=(2*j+1)+1 from by omega,Zl,Int.pow_succ]
    grind
   rw [e1,Jj a (D*b) (fun j=>tm a b n (2*(j+1))*D ^ (j+1)) (fun j=>tm a b n (2*j+1)*D ^ j)]
   rw [sm,M5 a b n (2*L+1) (by omega)]
   simp only [Nat.mul_zero,apt]
   grind
  ·show a*sm _ (L+1)+b*sm _ (L+1)=sm _ (L+1)
   have e1:sm (fun j=>tm a b (n+1) (2*j+1)*D ^ j) (L+1)=sm (fun j=>a*(tm a b n (2*j+1)*D ^ j)+b*(tm a b n (2*j)*D ^ j)) (L+1):=by
    refine Bo fun j _=> ?_
    rw [Zl]
    grind
   rw [e1,Jj a b (fun j=>tm a b n (2*j+1)*D ^ j) (fun j=>tm a b n (2*j)*D ^ j)]
theorem arK {p K:Nat} (hp:Pr p) (hK:p=2*K+1) (D a b:Int):(p:Int)∣(pw D (a,b) p).1-a ^ p∧(p:Int)∣(pw D (a,b) p).2-b ^ p*D ^ K:=by
 rw [Ua D a b p (K+1) (by omega)]
 constructor
 ·show (p:Int)∣sm _ (K+1)-a ^ p
  rw [qP]
  have h1:tm a b p (2*0)*D ^ 0=a ^ p:=by simp [tm,ve]
  rw [h1]
  have:(p:Int)∣sm (fun j=>tm a b p (2*(j+1))*D ^ (j+1)) K:=H8 fun j hj=>Int.dvd_mul_of_dvd_left (QF hp (by omega) (by omega) a b)
  rw [show a ^ p+sm (fun j=>tm a b p (2*(j+1))*D ^ (j+1)) K-a ^ p=sm (fun j=>tm a b p (2*(j+1))*D ^ (j+1)) K from by omega]
  exact this
 ·show (p:Int)∣sm _ (K+1)-_
  rw [sm]
  have h1:tm a b p (2*K+1)=b ^ p:=by
   rw [← hK]
   have:∀ n,ch n n=1:=fun n=>by
    induction n with
    | zero=>rfl
    | succ n ih=>rw [ch,ih,oJ n (n+1) (by omega)]
   simp [tm,this]
  rw [h1]
  have:(p:Int)∣sm (fun j=>tm a b p (2*j+1)*D ^ j) K:=H8 fun j hj=>Int.dvd_mul_of_dvd_left (QF hp (by omega) (by omega) a b)
  rw [show sm (fun j=>tm a b p (2*j+1)*D ^ j) K+b ^ p*D ^ K-b ^ p*D ^ K=sm (fun j=>tm a b p (2*j+1)*D ^ j) K from by omega]
  exact this
theorem Qm (a b:Int):∀ n,(pw 1 (a,b) n).1+(pw 1 (a,b) n).2=(a+b) ^ n
 | 0=>by rw [Int.pow_zero];rfl
 | n+1=>by
  have:=Qm a b n
  rw [pw,Int.pow_succ,← this]
  unfold ml
  grind
theorem RF {p K:Nat} (hp:Pr p) (hK:p=2*K+1) (a:Int):(p:Int)∣(a+1) ^ p-a ^ p-1:=by
 obtain ⟨h1,h2⟩:=arK hp hK 1 a 1
 rw [← Qm a 1 p]
 have e:(1:Int) ^ p*1 ^ K=1:=by rw [Int.one_pow,Int.one_pow];rfl
 rw [e] at h2
 have:=Int.dvd_add h1 h2
 rw [show (pw 1 (a,1) p).1+(pw 1 (a,1) p).2-a ^ p-1=(pw 1 (a,1) p).1-a ^ p+((pw 1 (a,1) p).2-1) from by omega]
 exact this
theorem Jh {p K:Nat} (hp:Pr p) (hK:p=2*K+1):∀ a:Nat,(p:Int)∣(a:Int) ^ p-a
 | 0=>by
  rw [hK,Int.pow_succ]
  simp
 | a+1=>by
  have h1:=RF hp hK a
  have h2:=Jh hp hK a
  have:=Int.dvd_add h1 h2
  rw [show ((a+1:Nat):Int)=(a:Int)+1 from rfl]
  rw [show ((a:Int)+1) ^ p-(↑a+1)=((a:Int)+1) ^ p-(a:Int) ^ p-1+((a:Int) ^ p-a) from by omega]
  exact this
theorem X6 {p K:Nat} (hp:Pr p) (hK:p=2*K+1) (a:Int):(p:Int)∣a ^ p-a:=by
 rcases Int.eq_nat_or_neg a with ⟨n,h | h⟩
 ·rw [h];exact Jh hp hK n
 ·have h1:=Jh hp hK n
  have e:(-(n:Int)) ^ p= -((n:Int) ^ p):=by
   rw [hK,Int.pow_succ,Int.pow_succ,Int.pow_mul,Int.pow_mul]
   rw [show (-(n:Int)) ^ 2=(n:Int) ^ 2 from by grind]
   grind
  rw [h,e,show -((n:Int) ^ p)- -(n:Int)= -((n:Int) ^ p-n) from by omega]
  exact Int.dvd_neg.2 h1
theorem NZ (e:Nat→Prop) (h:∀ a b,e a→e b→e (b%a)) (a b:Nat):e a→e b→e (Nat.gcd a b):=by
 refine Nat.gcd.induction (P:=fun a b=>e a→e b→e (Nat.gcd a b)) a b (fun n _ hn=>by rw [Nat.gcd_zero_left];exact hn) fun m n hm ih h1 h2=> ?_
 rw [Nat.gcd_rec]
 exact ih (h _ _ h1 h2) h1
theorem LS {e:Nat→Prop} (h:∀ a b,e a→e b→e (b%a)) (hk:∀ a k,e a→e (a*k)) {f k M t:Nat} (hf:Pr f) (hM:e M) (hd:f ^ k∣M) (ht:e t) (hn:¬ e (M / f)):f ^ k∣t:=by
 have hg:=NZ e h M t hM ht
 obtain ⟨c,hc⟩:=Nat.gcd_dvd_left M t
 have hgt:=Nat.gcd_dvd_right M t
 generalize Nat.gcd M t=g at *
 have hfc:¬ f∣c:=fun ⟨c',hc'⟩=>by
  apply hn
  have:M=f*(g*c'):=by rw [hc,hc'];grind
  rw [this,Nat.mul_div_cancel_left _ (by have:=hf.1;omega)]
  exact hk _ _ hg
 have hcop:Nat.Coprime (f ^ k) c:=Nat.Coprime.pow_left k (hf.coprime hfc)
 rw [hc] at hd
 exact Nat.dvd_trans (hcop.dvd_of_dvd_mul_right hd) hgt
end Go.NT
