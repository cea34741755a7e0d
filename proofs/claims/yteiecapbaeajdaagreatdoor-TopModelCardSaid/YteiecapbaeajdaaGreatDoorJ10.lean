/-
 A product of numbers of many words, divided by 2^(64 n), of rests (Montgomery's way): contracts.
-/
import Derived.Test.YteiecapbaeajdaaGreatDoorJ9
import Derived.RangeFuncBox
import Derived.RangeFuncLeaves
import Derived.Shelf.Abstract
import Derived.WalkKit
import Derived.OwnWalkIn
import Derived.TacticsInMore
import Derived.LoopNIn
import Derived.LoopIn
import Derived.RegionIn
import Derived.Maps.AppendAt
import Derived.Test.YteiecapbaeajdaaGreatDoorProg
namespace Go.Proofs.YteiecapbaeajdaaGreatDoor
open Go Go.Avc
set_option linter.unusedVariables false
open Go Go.Avc Go.Proofs
set_option maxRecDepth 100000
set_option linter.unusedSimpArgs false
set_option maxRecDepth 10000
noncomputable section
def c5 (x:Int) (b:LD) (t:List Int):Nat→List Int×Int
 | 0=>(t,0)
 | j+1=>((c5 x b t j).1.set j (ee (gI (c5 x b t j).1 j) x (rv b j) (c5 x b t j).2),cY (gI (c5 x b t j).1 j) x (rv b j) (c5 x b t j).2)
def lj (k:Int) (m:LD) (t:List Int) (c:Int):Nat→List Int×Int
 | 0=>(t,c)
 | j+1=>((lj k m t c j).1.set j (ee (gI (lj k m t c j).1 (j+1)) k (rv m (j+1)) (lj k m t c j).2),cY (gI (lj k m t c j).1 (j+1)) k (rv m (j+1)) (lj k m t c j).2)
def w9 (n:Nat) (r:List Int×Int):List Int:=(r.1.set n (di (gI r.1 n) r.2 0)).set (n+1) (dj (gI r.1 n) r.2 0)
def nT (v:Int) (t:List Int):Int:=IntKind.u64.wrap (gI t 0*v)
def mh (m:LD) (v:Int) (t:List Int) (j:Nat):List Int×Int:=lj (nT v t) m t (cY (gI t 0) (nT v t) (rv m 0) 0) j
def Aa (n:Nat) (r:List Int×Int):List Int:=(r.1.set (n-1) (di (gI r.1 n) r.2 0)).set n (IntKind.u64.wrap (gI (r.1.set (n-1) (di (gI r.1 n) r.2 0)) (n+1)+dj (gI r.1 n) r.2 0))
def Fw (m b:LD) (v x:Int) (t:List Int):List Int:=Aa m.length (mh m v (w9 m.length (c5 x b t m.length)) (m.length-1))
def gY (m b:LD) (v:Int) (a:LD):Nat→List Int
 | 0=>List.replicate (m.length+2) 0
 | i+1=>Fw m b v (rv a i) (gY m b v a i)
def pm (m b:LD) (v:Int) (a:LD):List Int:=gY m b v a a.length
def eD (m b:LD) (v:Int) (a:LD):LD:=nB m (((pm m b v a).take m.length).map ae) (gI (pm m b v a) m.length)
def alF:Ct:= {ps:= [u64,u64,u64,u64],bs:= [],pre:=fun | [.i a,.i x,.i y,.i c] =>al a∧al x∧al y∧al c | _=>False,res:=fun | [.i a,.i x,.i y,.i c] => .ret (.tup [u64,u64]) [] [.i (ee a x y c),.i (cY a x y c)] | _=>ag}
def mS (a b m:LD) (v:Int):Prop:=aO a∧aO b∧aO m∧al v∧b.length=m.length∧2≤m.length
def NF:Ct:= {ps:= [.ptr 0 0,aI,aI],bs:= [qM],pre:=fun | [.r a,.r b,.r m,.i v,.r _] =>mS a b m v | _=>False,res:=fun | [.r a,.r b,.r m,.i v,.r q] => .ret aI [qM] [.r (eD m b v a),.r m,.i v,.r q] | _=>ag}
def DK:List (Nat×Pat):= [(0,.ptr 0 0),(2,aI),(7,i64),(8,.own 1),(25,aI),(26,i64),(27,i64)]
def aaA:List Dat→Ann
 | [.r a,.r b,.r m,.i v,.r q] =>⟨[(23,[la 151 [(0,.ptr 0 0),(7,i64),(8,aI)] [qM] (fun | [.i n,.r t,.r m',.i v',.r q'] =>n=m.length∧t=(pm m b v a).map ae∧m'=m∧v'=v∧q'=q | _=>False) js])],
   [(4,[la 151 DK [qM,ow] (fun | [.r b',.i n,.r a',.i na,.i i,.r m',.i v',.r q',.r t] =>b'=b∧n=m.length∧a'=a∧na=a.length∧0≤i∧i≤na∧m'=m∧v'=v∧q'=q∧t=(gY m b v a i.toNat).map ae | _=>False) (fun | [_,_,_,.i na,.i i,_,_,_,_] =>(na-i).toNat | _=>0)])],
   [ (8,[la 151 (DK++ [(10,u64),(11,u64),(31,aI),(32,i64),(33,i64)]) [qM,ow] (fun _=>True) js],fun
     | [.r b0,.i n0,.i x0,.i c0,.r a0,.i na0,.i i0,.r bb0,.i nb0,.i j0,.r m0,.i v0,.r q0,.r t0] => [la 151 (DK++ [(10,u64),(11,u64),(31,aI),(32,i64),(33,i64)]) [qM,ow]
      (fun | [.r b',.i n,.i x,.i c,.r a',.i na,.i i,.r bb,.i nb,.i j,.r m',.i v',.r q',.r t] =>b'=b∧n=m.length∧x=x0∧a'=a∧na=na0∧i=i0∧bb=b∧nb=m.length∧0≤j∧j≤nb∧m'=m∧v'=v∧q'=q∧t=(c5 x0 b (gY m b v a i0.toNat) j.toNat).1.map ae∧c=(c5 x0 b (gY m b v a i0.toNat) j.toNat).2 | _=>False)
      (fun | [_,_,_,_,_,_,_,_,.i nb,.i j,_,_,_,_] =>(nb-j).toNat | _=>0)]
     | _=> []),
    (17,[la 151 (DK++ [(11,u64),(15,u64),(16,i64)]) [qM,ow] (fun _=>True) js],fun
     | [.r b0,.i n0,.i c0,.i k0,.i j0,.r a0,.i na0,.i i0,.r m0,.i v0,.r q0,.r t0] => [la 151 (DK++ [(11,u64),(15,u64),(16,i64)]) [qM,ow]
      (fun | [.r b',.i n,.i c,.i k,.i j,.r a',.i na,.i i,.r m',.i v',.r q',.r t] =>b'=b∧n=m.length∧k=k0∧1≤j∧j≤n∧a'=a∧na=na0∧i=i0∧m'=m∧v'=v∧q'=q∧t=(mh m v (w9 m.length (c5 (rv a i0.toNat) b (gY m b v a i0.toNat) m.length)) (j.toNat-1)).1.map ae∧c=(mh m v (w9 m.length (c5 (rv a i0.toNat) b (gY m b v a i0.toNat) m.length)) (j.toNat-1)).2 | _=>False)
      (fun | [_,.i n,_,_,.i j,_,_,_,_,_,_,_] =>(n-j).toNat | _=>0)]
     | _=> [])]⟩
 | _=> {cut:= [],loop:= []}
def arC:Prop:=
 ∀ (a b c d:Int),
 al a∧al b∧al c∧al d→
 (al b∧al c)∧
 (al (b*c%(18446744073709551616:Int))∧al a∧(0:Int)≤0∧(0:Int)≤1)∧
 (al (di (b*c%(18446744073709551616:Int)) a 0)∧
 al d∧(0:Int)≤0∧(0:Int)≤1)∧
 di (di (b*c%(18446744073709551616:Int)) a 0) d 0=
 ee a b c d∧
 IntKind.u64.wrap
 (IntKind.u64.wrap (b*c / 18446744073709551616+dj (b*c%(18446744073709551616:Int)) a 0)+
 dj (di (b*c%(18446744073709551616:Int)) a 0) d 0)=
 cY a b c d
def U8:af:=aj ag9 249 (ap alF)
abbrev sD (a:LD):Int:=
 ↑a.length+2
abbrev jq (a:Int)(b:LD):Prop:=
 a=↑b.length
abbrev nM (a:Int)(b:LD):Prop:=
 a.toNat<b.length
abbrev cP (a:Int)(b:LD):Int:=
 ((b.getD a.toNat []).getD 0 (.int 0)).toInt
abbrev DP (a b:Int)(c:LD):LD:=
 c.set a.toNat ((c.getD a.toNat []).set 0 (.int (di (cP a c) b 0)))
abbrev vR (a b:Int)(c:LD):LD:=
 (DP a b c).set (a+1).toNat
 (((DP a b c).getD (a+1).toNat []).set 0
 (.int (dj (cP a c) b 0)))
abbrev qn (a b:Int)(c:LD):Int:=
 (((vR a b c).getD 0 []).getD 0 (.int 0)).toInt
abbrev vU (a b:Int)(c d e:LD):List Int:=
 w9 c.length
 (c5 (rv d a.toNat) e (gY c e b d a.toNat) c.length)
abbrev tl (a b:Int)(c:LD):LD:=
 c.set (a-(1:Int)).toNat
 ((c.getD (a-(1:Int)).toNat []).set 0 (.int (di (cP a c) b 0)))
def YI:Prop:=
 ∀ (a b c:LD) (d:Int) (e:LD),
 lM a→
 lM b→
 lM c→
 lM e→
 mS a b c d→
 lM c→
 iR (sD c)∧
 (0≤sD c∧
 sD c≤sD c∧
 (↑(8:Nat):Int)*sD c≤140737488355328∧
 sD c≤9223372036854775807)∧
 (lM a→
 ((b=b∧
 (↑c.length:Int)=(↑c.length:Int)∧
 a=a∧
 (↑a.length:Int)=(↑a.length:Int)∧
 (0:Int)≤0∧
 0≤(↑a.length:Int)∧
 c=c∧
 d=d∧
 e=e∧
 List.replicate (sD c).toNat [.int 0] =
 List.map ae (gY c b d a 0))∧
 True)∧
 ∀ (f:LD) (g:Int) (h:LD) (i j:Int) (k:LD) (m:Int) (o p:LD),
 lM f→
 lM h→
 lM k→
 lM o→
 lM p→
 f=b∧
 jq g c∧
 h=a∧
 jq i a∧
 0≤j∧
 j≤i∧
 k=c∧
 m=d∧
 o=e∧p=List.map ae (gY c b d a j.toNat)→
 bif decide (j<i) then
 bR j h∧
 nM j h∧
 (lM f→
 ((f=b∧
 jq g c∧
 cP j h=cP j h∧
 h=a∧
 i=i∧
 j=j∧
 f=b∧
 (↑f.length:Int)=(↑c.length:Int)∧
 (0:Int)≤0∧
 0≤(↑f.length:Int)∧
 k=c∧
 m=d∧
 o=e∧
 p=
 List.map ae
 (c5 (cP j h) b
 (gY c b d a j.toNat) 0).fst∧
 (0:Int)=
 (c5 (cP j h) b
 (gY c b d a j.toNat) 0).snd)∧
 True)∧
 ∀ (q:LD) (r s t:Int) (u:LD) (v w:Int) (x:LD) (y z:Int)
 (A:LD) (B:Int) (D F:LD),
 lM q→
 lM u→
 lM x→
 lM A→
 lM D→
 lM F→
 q=b∧
 jq r c∧
 s=cP j h∧
 u=a∧
 v=i∧
 w=j∧
 x=b∧
 jq y c∧
 0≤z∧
 z≤y∧
 A=c∧
 B=d∧
 D=e∧
 F=
 List.map ae
 (c5
 (cP j h) b
 (gY c b d a j.toNat) z.toNat).fst∧
 t=
 (c5
 (cP j h) b
 (gY c b d a j.toNat) z.toNat).snd→
 bif decide (z<y) then
 bR z x∧
 nM z x∧
 bR z F∧
 nM z F∧
 (al (cP z F)∧
 al s∧
 al (cP z x)∧
 al t)∧
 bR z F∧
 nM z F∧
 iR (z+1)∧
 (q=b∧
 jq r c∧
 s=cP j h∧
 u=a∧
 v=i∧
 w=j∧
 x=b∧
 jq y c∧
 0≤z+1∧
 z+1≤y∧
 A=c∧
 B=d∧
 D=e∧
 F.set z.toNat
 ((F.getD z.toNat []).set 0
 (.int
 (ee
 (cP z F) s
 (cP z x) t)))=
 List.map ae
 (c5
 (cP j h) b
 (gY c b d a j.toNat)
 (z+1).toNat).fst∧
 cY
 (cP z F) s
 (cP z x) t=
 (c5
 (cP j h) b
 (gY c b d a j.toNat)
 (z+1).toNat).snd)∧
 (y-(z+1)).toNat<(y-z).toNat
 else
 bR r F∧
 nM r F∧
 (al (cP r F)∧
 al t∧(0:Int)≤0∧(0:Int)≤1)∧
 bR r F∧
 nM r F∧
 iR (r+1)∧
 bR (r+1)
 (DP r t F)∧
 (r+1).toNat<(DP r t F).length∧
 bR 0
 (vR r t F)∧
 (0:Nat)<(vR r t F).length∧
 bR 0
 (vR r t F)∧
 (0:Nat)<(vR r t F).length∧
 bR 0 A∧
 (0:Nat)<A.length∧
 (al
 (qn r t F)∧
 al
 (IntKind.u64.wrap (qn r t F*B))∧
 al
 ((A.getD 0 []).getD 0 (.int 0)).toInt∧
 al 0)∧
 ((q=b∧
 jq r c∧
 IntKind.u64.wrap (qn r t F*B)=
 IntKind.u64.wrap
 (qn r t F*B)∧
 (1:Int)≤1∧
 1≤r∧
 u=a∧
 v=v∧
 w=w∧
 A=c∧
 B=d∧
 D=e∧
 vR r t F=
 List.map ae
 (mh c d
 (vU w d c
 a b)
 0).fst∧
 cY
 (qn r t F)
 (IntKind.u64.wrap
 (qn r t F *
 B))
 ((A.getD 0 []).getD 0
 (.int 0)).toInt
 0=
 (mh c d
 (vU w d c a
 b)
 0).snd)∧
 True)∧
 ∀ (G:LD) (H I J K:Int) (L:LD)
 (M N:Int) (O:LD) (R:Int) (S T:LD),
 lM G→
 lM L→
 lM O→
 lM S→
 lM T→
 G=b∧
 jq H c∧
 J=
 IntKind.u64.wrap
 (qn r t F*B)∧
 1≤K∧
 K≤H∧
 L=a∧
 M=v∧
 N=w∧
 O=c∧
 R=d∧
 S=e∧
 T=
 List.map
 ae
 (mh
 c d
 (vU
 w d c a b)
 (K.toNat-(1:Nat))).fst∧
 I=
 (mh c
 d
 (vU
 w d c a b)
 (K.toNat-(1:Nat))).snd→
 bif decide (K<H) then
 iR (K-(1:Int))∧
 bR K T∧
 nM K T∧
 bR K O∧
 nM K O∧
 (al
 (cP K T)∧
 al J∧
 al
 (cP K
 O)∧
 al I)∧
 bR (K-(1:Int))
 T∧
 (K-(1:Int)).toNat<T.length∧
 iR
 (K+1)∧
 (G=b∧
 jq H
 c∧
 J=
 IntKind.u64.wrap
 (qn
 r t F *
 B)∧
 1≤K+1∧
 K+1≤H∧
 L=a∧
 M=v∧
 N=w∧
 O=c∧
 R=d∧
 S=e∧
 T.set
 (K -
 (1:
 Int)).toNat
 ((T.getD
 (K -
 (1:
 Int)).toNat
 []).set
 0
 (.int
 (ee
 (cP
 K T)
 J
 (cP
 K O)
 I)))=
 List.map
 ae
 (mh
 c d
 (vU
 w d c a b)
 ((K+
 (1:
 Int)).toNat -
 (1:
 Nat))).fst∧
 cY
 (cP
 K T)
 J
 (cP
 K O)
 I=
 (mh
 c d
 (vU
 w d c a b)
 ((K+
 (1:
 Int)).toNat -
 (1:
 Nat))).snd)∧
 (H-(K+1)).toNat<(H-K).toNat
 else
 iR (H-(1:Int))∧
 bR H T∧
 nM H T∧
 (al
 (cP H T)∧
 al I∧
 (0:Int)≤0∧(0:Int)≤1)∧
 bR (H-(1:Int)) T∧
 (H-(1:Int)).toNat<T.length∧
 iR
 (H+1)∧
 bR
 (H+1)
 (tl H I
 T)∧
 (H+1).toNat <
 (tl H I
 T).length∧
 bR H
 (tl H
 I T)∧
 H.toNat <
 (tl
 H I T).length∧
 iR
 (N+1)∧
 (G=b∧
 jq
 H c∧
 L=a∧
 jq
 M a∧
 0≤N+1∧
 N+1≤M∧
 O=c∧
 R=d∧
 S=e∧
 (tl
 H I T).set
 H.toNat
 (((tl
 H I
 T).getD
 H.toNat
 []).set
 0
 (.int
 (IntKind.u64.wrap
 ((((tl
 H
 I
 T).getD
 (H+
 (1:
 Int)).toNat
 []).getD
 (0:
 Nat)
 (.int
 (0:
 Int))).toInt+
 dj
 (cP
 H T)
 I
 (0:
 Int)))))=
 List.map
 ae
 (gY
 c b d a
 (N+
 (1:
 Int)).toNat))∧
 (M-(N+1)).toNat <
 (i-j).toNat)
 else
 (jq g c∧
 p=List.map ae (pm c b d a)∧k=c∧m=d∧o=e)∧
 True)∧
 ∀ (f:Int) (g h:LD) (i:Int) (j:LD),
 lM g→
 lM h→
 lM j→
 jq f c∧
 g=List.map ae (pm c b d a)∧h=c∧i=d∧j=e→
 ((0:Int)≤0∧0≤f∧f≤(↑g.length:Int))∧
 bR f g∧
 nM f g∧
 (aO (List.drop 0 (List.take f.toNat g))∧aO h)∧
 nB h (List.drop 0 (List.take f.toNat g)) (cP f g)=
 eD c b d a∧
 h=c∧i=d∧j=e
def Oj:af:=aj U8 246 (ap NF)
theorem ak5:arC:=by
 rintro a x y c ⟨ha,hx,hy,hc⟩
 have iw:∀ z:Int,al (z%18446744073709551616):=fun z=>by unfold al;omega
 refine ⟨⟨hx,hy⟩,⟨iw _,ha,by omega,by omega⟩,⟨wz _ _ _,hc,by omega,by omega⟩,?_⟩
 have hb:=DG ha hx hy hc
 unfold al at ha hc
 have h1:0≤x*y:=Int.mul_nonneg hx.1 hy.1
 simp only [qc]
 unfold ee cY di dj
 generalize x*y=m at *
 refine ⟨by omega,by omega⟩
theorem Y8:(base.with U8).Ok:=ac c23 (ai am c23 Tryz.func249 (by kernel_rfl) Tryz.call249 (by kernel_rfl) ak5)
def wl (k:Nat) (t:List Int):Prop:=t.length=k∧∀ j,al (gI t j)
theorem rz {k:Nat} {t:List Int} (h:wl k t) (i:Nat) {x:Int} (hx:al x):wl k (t.set i x):=by
 refine ⟨by rw [dc];exact h.1,fun j=> ?_⟩
 unfold gI
 rw [aw,List.getElem?_set]
 split
 ·split
  ·exact hx
  ·exact ⟨by decide,by decide⟩
 ·rw [← aw];exact h.2 j
theorem Ig (k:Nat):wl k (List.replicate k 0):=⟨List.length_replicate,fun j=>by
 unfold gI
 rw [aw,List.getElem?_replicate]
 split <;>exact ⟨by decide,by decide⟩⟩
theorem DV {k:Nat} {x:Int} {b:LD} {t:List Int} (hx:al x) (hb:cE b) (ht:wl k t):∀ j,wl k (c5 x b t j).1∧al (c5 x b t j).2
 | 0=>⟨ht,bh⟩
 | j+1=>by
  have ⟨h1,h2⟩:=DV hx hb ht j
  exact ⟨rz h1 j (u9 ..),rk (h1.2 j) hx (hb j) h2⟩
theorem OD {n:Nat} {k c:Int} {m:LD} {t:List Int} (hk:al k) (hm:cE m) (hc:al c) (ht:wl n t):∀ j,wl n (lj k m t c j).1∧al (lj k m t c j).2
 | 0=>⟨ht,hc⟩
 | j+1=>by
  have ⟨h1,h2⟩:=OD hk hm hc ht j
  exact ⟨rz h1 j (u9 ..),rk (h1.2 (j+1)) hk (hm (j+1)) h2⟩
theorem HF {k n:Nat} {r:List Int×Int} (h:wl k r.1∧al r.2):wl k (w9 n r):=rz (rz h.1 _ (wz ..)) _ (Wf (h.1.2 n) h.2 ⟨by decide,by decide⟩)
theorem Cr {n:Nat} {v:Int} {m:LD} {t:List Int} (hm:cE m) (ht:wl n t) (j:Nat):wl n (mh m v t j).1∧al (mh m v t j).2:=OD (kb _) hm (rk (ht.2 0) (kb _) (hm 0) ⟨by decide,by decide⟩) ht j
theorem ZF {k n:Nat} {r:List Int×Int} (h:wl k r.1∧al r.2):wl k (Aa n r):=rz (rz h.1 _ (wz ..)) _ (kb _)
theorem yl {a b m:LD} {v:Int} (ha:cE a) (hb:cE b) (hm:cE m):∀ i,wl (m.length+2) (gY m b v a i)
 | 0=>Ig _
 | i+1=>ZF (Cr hm (HF (DV (ha i) hb (yl ha hb hm i) _)) _)
theorem E6 {n k:Nat} {t:List Int} (h:wl n t) (hk:k≤n):wl k (t.take k):=by
 refine ⟨by rw [List.length_take,h.1];omega,fun j=> ?_⟩
 unfold gI
 rw [aw]
 by_cases hj:j<k
 ·rw [List.getElem?_take_of_lt hj,← aw];exact h.2 j
 ·rw [fW (by rw [List.length_take];omega)];exact bh
theorem rW (L:List Int) (i:Nat) (x:Int):(L.map ae).set i (((L.map ae).getD i []).set 0 (CD.int x))=(L.set i x).map ae:=by
 by_cases h:i<L.length
 ·exact vS L i x h
 ·rw [List.set_eq_of_length_le (by rw [bA];omega),List.set_eq_of_length_le (by omega)]
theorem gQ (L:List Int) (i:Nat):rv (L.map ae) i=gI L i:=b7 L i
set_option maxHeartbeats 1000000 in
theorem ah9:YI:=by
 delta YI lM iR bR sD jq nM cP DP vR qn vU tl
 intro a b m v q _ _ _ _ hp _
 obtain ⟨ha,hb,hm,hv,hbm,h2⟩:=hp
 have la:=ha.1
 have lm:=hm.1
 have hT:=fun i=>yl (v:=v) ha.2 hb.2 hm.2 i
 refine ⟨by omega,⟨by omega,by omega,by omega,by omega⟩,⟨fun _=>⟨⟨⟨rfl,rfl,rfl,rfl,by omega,by omega,rfl,rfl,rfl,?_⟩,trivial⟩,?_⟩,?_⟩⟩
 case' refine_3=>
  intro n t m2 v2 q2 _ _ _ h
  obtain ⟨e1,e2,e3,e4,e5⟩:=h
  rw [e1,e2,e3,e4,e5]
  have h3:wl (m.length+2) (pm m b v a):=hT a.length
  have n0:((m.length:Int)).toNat=m.length:=by omega
  have hk:=E6 (k:=m.length) h3 (by omega)
  simp only [n0,dh,gQ,List.drop_zero,bA]
  rw [show (pm m b v a).length=m.length+2 from h3.1,← List.map_take]
  exact ⟨by omega,by omega,by omega,⟨⟨by rw [bA,hk.1];exact lm,fun j=>by rw [gQ];exact hk.2 j⟩,hm⟩,by repeat' first | exact trivial | rfl | apply And.intro⟩
 ·show _=List.map ae (List.replicate (m.length+2) 0)
  rw [List.map_replicate,show ((m.length:Int)+2).toNat=m.length+2 from by omega];rfl
 intro b' n a' na i m' v' q' t _ _ _ _ _ h
 obtain ⟨e1,e2,e3,e4,i0,i1,e6,e7,e8,e9⟩:=h
 rw [e1,e2,e3,e4,e6,e7,e8,e9]
 rw [e4] at i1
 clear e1 e2 e3 e4 e6 e7 e8 e9
 have ht:=hT i.toNat
 have hs:gY m b v a (i.toNat+1)=Fw m b v (rv a i.toNat) (gY m b v a i.toNat):=rfl
 obtain ⟨t,et⟩:∃ t,t=gY m b v a i.toNat:=⟨_,rfl⟩
 rw [← et] at ht hs
 refine aa (fun hi=> ?_) (fun hi=> ?_)
 ·have hi:=av hi
  refine ⟨⟨i0,hi⟩,by omega,fun _=>⟨⟨⟨rfl,rfl,rfl,rfl,rfl,rfl,rfl,by omega,by omega,by omega,rfl,rfl,rfl,rfl,rfl⟩,trivial⟩,?_⟩⟩
  rw [dh]
  intro b2 n2 x c a2 na2 i2 bb nb j m2 v2 q2 u _ _ _ _ _ _ h
  obtain ⟨e1,e2,e3,e4,e5,e6,e7,e8,j0,j1,Vl,e11,e12,ZK,e14⟩:=h
  rw [e1,e2,e3,e4,e5,e6,e7,e8,Vl,e11,e12,ZK,e14]
  rw [e8] at j1
  clear e1 e2 e3 e4 e5 e6 e7 e8 Vl e11 e12 ZK e14
  have hx:=ha.2 i.toNat
  have hM:=fun j=>DV (k:=m.length+2) hx hb.2 ht j
  refine aa (fun hj=> ?_) (fun hj=> ?_)
  ·have hj:=av hj
   have hw:=hM j.toNat
   simp only [dh,rW,gQ,bA,dc,← et,hw.1.1]
   have en:(j+1).toNat=j.toNat+1:=by omega
   rw [en]
   repeat' first
    | exact trivial
    | rfl
    | exact hw.1.2 _
    | exact hx
    | exact hb.2 _
    | exact hw.2
    | omega
    | apply And.intro
  ·have hj:=au hj
   have hjn:j.toNat=m.length:=by omega
   rw [hjn]
   have hw:=hM m.length
   have h1:=HF (n:=m.length) hw
   have hs1:w9 m.length (c5 (rv a i.toNat) b t m.length)=((c5 (rv a i.toNat) b t m.length).1.set m.length (di (gI (c5 (rv a i.toNat) b t m.length).1 m.length) (c5 (rv a i.toNat) b t m.length).2 0)).set (m.length+1) (dj (gI (c5 (rv a i.toNat) b t m.length).1 m.length) (c5 (rv a i.toNat) b t m.length).2 0):=rfl
   have n1:((m.length:Int)+1).toNat=m.length+1:=by omega
   have n0:((m.length:Int)).toNat=m.length:=by omega
   simp only [dh,rW,gQ,bA,dc,← et,hw.1.1,n0,n1]
   simp only [← hs1]
   obtain ⟨w,ew⟩:∃ w,w=w9 m.length (c5 (rv a i.toNat) b t m.length):=⟨_,rfl⟩
   simp only [← ew]
   rw [← ew] at h1
   refine ⟨by omega,by omega,⟨hw.1.2 _,hw.2,by decide,by decide⟩,by omega,by omega,by omega,by omega,by omega,by omega,by omega,by omega,by omega,by omega,by omega,⟨h1.2 0,kb _,hm.2 0,bh⟩,⟨?_,trivial⟩,?_⟩
   ·repeat' first
     | exact trivial
     | rfl
     | omega
     | apply And.intro
   intro b3 n3 c3 k3 j3 a3 na3 i3 m3 v3 q3 u3 _ _ _ _ _ h
   obtain ⟨f1,f2,f3,g0,g1,f6,f7,f8,f9,f10,f11,f12,f13⟩:=h
   rw [f1,f2,f3,f6,f7,f8,f9,f10,f11,f12,f13]
   rw [f2] at g1
   clear f1 f2 f3 f6 f7 f8 f9 f10 f11 f12 f13
   refine aa (fun hj3=> ?_) (fun hj3=> ?_)
   ·have hj3:=av hj3
    obtain ⟨p,hp⟩:∃ p,p=j3.toNat-1:=⟨_,rfl⟩
    have p1:j3.toNat=p+1:=by omega
    have p2:(j3-1).toNat=p:=by omega
    have p3:(j3+1).toNat-1=p+1:=by omega
    have hw2:=Cr (v:=v) hm.2 h1 p
    simp only [p2,p3,p1,Nat.add_sub_cancel,dh,rW,gQ,bA,dc,hw2.1.1]
    refine ⟨by omega,by omega,by omega,by omega,by omega,⟨hw2.1.2 _,kb _,hm.2 _,hw2.2⟩,by omega,by omega,by omega,?_,by omega⟩
    repeat' first
     | exact trivial
     | rfl
     | omega
     | apply And.intro
   ·have hj3:=au hj3
    have p1:j3.toNat=m.length:=by omega
    have n3:((m.length:Int)-1).toNat=m.length-1:=by omega
    have hw3:=Cr (v:=v) hm.2 h1 (m.length-1)
    have en:(i+1).toNat=i.toNat+1:=by omega
    have hf:Fw m b v (rv a i.toNat) t=((mh m v w (m.length-1)).1.set (m.length-1) (di (gI (mh m v w (m.length-1)).1 m.length) (mh m v w (m.length-1)).2 0)).set m.length (IntKind.u64.wrap (gI ((mh m v w (m.length-1)).1.set (m.length-1) (di (gI (mh m v w (m.length-1)).1 m.length) (mh m v w (m.length-1)).2 0)) (m.length+1)+dj (gI (mh m v w (m.length-1)).1 m.length) (mh m v w (m.length-1)).2 0)):=by
     unfold Fw Aa
     rw [← ew]
    simp only [p1,n0,n1,n3,dh,rW,gQ,bA,dc,hw3.1.1,en,hs,hf]
    refine ⟨by omega,by omega,by omega,⟨hw3.1.2 _,hw3.2,by decide,by decide⟩,by omega,by omega,by omega,by omega,by omega,by omega,by omega,by omega,?_,by omega⟩
    refine ⟨trivial,trivial,trivial,trivial,by omega,by omega,trivial,trivial,trivial,?_⟩
    exact trivial
 ·have hi:=au hi
  have hn:i.toNat=a.length:=by omega
  rw [hn]
  exact ⟨⟨rfl,rfl,rfl,rfl,rfl⟩,trivial⟩
theorem ads:(base.with Oj).Ok:=ac Y8 (ai aaA Y8 Tryz.func246 (by kernel_rfl) Tryz.call246 (by kernel_rfl) ah9)
def ps (f:Nat→Int):Nat→Int
 | 0=>0
 | n+1=>ps f n+18446744073709551616 ^ n*f n
theorem iz {f g:Nat→Int} :∀ {n},(∀ i,i<n→f i=g i)→ps f n=ps g n
 | 0,_=>rfl
 | n+1,h=>by rw [ps,ps,iz fun i hi=>h i (by omega),h n (by omega)]
theorem rK (n:Nat):(0:Int)<18446744073709551616 ^ n:=Int.pow_pos (by decide)
theorem i7 {f:Nat→Int} :∀ {n},(∀ i,i<n→al (f i))→0≤ps f n∧ps f n<18446744073709551616 ^ n
 | 0,_=>⟨Int.le_refl 0,by show (0:Int)<1;decide⟩
 | n+1,h=>by
  have ⟨h1,h2⟩:=i7 (n:=n) fun i hi=>h i (by omega)
  have ⟨k1,k2⟩:=h n (by omega)
  have hp:=rK n
  rw [ps,Int.pow_succ]
  have m1:0≤18446744073709551616 ^ n*f n:=Int.mul_nonneg (by omega) k1
  have m2:18446744073709551616 ^ n*f n≤18446744073709551616 ^ n*(18446744073709551616-1):=Int.mul_le_mul_of_nonneg_left (by omega) (by omega)
  omega
theorem AJ {a b:LD} (ha:cE a) (hb:cE b):∀ n,(gp a b n<0↔ps (rv a) n<ps (rv b) n)∧(gp a b n=0↔ps (rv a) n=ps (rv b) n)
 | 0=>⟨⟨fun h=>absurd h (by show ¬ (0:Int)<0;decide),fun h=>absurd h (by show ¬ (0:Int)<0;decide)⟩,⟨fun _=>rfl,fun _=>rfl⟩⟩
 | n+1=>by
  have ⟨h1,h2⟩:=AJ ha hb n
  have ⟨a1,a2⟩:=i7 (n:=n) (f:=rv a) fun i _=>ha i
  have ⟨b1,b2⟩:=i7 (n:=n) (f:=rv b) fun i _=>hb i
  have hp:=rK n
  have key:∀ x y:Int,x<y→18446744073709551616 ^ n*x+18446744073709551616 ^ n≤18446744073709551616 ^ n*y:=fun x y h=>by
   have:=Int.mul_le_mul_of_nonneg_left (show x+1≤y by omega) (show (0:Int)≤18446744073709551616 ^ n by omega)
   rw [Int.mul_add,Int.mul_one] at this
   exact this
  rw [gp,ps,ps]
  unfold tE
  by_cases c1:rv a n<rv b n
  ·have:=key _ _ c1
   rw [if_pos c1]
   rw [if_neg (by decide)]
   exact ⟨⟨fun _=>by omega,fun _=>by decide⟩,⟨fun h=>absurd h (by decide),fun h=>by omega⟩⟩
  ·rw [if_neg c1]
   by_cases c2:rv b n<rv a n
   ·have:=key _ _ c2
    rw [if_pos c2,if_neg (by decide)]
    exact ⟨⟨fun h=>absurd h (by decide),fun h=>by omega⟩,⟨fun h=>absurd h (by decide),fun h=>by omega⟩⟩
   ·rw [if_neg c2,if_pos rfl,show rv a n=rv b n from by omega]
    exact ⟨⟨fun h=>by have:=h1.1 h;omega,fun h=>h1.2 (by omega)⟩,⟨fun h=>by have:=h2.1 h;omega,fun h=>h2.2 (by omega)⟩⟩
theorem cr (t:List Int) (i j:Nat) (x:Int):gI (t.set i x) j=if i=j then (if i<t.length then x else 0) else gI t j:=by
 unfold gI
 rw [aw,List.getElem?_set]
 split
 ·split <;>rfl
 ·rw [← aw]
theorem PE {a b:LD} (ha:cE a) (hb:cE b):∀ i,i≤cZ a b→ps (gI (dV a b i).1) i=ps (rv a) i-ps (rv b) i+18446744073709551616 ^ i*(dV a b i).2
 | 0,_=>rfl
 | i+1,h=>by
  have ih:=PE ha hb i (by omega)
  have hc:=TV a b i
  have hl:=ug a b i
  have he:=C1 (ha i) (hb i) hc
  rw [ps,ps,ps,dV]
  dsimp only
  rw [iz (f:=gI ((dV a b i).1.set i _)) (g:=gI (dV a b i).1) fun j hj=>by rw [cr,if_neg (by omega)],ih,cr,if_pos rfl,if_pos (by omega),he,Int.pow_succ]
  grind
theorem oU (L:List Int):rv (L.map ae)=gI L:=by funext i;exact b7 L i
theorem Lz {m a:LD} {c V:Int} (ha:cE a) (hm:cE m) (hl:a.length=m.length) (hV:V=ps (rv a) m.length+18446744073709551616 ^ m.length*c) (h0:0≤c) (h2:V<2*ps (rv m) m.length):
  ps (rv (nB m a c)) m.length=V%ps (rv m) m.length:=by
 have ⟨a1,a2⟩:=i7 (n:=m.length) (f:=rv a) fun i _=>ha i
 have ⟨b1,b2⟩:=i7 (n:=m.length) (f:=rv m) fun i _=>hm i
 have hmx:cZ a m=m.length:=by unfold cZ;omega
 have ⟨k1,_⟩:=AJ ha hm m.length
 unfold nB
 rw [hmx]
 by_cases hc:c=0∧gp a m m.length<0
 ·rw [if_pos hc]
  have:=k1.1 hc.2
  rw [hc.1,Int.mul_zero,Int.add_zero] at hV
  rw [hV,Int.emod_eq_of_lt a1 this]
 ·rw [if_neg hc]
  have hge:ps (rv m) m.length≤V:=by
   by_cases e:c=0
   ·have:¬ gp a m m.length<0:=fun h=>hc ⟨e,h⟩
    rw [k1] at this
    rw [hV,e];omega
   ·have:=Int.mul_le_mul_of_nonneg_left (show 1≤c by omega) (show (0:Int)≤18446744073709551616 ^ m.length by have:=rK m.length;omega)
    omega
  have h3:=PE ha hm m.length (by omega)
  have hw:=Nx a m m.length
  have ⟨r1,r2⟩:=i7 (n:=m.length) (f:=gI (dV a m m.length).1) fun i _=>hw i
  rw [oU]
  have hd:0≤V-ps (rv m) m.length∧V-ps (rv m) m.length<ps (rv m) m.length:=by omega
  have he:V%ps (rv m) m.length=V-ps (rv m) m.length:=by
   have:V=V-ps (rv m) m.length+ps (rv m) m.length*1:=by omega
   rw [this,Int.add_mul_emod_self_left,Int.emod_eq_of_lt hd.1 hd.2]
   omega
  rw [he]
  have hx:ps (gI (dV a m m.length).1) m.length-(V-ps (rv m) m.length)=18446744073709551616 ^ m.length*((dV a m m.length).2-c):=by rw [h3,hV];grind
  have hp:=rK m.length
  have hz:(dV a m m.length).2-c=0:=by
   rcases Int.lt_trichotomy ((dV a m m.length).2-c) 0 with h | h | h
   ·have:=Int.mul_le_mul_of_nonneg_left (show (dV a m m.length).2-c≤-1 by omega) (show (0:Int)≤18446744073709551616 ^ m.length by omega)
    omega
   ·exact h
   ·have:=Int.mul_le_mul_of_nonneg_left (show 1≤(dV a m m.length).2-c by omega) (show (0:Int)≤18446744073709551616 ^ m.length by omega)
    omega
  rw [hz,Int.mul_zero] at hx
  omega
theorem JK {x:Int} {b:LD} {t:List Int} :∀ (j i:Nat),j≤i→gI (c5 x b t j).1 i=gI t i
 | 0,_,_=>rfl
 | j+1,i,h=>by rw [c5];dsimp only;rw [cr,if_neg (by omega),JK j i (by omega)]
theorem EU {x:Int} {b:LD} {t:List Int} :∀ j,(c5 x b t j).1.length=t.length
 | 0=>rfl
 | j+1=>by rw [c5];dsimp only;rw [dc,EU j]
theorem K5 {x:Int} {b:LD} {t:List Int} :∀ j,j≤t.length→ps (gI (c5 x b t j).1) j+18446744073709551616 ^ j*(c5 x b t j).2=ps (gI t) j+x*ps (rv b) j
 | 0,_=>by simp [c5,ps]
 | j+1,h=>by
  have ih:=K5 (x:=x) (b:=b) (t:=t) j (by omega)
  have he:=mL (gI (c5 x b t j).1 j) x (rv b j) (c5 x b t j).2
  have hh:=JK (x:=x) (b:=b) (t:=t) j j (Nat.le_refl j)
  rw [ps,ps,ps,c5]
  dsimp only
  rw [iz (f:=gI ((c5 x b t j).1.set j _)) (g:=gI (c5 x b t j).1) fun i hi=>by rw [cr,if_neg (by omega)],cr,if_pos rfl,if_pos (by rw [EU];omega),Int.pow_succ]
  rw [hh] at he ⊢
  generalize ee (gI t j) x (rv b j) (c5 x b t j).2=lo at *
  generalize cY (gI t j) x (rv b j) (c5 x b t j).2=hi at *
  generalize (18446744073709551616:Int) ^ j=w at *
  grind
theorem Cs {k c:Int} {m:LD} {t:List Int} :∀ (j i:Nat),j≤i→gI (lj k m t c j).1 i=gI t i
 | 0,_,_=>rfl
 | j+1,i,h=>by rw [lj];dsimp only;rw [cr,if_neg (by omega),Cs j i (by omega)]
theorem D4 {k c:Int} {m:LD} {t:List Int} :∀ j,(lj k m t c j).1.length=t.length
 | 0=>rfl
 | j+1=>by rw [lj];dsimp only;rw [dc,D4 j]
theorem LO {k c:Int} {m:LD} {t:List Int} (hc:18446744073709551616*c=gI t 0+k*rv m 0):∀ j,j<t.length→18446744073709551616*(ps (gI (lj k m t c j).1) j+18446744073709551616 ^ j*(lj k m t c j).2)=ps (gI t) (j+1)+k*ps (rv m) (j+1)
 | 0,_=>by
  show 18446744073709551616*(0+1*c)=0+1*gI t 0+k*(0+1*rv m 0)
  grind
 | j+1,h=>by
  have ih:=LO hc j (by omega)
  have hh:=Cs (k:=k) (c:=c) (m:=m) (t:=t) j (j+1) (by omega)
  have he:=mL (gI (lj k m t c j).1 (j+1)) k (rv m (j+1)) (lj k m t c j).2
  have e1:ps (gI t) (j+1+1)=ps (gI t) (j+1)+18446744073709551616 ^ (j+1)*gI t (j+1):=rfl
  have e2:ps (rv m) (j+1+1)=ps (rv m) (j+1)+18446744073709551616 ^ (j+1)*rv m (j+1):=rfl
  rw [e1,e2,ps,lj]
  dsimp only
  rw [iz (f:=gI ((lj k m t c j).1.set j _)) (g:=gI (lj k m t c j).1) fun i hi=>by rw [cr,if_neg (by omega)],cr,if_pos rfl,if_pos (by rw [D4];omega),Int.pow_succ]
  rw [hh] at he ⊢
  generalize ee (gI t (j+1)) k (rv m (j+1)) (lj k m t c j).2=lo at *
  generalize cY (gI t (j+1)) k (rv m (j+1)) (lj k m t c j).2=hi at *
  generalize (18446744073709551616:Int) ^ j=w at *
  grind
theorem XA {m b:LD} {v x:Int} {t:List Int} (hx:al x) (hb:cE b) (hm:cE m) (ht:wl (m.length+2) t) (hv:(rv m 0*v+1)%18446744073709551616=0) (h2:2≤m.length)
  (hV:ps (gI t) (m.length+1)<ps (rv b) m.length+ps (rv m) m.length):
  ∃ k,al k∧18446744073709551616*ps (gI (Fw m b v x t)) (m.length+1)=ps (gI t) (m.length+1)+x*ps (rv b) m.length+k*ps (rv m) m.length:=by
 obtain ⟨n,hn⟩:∃ n,m.length=n+1:=⟨m.length-1,by omega⟩
 have hM:=DV (k:=m.length+2) hx hb ht m.length
 have hu:=HF (n:=m.length) hM
 have v1:=K5 (x:=x) (b:=b) (t:=t) m.length (by rw [ht.1];omega)
 have hi1:=JK (x:=x) (b:=b) (t:=t) m.length m.length (Nat.le_refl _)
 have hlen:=EU (x:=x) (b:=b) (t:=t) m.length
 unfold Fw
 obtain ⟨u,eu⟩:∃ u,u=w9 m.length (c5 x b t m.length):=⟨_,rfl⟩
 have un:gI u m.length=di (gI t m.length) (c5 x b t m.length).2 0:=by
  rw [eu,w9,cr,if_neg (by omega),cr,if_pos rfl,if_pos (by rw [hlen,ht.1];omega),hi1]
 have un1:gI u (m.length+1)=dj (gI t m.length) (c5 x b t m.length).2 0:=by
  rw [eu,w9,cr,if_pos rfl,if_pos (by rw [dc,hlen,ht.1];omega),hi1]
 have ul:ps (gI u) m.length=ps (gI (c5 x b t m.length).1) m.length:=iz fun i hi=>by rw [eu,w9,cr,if_neg (by omega),cr,if_neg (by omega)]
 have had:=zb (x:=gI t m.length) (y:=(c5 x b t m.length).2) (c:=0)
 rw [← un,← un1] at had
 rw [← eu] at hu ⊢
 have vt:ps (gI t) (m.length+1)=ps (gI t) m.length+18446744073709551616 ^ m.length*gI t m.length:=rfl
 have hk:=kb (gI u 0*v)
 refine ⟨nT v u,hk,?_⟩
 have hc:18446744073709551616*cY (gI u 0) (nT v u) (rv m 0) 0=gI u 0+nT v u*rv m 0:=by
  have he:=mL (gI u 0) (nT v u) (rv m 0) 0
  have hz:ee (gI u 0) (nT v u) (rv m 0) 0=0:=by
   show (gI u 0+nT v u*rv m 0+0)%18446744073709551616=0
   unfold nT
   rw [fU,Int.add_zero,Int.add_emod,Int.mul_emod,Int.emod_emod,← Int.mul_emod,← Int.add_emod]
   rw [show gI u 0+gI u 0*v*rv m 0=gI u 0*(rv m 0*v+1) from by grind,Int.mul_emod,hv,Int.mul_zero];rfl
  rw [hz] at he
  omega
 have v2:=LO (k:=nT v u) (m:=m) (t:=u) hc n (by rw [hu.1];omega)
 have hR:=Cr (v:=v) hm hu (m.length-1)
 have hh1:=Cs (k:=nT v u) (c:=cY (gI u 0) (nT v u) (rv m 0) 0) (m:=m) (t:=u) n m.length (by omega)
 have hh2:=Cs (k:=nT v u) (c:=cY (gI u 0) (nT v u) (rv m 0) 0) (m:=m) (t:=u) n (m.length+1) (by omega)
 have hl2:=D4 (k:=nT v u) (c:=cY (gI u 0) (nT v u) (rv m 0) 0) (m:=m) (t:=u) n
 have en:m.length-1=n:=by omega
 rw [en] at hR ⊢
 obtain ⟨r,er⟩:∃ r,r=mh m v u n:=⟨_,rfl⟩
 have er':lj (nT v u) m u (cY (gI u 0) (nT v u) (rv m 0) 0) n=r:=by rw [er];rfl
 rw [er'] at v2 hh1 hh2 hl2
 rw [← er] at hR ⊢
 have hadu:0≤dj (gI r.1 m.length) r.2 0∧dj (gI r.1 m.length) r.2 0≤1:=Gx (hR.1.2 _) hR.2 ⟨by decide,by decide⟩
 have hadv:0≤gI u (m.length+1)∧gI u (m.length+1)≤1:=by rw [un1];exact Gx (ht.2 _) hM.2 ⟨by decide,by decide⟩
 have had2:=zb (x:=gI r.1 m.length) (y:=r.2) (c:=0)
 have g1:gI (Aa m.length r) m.length=gI u (m.length+1)+dj (gI r.1 m.length) r.2 0:=by
  unfold Aa
  rw [cr,if_pos rfl,if_pos (by rw [dc,hl2,hu.1];omega),cr,if_neg (by omega),hh2]
  exact df ⟨by omega,by omega⟩
 have g2:gI (Aa m.length r) n=di (gI r.1 m.length) r.2 0:=by
  unfold Aa
  rw [cr,if_neg (by omega),cr,en,if_pos rfl,if_pos (by rw [hl2,hu.1];omega)]
 have g3:ps (gI (Aa m.length r)) n=ps (gI r.1) n:=iz fun i hi=>by unfold Aa;rw [cr,if_neg (by omega),cr,if_neg (by omega)]
 have hps:∀ F:Nat→Int,ps F m.length=ps F n+18446744073709551616 ^ n*F n:=fun F=>by rw [hn];rfl
 have w0:(18446744073709551616:Int) ^ m.length=18446744073709551616 ^ (n+1):=by rw [hn]
 have gs:ps (gI (Aa m.length r)) (m.length+1)=ps (gI r.1) n+18446744073709551616 ^ n*di (gI r.1 m.length) r.2 0+18446744073709551616 ^ (n+1)*(gI u (m.length+1)+dj (gI r.1 m.length) r.2 0):=by
  rw [ps,g1,hps,g3,g2,w0]
 rw [gs,vt]
 rw [hh1] at had2 ⊢
 rw [hn] at v1 ul had had2 un un1 ⊢
 have w1:(18446744073709551616:Int) ^ (n+1)=18446744073709551616 ^ n*18446744073709551616:=Int.pow_succ ..
 rw [w1] at v1 ⊢
 rw [ul] at v2
 generalize (18446744073709551616:Int) ^ n=w at *
 generalize di (gI u (n+1)) r.2 0=s at *
 generalize dj (gI u (n+1)) r.2 0=d at *
 generalize ps (gI (c5 x b t (n+1)).1) (n+1)=p at *
 generalize (c5 x b t (n+1)).2=c at *
 clear hv hc un un1
 grind
theorem Lr {m b a:LD} {v:Int} (ha:cE a) (hb:cE b) (hm:cE m) (hv:(rv m 0*v+1)%18446744073709551616=0) (h2:2≤m.length) (hM:0<ps (rv m) m.length):
  ∀ i,ps (gI (gY m b v a i)) (m.length+1)<ps (rv b) m.length+ps (rv m) m.length∧
   ∃ k:Int,18446744073709551616 ^ i*ps (gI (gY m b v a i)) (m.length+1)=ps (rv a) i*ps (rv b) m.length+k*ps (rv m) m.length
 | 0=>by
  have e:ps (gI (gY m b v a 0)) (m.length+1)=0:=by
   have:∀ n,ps (gI (List.replicate (m.length+2) 0)) n=0:=fun n=>by
    induction n with
    | zero=>rfl
    | succ n ih=>
     rw [ps,ih]
     have:gI (List.replicate (m.length+2) 0) n=0:=by
      unfold gI
      rw [aw,List.getElem?_replicate]
      split <;>rfl
     rw [this,Int.mul_zero];rfl
   exact this _
  rw [e]
  have hB:=i7 (n:=m.length) (f:=rv b) fun i _=>hb i
  exact ⟨by omega,0,by simp [ps]⟩
 | i+1=>by
  have ⟨h1,k1,h3⟩:=Lr ha hb hm hv h2 hM i
  obtain ⟨k,hk,hs⟩:=XA (ha i) hb hm (yl (v:=v) ha hb hm i) hv h2 h1
  have es:gY m b v a (i+1)=Fw m b v (rv a i) (gY m b v a i):=rfl
  rw [es]
  have hB:=(i7 (n:=m.length) (f:=rv b) fun i _=>hb i).1
  have hx:=ha i
  have m1:rv a i*ps (rv b) m.length≤18446744073709551615*ps (rv b) m.length:=Int.mul_le_mul_of_nonneg_right (by have:=hx.2;omega) hB
  have m2:k*ps (rv m) m.length≤18446744073709551615*ps (rv m) m.length:=Int.mul_le_mul_of_nonneg_right (by have:=hk.2;omega) (by omega)
  refine ⟨by omega,k1+18446744073709551616 ^ i*k,?_⟩
  have ea:ps (rv a) (i+1)=ps (rv a) i+18446744073709551616 ^ i*rv a i:=rfl
  rw [ea,Int.pow_succ]
  generalize ps (gI (Fw m b v (rv a i) (gY m b v a i))) (m.length+1)=y at *
  generalize ps (gI (gY m b v a i)) (m.length+1)=z at *
  generalize (18446744073709551616:Int) ^ i=w at *
  have:w*18446744073709551616*y=w*(18446744073709551616*y):=by grind
  rw [this,hs]
  grind
theorem D2 {m b a:LD} {v:Int} (hp:mS a b m v) (hv:(rv m 0*v+1)%18446744073709551616=0) (hM:0<ps (rv m) m.length) (hB:ps (rv b) m.length≤ps (rv m) m.length):
  (0≤ps (rv (eD m b v a)) m.length∧ps (rv (eD m b v a)) m.length<ps (rv m) m.length)∧
   ∃ k:Int,18446744073709551616 ^ a.length*ps (rv (eD m b v a)) m.length=ps (rv a) a.length*ps (rv b) m.length+k*ps (rv m) m.length:=by
 obtain ⟨ha,hb,hm,_,_,h2⟩:=hp
 have ⟨h1,k,h3⟩:=Lr ha.2 hb.2 hm.2 hv h2 hM a.length
 have hT:wl (m.length+2) (pm m b v a):=yl (v:=v) ha.2 hb.2 hm.2 a.length
 have hk:=E6 (k:=m.length) hT (by omega)
 have e:ps (rv (eD m b v a)) m.length=ps (gI (pm m b v a)) (m.length+1)%ps (rv m) m.length:=by
  unfold eD
  refine Lz (V:=ps (gI (pm m b v a)) (m.length+1)) (fun j=>by rw [gQ];exact hk.2 j) hm.2 (by rw [bA,hk.1]) ?_ (hT.2 _).1 ?_
  ·rw [ps,oU]
   congr 1
   refine iz fun i hi=> ?_
   unfold gI
   rw [aw,aw,List.getElem?_take_of_lt hi]
  ·show ps (gI (gY m b v a a.length)) (m.length+1)<_
   omega
 rw [e]
 refine ⟨⟨Int.emod_nonneg _ (by omega),Int.emod_lt_of_pos _ hM⟩,k-18446744073709551616 ^ a.length*(ps (gI (pm m b v a)) (m.length+1) / ps (rv m) m.length),?_⟩
 have hd:=Int.emod_add_mul_ediv (ps (gI (pm m b v a)) (m.length+1)) (ps (rv m) m.length)
 have h3:18446744073709551616 ^ a.length*ps (gI (pm m b v a)) (m.length+1)=ps (rv a) a.length*ps (rv b) m.length+k*ps (rv m) m.length:=h3
 generalize ps (gI (pm m b v a)) (m.length+1)%ps (rv m) m.length=r at *
 generalize ps (gI (pm m b v a)) (m.length+1) / ps (rv m) m.length=d at *
 generalize ps (gI (pm m b v a)) (m.length+1)=y at *
 generalize (18446744073709551616:Int) ^ a.length=w at *
 rw [← hd] at h3
 grind
theorem adN {a c:Int} (ha:al a) (hc:c=0∨c=1):iE .u64 (de .u64 a 1) c=(2*a+c)%18446744073709551616:=by
 obtain ⟨n,rfl⟩:∃ n:Nat,a=n:=⟨a.toNat,by have:=ha.1;omega⟩
 obtain ⟨d,rfl⟩:∃ d:Nat,c=d:=⟨c.toNat,by omega⟩
 have h1:=GI n 1 (by decide)
 rw [show ((1:Nat):Int)=1 from rfl] at h1
 rw [h1,Nat.pow_one]
 obtain ⟨y,hy⟩:∃ y,n*2%18446744073709551616=2*y:=⟨n*2%18446744073709551616 / 2,by omega⟩
 rw [hy]
 unfold iE
 have hlt:2*y<18446744073709551616:=by rw [← hy];exact Nat.mod_lt _ (by decide)
 have e1:BitVec.ofInt IntKind.u64.bits ((2*y:Nat):Int)=BitVec.ofNat 64 (2*y):=BitVec.ofInt_natCast ..
 have e2:BitVec.ofInt IntKind.u64.bits (d:Int)=BitVec.ofNat 64 d:=BitVec.ofInt_natCast ..
 rw [e1,e2]
 have e3:(BitVec.ofNat 64 (2*y) |||BitVec.ofNat 64 d).toNat=2*y+d:=by
  have hd2:d<2 ^ 64:=Nat.lt_trans (show d<2 by omega) (by decide)
  rw [BitVec.toNat_or,BitVec.toNat_ofNat,BitVec.toNat_ofNat,Nat.mod_eq_of_lt (show 2*y<2 ^ 64 from hlt),Nat.mod_eq_of_lt hd2]
  have:=Nat.two_pow_add_eq_or_of_lt (i:=1) (b:=d) (by omega) y
  rw [Nat.pow_one] at this
  exact this.symm
 show IntKind.u64.wrap (((BitVec.ofNat 64 (2*y) |||BitVec.ofNat 64 d).toNat:Nat):Int)=_
 rw [e3,fU]
 omega
theorem Qd {a:LD} {c:Int} (ha:cE a) (hc:c=0∨c=1):∀ i,i≤a.length→((fh a c i).2=0∨(fh a c i).2=1)∧ps (gI (fh a c i).1) i+18446744073709551616 ^ i*(fh a c i).2=2*ps (rv a) i+c
 | 0,_=>⟨hc,by simp [fh,ps]⟩
 | i+1,h=>by
  have ⟨h1,ih⟩:=Qd ha hc i (by omega)
  have hw:=ha i
  have hl:=qv a c i
  rw [ps,ps,fh]
  dsimp only
  rw [iz (f:=gI ((fh a c i).1.set i _)) (g:=gI (fh a c i).1) fun j hj=>by rw [cr,if_neg (by omega)],cr,if_pos rfl,if_pos (by omega),adN hw h1]
  have e:aW .u64 (rv a i) 63=rv a i / 9223372036854775808:=by
   have:=HX (rv a i) 63 (by decide)
   exact this
  rw [e,Int.pow_succ]
  have hw1:=hw.1
  have hw2:=hw.2
  have hd:(2*rv a i+(fh a c i).2)%18446744073709551616+18446744073709551616*(rv a i / 9223372036854775808)=2*rv a i+(fh a c i).2:=by omega
  refine ⟨by omega,?_⟩
  generalize (2*rv a i+(fh a c i).2)%18446744073709551616=lo at *
  generalize rv a i / 9223372036854775808=hi at *
  generalize (18446744073709551616:Int) ^ i=w at *
  grind
theorem Mb {m a:LD} {c:Int} (ha:cE a) (hm:cE m) (hl:a.length=m.length) (hc:c=0∨c=1) (h:ps (rv a) m.length<ps (rv m) m.length):
  ps (rv (Am m a c)) m.length=(2*ps (rv a) m.length+c)%ps (rv m) m.length:=by
 have ⟨h1,h2⟩:=Qd ha hc a.length (Nat.le_refl _)
 unfold Am
 refine Lz (V:=2*ps (rv a) m.length+c) (fun j=>by rw [gQ];exact GU a c _ j) hm (by rw [bA,qv,hl]) ?_ (by omega) (by omega)
 rw [oU,← hl,← h2]
theorem KU {m:LD} (hm:aO m) (h0:0<m.length) (hM:1<ps (rv m) m.length):∀ i,ps (rv (pU m i)) m.length=2 ^ i%ps (rv m) m.length
 | 0=>by
  have e:pU m 0=((List.replicate m.length 0).set 0 1).map ae:=by rw [pU,List.map_set,List.map_replicate];rfl
  rw [e,oU,Int.pow_zero,Int.emod_eq_of_lt (by omega) hM]
  have:∀ n,0<n→n≤m.length→ps (gI ((List.replicate m.length 0).set 0 1)) n=1:=fun n hn hle=>by
   induction n with
   | zero=>omega
   | succ n ih=>
    by_cases hz:n=0
    ·subst hz
     show 0+1*gI _ 0=1
     rw [cr,if_pos rfl,if_pos (by rw [List.length_replicate];omega)];rfl
    ·rw [ps,ih (by omega) (by omega),cr,if_neg (by omega)]
     have:gI (List.replicate m.length 0) n=0:=by
      unfold gI
      rw [aw,List.getElem?_replicate]
      split <;>rfl
     rw [this,Int.mul_zero];rfl
  exact this _ h0 (Nat.le_refl _)
 | i+1=>by
  have h1:=BI hm h0 i
  have h2:=En m i
  have ih:=KU hm h0 hM i
  rw [pU,Mb h1.2 hm.2 h2 (.inl rfl) (by rw [ih];exact Int.emod_lt_of_pos _ (by omega)),ih,Int.add_zero,Int.pow_succ,Int.mul_comm (2 ^ i)]
  rw [Int.mul_emod,Int.emod_emod,← Int.mul_emod]
theorem XQ {x:Int} (hx:al x):dN .u64 x 1=x%2:=by
 obtain ⟨n,rfl⟩:∃ n:Nat,x=n:=⟨x.toNat,by have:=hx.1;omega⟩
 have hn:n<2 ^ 64:=by have:=hx.2;omega
 unfold dN
 have e1:BitVec.ofInt IntKind.u64.bits ((n:Nat):Int)=BitVec.ofNat 64 n:=BitVec.ofInt_natCast ..
 have e2:BitVec.ofInt IntKind.u64.bits 1=BitVec.ofNat 64 1:=BitVec.ofInt_natCast (w:=64) (n:=1)
 rw [e1,e2]
 have e3:(BitVec.ofNat 64 n &&&BitVec.ofNat 64 1).toNat=n%2:=by
  rw [BitVec.toNat_and,BitVec.toNat_ofNat,BitVec.toNat_ofNat,Nat.mod_eq_of_lt hn]
  exact Nat.and_one_is_mod n
 show IntKind.u64.wrap (((BitVec.ofNat 64 n &&&BitVec.ofNat 64 1).toNat:Nat):Int)=_
 rw [e3,fU]
 omega
theorem Iz9 {f:Nat→Int} (j:Nat):∀ n,j<n→∃ q:Int,ps f n=ps f j+18446744073709551616 ^ j*(f j+18446744073709551616*q)
 | n+1,h=>by
  by_cases e:j=n
  ·subst e
   exact ⟨0,by rw [ps,Int.mul_zero,Int.add_zero]⟩
  ·obtain ⟨q,hq⟩:=Iz9 j n (by omega)
   obtain ⟨d,rfl⟩:∃ d,n=j+1+d:=⟨n-(j+1),by omega⟩
   refine ⟨q+18446744073709551616 ^ d*f (j+1+d),?_⟩
   rw [ps,hq,Int.pow_add,Int.pow_succ]
   grind
theorem aeV {f:Nat→Int} {n:Nat} (hf:∀ i,al (f i)) {j s:Nat} (hj:j<n) (hs:s<64):(f j / 2 ^ s)%2=(ps f n / 2 ^ (64*j+s))%2:=by
 obtain ⟨q,hq⟩:=Iz9 (f:=f) j n hj
 have ⟨h1,h2⟩:=i7 (n:=j) (f:=f) fun i _=>hf i
 have hp:=rK j
 have e1:(2:Int) ^ (64*j+s)=18446744073709551616 ^ j*2 ^ s:=by rw [Int.pow_add,Int.pow_mul];rfl
 have e2:ps f n / 18446744073709551616 ^ j=f j+18446744073709551616*q:=by
  rw [hq,Int.add_mul_ediv_left _ _ (by omega),Int.ediv_eq_zero_of_lt h1 h2,Int.zero_add]
 rw [e1,← Int.ediv_ediv_of_nonneg (by omega),e2]
 obtain ⟨d,hd⟩:∃ d,64=s+1+d:=⟨63-s,by omega⟩
 have e3:(18446744073709551616:Int)=2 ^ s*(2*2 ^ d):=by
  rw [show (18446744073709551616:Int)=2 ^ 64 from rfl,hd,Int.pow_add,Int.pow_succ];grind
 have iu:(0:Int)<2 ^ s:=Int.pow_pos (by decide)
 rw [e3,show f j+2 ^ s*(2*2 ^ d)*q=f j+2 ^ s*(2*(2 ^ d*q)) from by grind,Int.add_mul_ediv_left _ _ (by omega)]
 omega
theorem Oa {a:LD} (ha:cE a):∀ n,ps (rv a) n<2 ^ (ck a n).toNat
 | 0=>by show (0:Int)<1;decide
 | n+1=>by
  have ih:=Oa ha n
  have ⟨h1,h2⟩:=i7 (n:=n) (f:=rv a) fun i _=>ha i
  rw [ps,ck]
  by_cases e:rv a n=0
  ·rw [if_pos e,e,Int.mul_zero,Int.add_zero];exact ih
  ·rw [if_neg e]
   have hw:=ha n
   have hb:=In hw
   have hl:rv a n<2 ^ (cK (rv a n)).toNat:=by
    obtain ⟨k,hk⟩:∃ k:Nat,rv a n=k:=⟨(rv a n).toNat,by have:=hw.1;omega⟩
    rw [hk]
    unfold cK
    rw [ax,ax]
    have:=(bitLen_spec k).1
    exact_mod_cast this
   have hp:=rK n
   have e1:(2:Int) ^ (64*(n:Int)+cK (rv a n)).toNat=18446744073709551616 ^ n*2 ^ (cK (rv a n)).toNat:=by
    rw [show (64*(n:Int)+cK (rv a n)).toNat=64*n+(cK (rv a n)).toNat from by omega,Int.pow_add,Int.pow_mul];rfl
   rw [e1]
   have:=Int.mul_le_mul_of_nonneg_left (show rv a n+1≤2 ^ (cK (rv a n)).toNat by omega) (show (0:Int)≤18446744073709551616 ^ n by omega)
   rw [Int.mul_add,Int.mul_one] at this
   omega
theorem Qs {a:LD} (ha:cE a) {t:Nat} (ht:t<64*a.length):dN .u64 (aW .u64 (rv a (t / 64)) ((t%64:Nat):Int)) 1=ps (rv a) a.length / 2 ^ t%2:=by
 have hw:=ha (t / 64)
 have hs:t%64<64:=Nat.mod_lt _ (by decide)
 rw [HX _ _ (by omega)]
 have hp:(0:Int)<2 ^ (t%64):=Int.pow_pos (by decide)
 have hr:al (rv a (t / 64) / 2 ^ (t%64)):=⟨Int.ediv_nonneg hw.1 (by omega),Int.lt_of_le_of_lt (Int.ediv_le_self _ hw.1) hw.2⟩
 rw [XQ hr,aeV (f:=rv a) (n:=a.length) ha (show t / 64<a.length by omega) hs]
 congr 2
 rw [Nat.div_add_mod]
theorem Rl (x:Int) (t:Nat):x / 2 ^ t=2*(x / 2 ^ (t+1))+x / 2 ^ t%2:=by
 have hp:(0:Int)<2 ^ t:=Int.pow_pos (by decide)
 rw [Int.pow_succ,← Int.ediv_ediv_of_nonneg (by omega)]
 omega
theorem Lu {m a:LD} (hm:aO m) (ha:aO a) (h0:0<m.length) (hM:1<ps (rv m) m.length) {k:Nat} (hk:k≤64*a.length) (hlt:ps (rv a) a.length<2 ^ k):∀ i,i≤k→
  aO (pi m a k i)∧(pi m a k i).length=m.length∧ps (rv (pi m a k i)) m.length=(ps (rv a) a.length / 2 ^ (k-i))%ps (rv m) m.length
 | 0,_=>by
  have h1:=(i7 (n:=a.length) (f:=rv a) fun i _=>ha.2 i).1
  have e:pi m a k 0=(List.replicate m.length 0).map ae:=by rw [pi,List.map_replicate];rfl
  have hw:=Ig m.length
  refine ⟨?_,by rw [pi,List.length_replicate],?_⟩
  ·rw [e]
   exact ⟨by rw [bA,hw.1];exact hm.1,fun j=>by rw [gQ];exact hw.2 j⟩
  ·rw [Nat.sub_zero,Int.ediv_eq_zero_of_lt h1 hlt,Int.zero_emod,e,oU]
   have:∀ n,ps (gI (List.replicate m.length 0)) n=0:=fun n=>by
    induction n with
    | zero=>rfl
    | succ n ih=>
     rw [ps,ih]
     have:gI (List.replicate m.length 0) n=0:=by
      unfold gI
      rw [aw,List.getElem?_replicate]
      split <;>rfl
     rw [this,Int.mul_zero];rfl
   exact this _
 | i+1,h=>by
  have ⟨h1,h2,h3⟩:=Lu hm ha h0 hM hk hlt i (by omega)
  have hb:=Qs ha.2 (t:=k-1-i) (by omega)
  have e1:k-i=k-1-i+1:=by omega
  have e2:k-(i+1)=k-1-i:=by omega
  have hbit:ps (rv a) a.length / 2 ^ (k-1-i)%2=0∨ps (rv a) a.length / 2 ^ (k-1-i)%2=1:=by omega
  rw [pi,hb]
  refine ⟨ID h1 hm _,Em h2 _,?_⟩
  rw [Mb h1.2 hm.2 h2 hbit (by rw [h3];exact Int.emod_lt_of_pos _ (by omega)),h3,e1,e2]
  have hh:=Rl (ps (rv a) a.length) (k-1-i)
  generalize ps (rv a) a.length / 2 ^ (k-1-i+1)=y at hh ⊢
  generalize ps (rv a) a.length / 2 ^ (k-1-i)=x at hh ⊢
  rw [hh]
  rw [← hh,Int.add_emod,Int.mul_emod,Int.emod_emod,← Int.mul_emod,← Int.add_emod,← hh]
theorem Ep {m a:LD} (hm:aO m) (ha:aO a) (h0:0<m.length) (hM:1<ps (rv m) m.length):aO (fa m a)∧(fa m a).length=m.length∧ps (rv (fa m a)) m.length=ps (rv a) a.length%ps (rv m) m.length:=by
 have hb:=B0 ha.2 a.length
 have h:=Lu hm ha h0 hM (k:=(ck a a.length).toNat) (by omega) (Oa ha.2 a.length) _ (Nat.le_refl _)
 rw [Nat.sub_self,Int.pow_zero,Int.ediv_one] at h
 unfold fa
 rw [ak]
 exact h
def rp (m x:LD) (X:Int):Prop:=aO x∧x.length=m.length∧(0≤ps (rv x) m.length∧ps (rv x) m.length<ps (rv m) m.length)∧ps (rv m) m.length∣ps (rv x) m.length-X*18446744073709551616 ^ m.length
structure mdl (m:LD) (v:Int):Prop where
 ok:aO m
 vw:al v
 inv:(rv m 0*v+1)%18446744073709551616=0
 len:2≤m.length
 one:1<ps (rv m) m.length
 cop:∀ n,Int.gcd (18446744073709551616 ^ n) (ps (rv m) m.length)=1
theorem kI {m b a:LD} {v:Int} (ha:cE a) (hb:cE b) (hm:aO m):aO (eD m b v a)∧(eD m b v a).length=m.length:=by
 have hT:wl (m.length+2) (pm m b v a):=yl (v:=v) ha hb hm.2 a.length
 have hk:=E6 (k:=m.length) hT (by omega)
 unfold eD
 refine ⟨LG ⟨by rw [bA,hk.1];exact hm.1,fun j=>by rw [gQ];exact hk.2 j⟩ hm _,HN (by rw [bA,hk.1]) _⟩
theorem Pi {m x y:LD} {v X Y:Int} (hd:mdl m v) (hx:rp m x X) (hy:rp m y Y):rp m (eD m y v x) (X*Y):=by
 obtain ⟨x1,x2,x3,p,hp⟩:=hx
 obtain ⟨y1,y2,y3,q,hq⟩:=hy
 have ⟨k1,k2⟩:=kI (v:=v) x1.2 y1.2 hd.ok
 have ⟨h1,k,h2⟩:=D2 (m:=m) (b:=y) (a:=x) (v:=v) ⟨x1,y1,hd.ok,hd.vw,y2,hd.len⟩ hd.inv (by have:=hd.one;omega) (by omega)
 refine ⟨k1,k2,h1,NT.int_cop (x:=18446744073709551616 ^ m.length) ?_ (hd.cop _)⟩
 rw [x2] at h2
 refine ⟨X*18446744073709551616 ^ m.length*q+p*ps (rv y) m.length+k,?_⟩
 generalize (18446744073709551616:Int) ^ m.length=w at *
 rw [Int.mul_sub,h2]
 have e1:ps (rv x) m.length=ps (rv m) m.length*p+X*w:=by omega
 have e2:ps (rv y) m.length=ps (rv m) m.length*q+Y*w:=by omega
 rw [e1,e2]
 grind
theorem Vu {m s a:LD} {v A:Int} (hd:mdl m v) (hs:aO s) (hsl:s.length=m.length) (hsv:ps (rv s) m.length=(18446744073709551616 ^ m.length*18446744073709551616 ^ m.length)%ps (rv m) m.length) (ha:aO a) (hal:a.length=m.length) (hav:ps (rv a) m.length=A):rp m (eD m s v a) A:=by
 have hone:=hd.one
 have ⟨k1,k2⟩:=kI (v:=v) ha.2 hs.2 hd.ok
 have ⟨h1,k,h2⟩:=D2 (m:=m) (b:=s) (a:=a) (v:=v) ⟨ha,hs,hd.ok,hd.vw,hsl,hd.len⟩ hd.inv (by omega) (by rw [hsv];exact Int.le_of_lt (Int.emod_lt_of_pos _ (by omega)))
 refine ⟨k1,k2,h1,NT.int_cop (x:=18446744073709551616 ^ m.length) ?_ (hd.cop _)⟩
 rw [hal,hav,hsv] at h2
 have he:=Int.emod_add_mul_ediv (18446744073709551616 ^ m.length*18446744073709551616 ^ m.length) (ps (rv m) m.length)
 generalize (18446744073709551616:Int) ^ m.length=w at *
 refine ⟨k-A*(w*w / ps (rv m) m.length),?_⟩
 generalize w*w / ps (rv m) m.length=d at *
 generalize w*w%ps (rv m) m.length=r at *
 rw [Int.mul_sub,h2]
 have:w*(A*w)=A*(r+ps (rv m) m.length*d):=by rw [he];grind
 rw [this]
 grind
theorem ab2 {m x o:LD} {v X:Int} (hd:mdl m v) (hx:rp m x X) (ho:aO o) (hol:o.length=m.length) (hov:ps (rv o) m.length=1):ps (rv (eD m o v x)) m.length=X%ps (rv m) m.length:=by
 obtain ⟨x1,x2,x3,p,hp⟩:=hx
 have hone:=hd.one
 have ⟨h1,k,h2⟩:=D2 (m:=m) (b:=o) (a:=x) (v:=v) ⟨x1,ho,hd.ok,hd.vw,hol,hd.len⟩ hd.inv (by omega) (by omega)
 have hdv:ps (rv m) m.length∣ps (rv (eD m o v x)) m.length-X:=by
  refine NT.int_cop (x:=18446744073709551616 ^ m.length) ?_ (hd.cop _)
  rw [x2,hov] at h2
  refine ⟨p+k,?_⟩
  generalize (18446744073709551616:Int) ^ m.length=w at *
  rw [Int.mul_sub,h2]
  have e1:ps (rv x) m.length=ps (rv m) m.length*p+X*w:=by omega
  rw [e1]
  grind
 have:=Int.emod_emod_of_dvd X (Int.dvd_refl (ps (rv m) m.length))
 have e:=Int.emod_eq_emod_iff_emod_sub_eq_zero.2 (Int.emod_eq_zero_of_dvd hdv)
 rw [← e,Int.emod_eq_of_lt h1.1 h1.2]
def jh (m:LD):LD:=((List.replicate m.length 0).set 0 1).map ae
def CV (e:LD) (t:Nat):Bool:=decide (dN .u64 (aW .u64 (rv e (t / 64)) ((t%64:Nat):Int)) 1=1)
def wF (m:LD) (v:Int) (one base e:LD) (k:Nat):Nat→LD
 | 0=>one
 | i+1=>bif CV e (k-1-i) then eD m base v (eD m (wF m v one base e k i) v (wF m v one base e k i)) else eD m (wF m v one base e k i) v (wF m v one base e k i)
def mv (m q a e:LD) (v:Int) (i:Nat):LD:=hid (wF m v (eD m q v (jh m)) (eD m q v (fa m a)) e (ck e e.length).toNat i)
def je (m q a e:LD) (v:Int):LD:=hid (eD m (jh m) v (mv m q a e v (ck e e.length).toNat))
def pC (a e m q:LD) (v:Int):Prop:=aO a∧aO e∧mdl m v∧aO q∧q.length=m.length
def ak0:Ct:= {ps:= [.ptr 0 0,aI,aI],bs:= [qM],pre:=fun | [.r a,.r e,.r m,.i v,.r q] =>pC a e m q v | _=>False,res:=fun | [.r a,.r e,.r m,.i v,.r q] => .ret aI [qM] [.r (je m q a e v),.r m,.i v,.r q] | _=>ag}
def agZ:List Dat→Ann
 | [.r a,.r e,.r m,.i v,.r q] =>⟨[(3,[la 64 [(0,.ptr 0 0),(1,aI),(2,aI),(7,aI)] [qM] (fun | [.r a',.r e',.r o,.r m',.i v',.r q'] =>a'=a∧e'=e∧o=jh m∧m'=m∧v'=v∧q'=q | _=>False) js])],
   [(5,[la 64 [(0,.ptr 0 0),(2,aI),(7,aI),(8,aI),(9,aI),(10,i64)] [qM] (fun | [.r e',.r o,.r bs,.r x,.i i,.r m',.i v',.r q'] =>e'=e∧o=jh m∧bs=eD m q v (fa m a)∧-1≤i∧i<ck e e.length∧x=mv m q a e v ((ck e e.length).toNat-(i+1).toNat)∧m'=m∧v'=v∧q'=q | _=>False) (fun | [_,_,_,_,.i i,_,_,_] =>(i+1).toNat | _=>0)])],[]⟩
 | _=> {cut:= [],loop:= []}
def N4:af:=aj Oj 144 (tc (ap Ms))
theorem ajf:da (base.with Oj) 144 (tc (ap Ms)):=yQ (ads.spec 144)
theorem afa:(base.with N4).Ok:=ac ads ajf
def TQ:af:=aj N4 246 (tc (ap NF))
theorem ajA:da (base.with N4) 246 (tc (ap NF)):=yQ (afa.spec 246)
theorem ado:(base.with TQ).Ok:=ac afa ajA
abbrev DW (a:LD):LD:=
 List.replicate (↑a.length:Int).toNat [.int 0]
abbrev NL (a:Int)(b c:LD):List Blk:=
 [.cells (332:TypeId) [.rd [.int .u64] b,.int .u64 a,.rd [.int .u64] c]]
abbrev vh (a:Int)(b c:LD):Prop:=
 gL (NL a b c)
 (cH (co [0] 1) [0] (NL a b c))
def ad7:Prop:=
 ∀ (a b c:LD) (d:Int) (e:LD),
 lM a→
 lM b→
 lM c→
 lM e→
 pC a b c e d→
 lM c→
 (0≤(↑c.length:Int)∧
 (↑c.length:Int)≤(↑c.length:Int)∧(↑(8:Nat):Int)*(↑c.length:Int)≤140737488355328∧(↑c.length:Int)≤9223372036854775807)∧
 (bR 0 (DW c)∧
 (0:Nat)<(DW c).length∧
 (a=a∧
 b=b∧
 (DW c).set 0
 (((DW c).getD 0 []).set 0 (.int 1))=
 jh c∧
 c=c∧d=d∧e=e)∧
 True)∧
 ∀ (f g h i:LD) (j:Int) (k:LD),
 lM f→
 lM g→
 lM h→
 lM i→
 lM k→
 f=a∧g=b∧h=jh c∧i=c∧j=d∧k=e→
 ((aO f∧aO i)∧vh j i k)∧
 (mS (fa i f) k i j∧
 vh j i k)∧
 (mS h k i j∧vh j i k)∧
 aO g∧
 iR (ck g g.length-(1:Int))∧
 ((g=b∧
 h=jh c∧
 eD i k j (fa i f)=
 eD c e d (fa c a)∧
 (-1:Int)≤ck g g.length-(1:Int)∧
 ck g g.length-(1:Int)<ck b b.length∧
 eD i k j h=
 mv c e a b d
 ((ck b b.length).toNat -
 (ck g g.length-(1:Int)+1).toNat)∧
 i=c∧j=d∧k=e)∧
 True)∧
 ∀ (m o p q:LD) (r:Int) (s:LD) (t:Int) (u:LD),
 lM m→
 lM o→
 lM p→
 lM q→
 lM s→
 lM u→
 m=b∧
 o=jh c∧
 p=eD c e d (fa c a)∧
 (-1:Int)≤r∧
 r<ck b b.length∧
 q=
 mv c e a b d
 ((ck b b.length).toNat-(r+1).toNat)∧
 s=c∧t=d∧u=e→
 bif decide (0≤r) then
 (mS q q s t∧vh t s u)∧
 (0≤r∧(0:Int)<(64:Int)∧r≤IntKind.i64.max)∧
 bR (r / 64) m∧
 (r / 64).toNat<m.length∧
 (0≤r∧(0:Int)<(64:Int))∧
 0≤r%(64:Int)∧
 bif
 decide
 (dN .u64
 (aW .u64
 ((m.getD (r / 64).toNat []).getD 0 (.int 0)).toInt
 (r%(64:Int)))
 1=
 (1:Int)) then
 (mS (eD s q t q) p s t∧
 vh t s u)∧
 iR (r-(1:Int))∧
 (m=b∧
 o=jh c∧
 p=
 eD c e d
 (fa c a)∧
 (-1:Int)≤r-(1:Int)∧
 r-(1:Int)<ck b b.length∧
 eD s p t
 (eD s q t q)=
 mv c e a b d
 ((ck b b.length).toNat -
 (r-(1:Int)+1).toNat)∧
 s=c∧t=d∧u=e)∧
 (r-(1:Int)+1).toNat<(r+1).toNat
 else
 iR (r-(1:Int))∧
 (m=b∧
 o=jh c∧
 p=
 eD c e d
 (fa c a)∧
 (-1:Int)≤r-(1:Int)∧
 r-(1:Int)<ck b b.length∧
 eD s q t q=
 mv c e a b d
 ((ck b b.length).toNat -
 (r-(1:Int)+1).toNat)∧
 s=c∧t=d∧u=e)∧
 (r-(1:Int)+1).toNat<(r+1).toNat
 else
 (mS q o s t∧vh t s u)∧
 eD s o t q=je c e a b d∧
 s=c∧t=d∧u=e
def UN:af:=aj TQ 236 (ap ak0)
theorem aaG {m:LD} :wl m.length ((List.replicate m.length 0).set 0 1):=rz (Ig m.length) 0 ⟨by decide,by decide⟩
theorem E7 {m:LD} (hm:aO m):aO (jh m)∧(jh m).length=m.length:=by
 have h:=aaG (m:=m)
 unfold jh
 exact ⟨⟨by rw [bA,h.1];exact hm.1,fun j=>by rw [gQ];exact h.2 j⟩,by rw [bA,h.1]⟩
theorem Je {m:LD} (h0:0<m.length):ps (rv (jh m)) m.length=1:=by
 unfold jh
 rw [oU]
 have:∀ n,0<n→n≤m.length→ps (gI ((List.replicate m.length 0).set 0 1)) n=1:=fun n hn hle=>by
  induction n with
  | zero=>omega
  | succ n ih=>
   by_cases hz:n=0
   ·subst hz
    show 0+1*gI _ 0=1
    rw [cr,if_pos rfl,if_pos (by rw [List.length_replicate];omega)];rfl
   ·rw [ps,ih (by omega) (by omega),cr,if_neg (by omega)]
    have:gI (List.replicate m.length 0) n=0:=by
     unfold gI
     rw [aw,List.getElem?_replicate]
     split <;>rfl
    rw [this,Int.mul_zero];rfl
 exact this _ h0 (Nat.le_refl _)
theorem Id {m one base e:LD} {v:Int} {k:Nat} (hm:aO m) (ho:aO one) (hol:one.length=m.length) (hb:aO base):∀ i,aO (wF m v one base e k i)∧(wF m v one base e k i).length=m.length
 | 0=>⟨ho,hol⟩
 | i+1=>by
  have ⟨h1,h2⟩:=Id (v:=v) (e:=e) (k:=k) hm ho hol hb i
  have ⟨k1,k2⟩:=kI (v:=v) h1.2 h1.2 hm
  rw [wF]
  cases CV e (k-1-i) with
  | true=>exact kI (v:=v) k1.2 hb.2 hm
  | false=>exact ⟨k1,k2⟩
theorem alp:ad7:=by
 delta ad7 lM iR bR DW NL vh
 intro a e m v q _ _ _ _ hp _
 obtain ⟨ha,he,hd,hq,hql⟩:=hp
 have hm:=hd.ok
 have lm:=hm.1
 have l2:=hd.len
 have ⟨o1,o2⟩:=E7 hm
 have ⟨r1,r2,_⟩:=Ep hm ha (by omega) hd.one
 have ⟨s1,s2⟩:=kI (v:=v) (m:=m) (b:=q) r1.2 hq.2 hm
 have ⟨t1,t2⟩:=kI (v:=v) (m:=m) (b:=q) o1.2 hq.2 hm
 have hb:=B0 he.2 e.length
 have le:=he.1
 have hx:∀ i,aO (mv m q a e v i)∧(mv m q a e v i).length=m.length:=fun i=>by
  unfold mv
  rw [ak]
  exact Id hm t1 t2 s1 i
 have n0:((m.length:Int)).toNat=m.length:=by omega
 have pr:∀ x y:LD,aO x→aO y→y.length=m.length→mS x y m v:=fun x y h1 h2 h3=>⟨h1,h2,hm,hd.vw,h3,l2⟩
 have h1r:(List.replicate m.length [CD.int 0]).set 0 (((List.replicate m.length [CD.int 0]).getD 0 []).set 0 (CD.int 1))=jh m:=by
  have e:List.replicate m.length [CD.int 0] =(List.replicate m.length 0).map ae:=by rw [List.map_replicate];rfl
  rw [e,rW];rfl
 rw [n0,List.length_replicate]
 refine ⟨by omega,⟨⟨by omega,by omega⟩,by omega,⟨rfl,rfl,h1r,rfl,rfl,rfl⟩,trivial⟩,?_⟩
 intro a2 e2 o2' m2 v2 q2 _ _ _ _ _ h
 obtain ⟨f1,f2,f3,f4,f5,f6⟩:=h
 rw [f1,f2,f3,f4,f5,f6]
 clear f1 f2 f3 f4 f5 f6
 refine ⟨⟨⟨ha,hm⟩,rfl,trivial⟩,⟨pr _ _ r1 hq hql,rfl,trivial⟩,⟨pr _ _ o1 hq hql,rfl,trivial⟩,he,by omega,⟨⟨rfl,rfl,rfl,by omega,by omega,?_,rfl,rfl,rfl⟩,trivial⟩,?_⟩
 ·rw [show (ck e e.length).toNat-(ck e e.length-1+1).toNat=0 from by omega]
  unfold mv
  rw [ak];rfl
 intro e3 o3 b3 x3 i m3 v3 q3 _ _ _ _ _ _ h
 obtain ⟨f1,f2,f3,i0,i1,f4,f5,f6,f7⟩:=h
 rw [f1,f2,f3,f4,f5,f6,f7]
 clear f1 f2 f3 f4 f5 f6 f7
 obtain ⟨j,hj⟩:∃ j,j=(ck e e.length).toNat-(i+1).toNat:=⟨_,rfl⟩
 rw [← hj]
 have ⟨x1,x2⟩:=hx j
 have ⟨y1,y2⟩:=kI (v:=v) x1.2 x1.2 hm
 refine aa (fun hi=> ?_) (fun hi=> ?_)
 ·have hi:=av hi
  have hmx:IntKind.i64.max=9223372036854775807:=by decide
  have ht:(ck e e.length).toNat-1-j=i.toNat:=by omega
  have q1:(i / 64).toNat=i.toNat / 64:=by omega
  have q2:i%64=((i.toNat%64:Nat):Int):=by omega
  have ej:(ck e e.length).toNat-(i-1+1).toNat=j+1:=by omega
  have ex:mv m q a e v (j+1)=bif CV e i.toNat then eD m (eD m q v (fa m a)) v (eD m (mv m q a e v j) v (mv m q a e v j)) else eD m (mv m q a e v j) v (mv m q a e v j):=by
   unfold mv
   rw [ak,ak,wF,ht]
  rw [hmx,ej,ex,q1,dh]
  refine ⟨⟨pr _ _ x1 x1 x2,rfl,trivial⟩,⟨by omega,by decide,by omega⟩,⟨by omega,by omega⟩,by omega,⟨by omega,by decide⟩,by omega,aa (fun hc=> ?_) (fun hc=> ?_)⟩
  ·have hc:CV e i.toNat=true:=by unfold CV;rw [← q2];exact hc
   rw [hc]
   exact ⟨⟨pr _ _ y1 s1 s2,rfl,trivial⟩,by omega,⟨rfl,rfl,rfl,by omega,by omega,rfl,rfl,rfl,rfl⟩,by omega⟩
  ·have hc:CV e i.toNat=false:=by unfold CV;rw [← q2];exact hc
   rw [hc]
   exact ⟨by omega,⟨rfl,rfl,rfl,by omega,by omega,rfl,rfl,rfl,rfl⟩,by omega⟩
 ·have hi:=au hi
  have hjn:j=(ck e e.length).toNat:=by omega
  refine ⟨⟨pr _ _ x1 o1 o2,rfl,trivial⟩,?_,rfl,rfl,rfl⟩
  unfold je
  rw [ak,hjn]
theorem agJ:(base.with UN).Ok:=ac ado (ai agZ ado Tryz.func236 (by kernel_rfl) Tryz.call236 (by kernel_rfl) alp)
theorem aal {e:LD} (he:cE e) {E:Nat} (hE:ps (rv e) e.length=E) {t:Nat} (ht:t<64*e.length):CV e t=decide (E / 2 ^ t%2=1):=by
 have h:=Qs he ht
 unfold CV
 rw [h,hE]
 have:((E:Int) / 2 ^ t%2)=((E / 2 ^ t%2:Nat):Int):=by simp
 rw [this]
 by_cases hc:E / 2 ^ t%2=1
 ·rw [decide_eq_true hc,decide_eq_true (by omega)]
 ·rw [decide_eq_false hc,decide_eq_false (by omega)]
theorem Lh {m one base e:LD} {v A:Int} {E k:Nat} (hd:mdl m v) (ho:rp m one 1) (hb:rp m base A) (he:cE e) (hE:ps (rv e) e.length=E) (hk:k≤64*e.length) (hlt:E<2 ^ k):∀ i,i≤k→rp m (wF m v one base e k i) (A ^ (E / 2 ^ (k-i)))
 | 0,_=>by
  rw [Nat.sub_zero,Nat.div_eq_of_lt hlt,Int.pow_zero];exact ho
 | i+1,h=>by
  have ih:=Lh hd ho hb he hE hk hlt i (by omega)
  have h2:=Pi hd ih ih
  have e1:k-i=k-1-i+1:=by omega
  have e2:k-(i+1)=k-1-i:=by omega
  have hbit:=aal he hE (t:=k-1-i) (by omega)
  have hh:E / 2 ^ (k-1-i)=2*(E / 2 ^ (k-1-i+1))+E / 2 ^ (k-1-i)%2:=by
   rw [Nat.pow_succ,← Nat.div_div_eq_div_mul];omega
  rw [e1] at h2
  rw [wF,hbit,e2]
  generalize E / 2 ^ (k-1-i+1)=y at *
  generalize E / 2 ^ (k-1-i)=x at *
  have e3:A ^ y*A ^ y=A ^ (2*y):=by rw [← Int.pow_add];congr 1;omega
  rw [e3] at h2
  by_cases hc:x%2=1
  ·rw [decide_eq_true hc]
   have h3:=Pi hd h2 hb
   rwa [show A ^ (2*y)*A=A ^ x from by rw [← Int.pow_succ];congr 1;omega] at h3
  ·rw [decide_eq_false hc]
   rwa [show 2*y=x from by omega] at h2
theorem XI {m q a e:LD} {v A:Int} {E:Nat} (hd:mdl m v) (hq:aO q) (hql:q.length=m.length) (hqv:ps (rv q) m.length=(18446744073709551616 ^ m.length*18446744073709551616 ^ m.length)%ps (rv m) m.length)
  (ha:aO a) (hA:ps (rv a) a.length%ps (rv m) m.length=A) (he:aO e) (hE:ps (rv e) e.length=E):
  aO (je m q a e v)∧(je m q a e v).length=m.length∧ps (rv (je m q a e v)) m.length=A ^ E%ps (rv m) m.length:=by
 have hm:=hd.ok
 have l2:=hd.len
 have ⟨o1,o2⟩:=E7 hm
 have ⟨r1,r2,r3⟩:=Ep hm ha (by omega) hd.one
 rw [hA] at r3
 have hone:=Vu hd hq hql hqv o1 o2 (Je (by omega))
 have hbase:=Vu hd hq hql hqv r1 r2 r3
 have hb:=B0 he.2 e.length
 have hlt:E<2 ^ (ck e e.length).toNat:=by
  have:=Oa he.2 e.length
  rw [hE] at this
  exact_mod_cast this
 have h:=Lh hd hone hbase he.2 hE (k:=(ck e e.length).toNat) (by omega) hlt _ (Nat.le_refl _)
 rw [Nat.sub_self,Nat.pow_zero,Nat.div_one] at h
 have hx:mv m q a e v (ck e e.length).toNat=wF m v (eD m q v (jh m)) (eD m q v (fa m a)) e (ck e e.length).toNat (ck e e.length).toNat:=by unfold mv;rw [ak]
 have hr:je m q a e v=eD m (jh m) v (mv m q a e v (ck e e.length).toNat):=by unfold je;rw [ak]
 rw [hr,hx]
 have ⟨k1,k2⟩:=kI (v:=v) (m:=m) (b:=jh m) h.1.2 o1.2 hm
 exact ⟨k1,k2,ab2 hd h o1 o2 (Je (by omega))⟩
abbrev a12:Pat:= .arrI 12 .u64
abbrev wI:Pat:= .agg [a12]
abbrev q12:BPat:= .cells 324 [a12]
abbrev C8:BPat:= .cells 376 [.ptr 1 0]
def Sr:List Int:= [18446744073709551615,17603518614768072224,16466767132611215046,5755940542857986629,3470879405153129527,17263733006627652379,5857503583518590173,147421033984662306,2955010104097229940,14179128828124470481,14488038916154245684,18446744073709551615]
def bY:LD:=Sr.map ae
def uK:Nat→List Int×Int
 | 0=>(Sr,0)
 | k+1=>((uK k).1.set (11-k) (iE .u64 (aW .u64 (gI (uK k).1 (11-k)) 1) (de .u64 (uK k).2 63)),dN .u64 (gI (uK k).1 (11-k)) 1)
def abQ:List Int:= [9223372036854775807,8801759307384036112,17456755603160383331,12101342308283769122,10958811739431340571,17855238540168601997,2928751791759295086,73710516992331153,10700877088903390778,7089564414062235240,16467391494931898650,9223372036854775807]
def lY:LD:=abQ.map ae
def PK:List Int:=List.replicate 12 0
def At:List Int:= [1,0,0,0,0,0,0,0,0,0,0,0]
def eQ (l:LD):List Int:=l.map fun r=>(r.getD 0 (CD.int 0)).toInt
def akI:Ct:= {ps:= [],bs:= [],pre:=fun _=>True,res:=fun _=> .ret wI [] [.li Sr]}
def ajM:Ct:= {ps:= [wI],bs:= [],pre:=fun | [.li l] =>xj (l.map ae) | _=>False,res:=fun | [.li l] => .ret (.ptr 0 0) [C8,qM] [.r (l.map ae),.i (uc (rv (l.map ae) 0)),.r (ff (l.map ae))] | _=>ag}
def aiv:Ct:= {ps:= [],bs:= [],pre:=fun _=>True,res:=fun _=> .ret (.ptr 0 0) [C8,qM] [.r bY,.i 1,.r (ff bY)]}
def ahC:Ct:= {ps:= [],bs:= [],pre:=fun _=>True,res:=fun _=> .ret (.ptr 0 0) [C8,qM] [.r lY,.i (uc 9223372036854775807),.r (ff lY)]}
def ZT:List Dat→Ann:=fun _=> {cut:= [],loop:= [(3,[la 24 [(1,.ptr 0 0),(2,u64),(3,i64)] [q12] (fun | [.i c,.i i,.li l] => -1≤i∧i≤11∧l=(uK (11-i).toNat).1∧c=(uK (11-i).toNat).2 | _=>False) (fun | [_,.i i,_] =>(i+1).toNat | _=>0)])]}
def amM:Ct:= {ps:= [.ptr 0 0],bs:= [qM],pre:=fun | [.r m,.i _,.r _] =>m.length≤1000 | _=>False,res:=fun | [.r m,.i v,.r q] => .ret (.own 1) [qM,ow] [.r m,.i v,.r q,.r m] | _=>ag}
def alW:Ct:= {ps:= [.ptr 0 0],bs:= [C8,qM],pre:=fun | [.r m,.i _,.r _] =>m.length=12 | _=>False,res:=fun | [.r m,.i v,.r q] => .ret wI [C8,qM] [.li (eQ m),.r m,.i v,.r q] | _=>ag}
def amH:Ct:= {ps:= [],bs:= [],pre:=fun _=>True,res:=fun _=> .ret wI [] [.li At]}
def lk (m b:LD):Int:=if (b.length:Int)≠96 then 1 else if gp ((ba b b.length).map ae) m (cZ ((ba b b.length).map ae) m)<0 then 0 else 4
def mG (m b:LD):List Int:=if lk m b=0 then ba b b.length else PK
def alu:Ct:= {ps:= [.ptr 0 0,rb],bs:= [C8,qM],pre:=fun | [.r b,.r m,.i _,.r _] =>ar b∧b.length≤1000∧m.length=12 | _=>False,res:=fun | [.r b,.r m,.i v,.r q] => .ret (.tup [wI,i64]) [C8,qM] [.li (mG m b),.i (lk m b),.r m,.i v,.r q] | _=>ag}
def amL:Ct:= {ps:= [.fb 236 [.ptr 0 0],wI,wI],bs:= [qM],pre:=fun | [.li a,.li e,.r m,.i v,.r q] =>pC (a.map ae) (e.map ae) m q v∧m.length=12 | _=>False,res:=fun | [.li a,.li e,.r m,.i v,.r q] => .ret wI [qM] [.li (eQ (je m q (a.map ae) (e.map ae) v)),.r m,.i v,.r q] | _=>ag}
def ali:Ct:= {ps:= [.ptr 0 0,wI,wI],bs:= [C8,qM],pre:=fun | [.li a,.li e,.r m,.i v,.r q] =>pC (a.map ae) (e.map ae) m q v∧m.length=12 | _=>False,res:=fun | [.li a,.li e,.r m,.i v,.r q] => .ret wI [C8,qM] [.li (eQ (je m q (a.map ae) (e.map ae) v)),.r m,.i v,.r q] | _=>ag}
def gE (b:LD):List Int:=if ic b=0 then ba b b.length else PK
def ajh:Ct:= {ps:= [rb],bs:= [],pre:=fun | [.r b] =>ar b∧b.length≤1000 | _=>False,res:=fun | [.r b] => .ret (.tup [wI,i64]) [] [.li (gE b),.i (ic b)] | _=>ag}
abbrev zC:List Int:=
 [18446744073709551615,17603518614768072224,16466767132611215046,5755940542857986629,3470879405153129527,17263733006627652379,
 (5857503583518590173:Int),147421033984662306,2955010104097229940,14179128828124470481,14488038916154245684,18446744073709551615]
def afT:Prop:=
 True→zC=zC
def Tz:af:=aj UN 232 (ap akI)
abbrev CO:Prop:=
 (0:Int)≤0∧0≤(↑(12:Nat):Int)∧(↑(12:Nat):Int)≤(↑(12:Nat):Int)∧(0:Int)<(↑(12:Nat):Int)
abbrev jU (a:List Int):LD:=
 List.map (fun b=> [.int b]) (List.take 12 (List.drop 0 a))
def agz:Prop:=
 ∀ (a:List Int),
 a.length=12→
 xj (List.map ae a)→
 CO∧
 xj (jU a)∧
 jU a=List.map ae a∧
 uc (rv (jU a) 0)=
 uc (rv (List.map ae a) 0)∧
 ff (jU a)=
 ff (List.map ae a)
def T7:af:=aj Tz 231 (ap ajM)
abbrev iv:LD:=
 [[.int 18446744073709551615],[.int 17603518614768072224],[.int 16466767132611215046],
 [.int 5755940542857986629],[.int 3470879405153129527],[.int 17263733006627652379],
 [.int 5857503583518590173],[.int 147421033984662306],[.int 2955010104097229940],
 [.int 14179128828124470481],[.int 14488038916154245684],[.int 18446744073709551615]]
def ag0:Prop:=
 True→
 True∧
 xj iv∧
 iv=iv∧
 uc (rv iv 0)=1∧
 ff iv=ff iv
def UQ:af:=aj T7 203 (ap aiv)
abbrev zk:List CD:=
 [.int 9223372036854775807]
abbrev Mt:LD:=
 [zk,[.int 8801759307384036112],[.int 17456755603160383331],[.int 12101342308283769122],
 [.int 10958811739431340571],[.int 17855238540168601997],[.int 2928751791759295086],
 [.int 73710516992331153],[.int 10700877088903390778],[.int 7089564414062235240],
 [.int 16467391494931898650],zk]
def abb:Prop:=
 True→
 True∧
 (((-1:Int)≤11∧
 (11:Int)≤11∧
 zC=zC∧0=(uK 0).snd)∧
 True)∧
 ∀ (a b:Int) (c:List Int),
 c.length=12→
 (-1:Int)≤b∧
 b≤11∧c=(uK ((11:Int)-b).toNat).fst∧a=(uK ((11:Int)-b).toNat).snd→
 bif decide (0≤b) then
 (0≤b∧b<(↑(12:Nat):Int))∧
 b.toNat*1<(12:Nat)∧
 (0:Int)≤1∧
 (0:Int)≤63∧
 (0≤b∧b<(↑(12:Nat):Int))∧
 b.toNat*1<(12:Nat)∧
 (0≤b∧b<(↑(12:Nat):Int))∧
 b.toNat*1<(12:Nat)∧
 iR (b-(1:Int))∧
 ((-1:Int)≤b-(1:Int)∧
 b-(1:Int)≤11∧
 c.set (b.toNat*1)
 (iE .u64 (aW .u64 (c.getD (b.toNat*1) 0) 1)
 (de .u64 a 63))=
 (uK ((11:Int)-(b-(1:Int))).toNat).fst∧
 dN .u64 (c.getD (b.toNat*1) 0) 1=
 (uK ((11:Int)-(b-(1:Int))).toNat).snd)∧
 (b-(1:Int)+1).toNat<(b+1).toNat
 else
 xj (List.map ae c)∧
 List.map ae c=Mt∧
 uc (rv (List.map ae c) 0)=
 uc 9223372036854775807∧
 ff (List.map ae c)=
 ff Mt
def TO:af:=aj UQ 206 (ap ahC)
abbrev kZ (a:LD):Prop:=
 a.length≤1000
def ag7:Prop:=
 ∀ (a:LD) (b:Int) (c:LD),
 lM a→
 lM c→kZ a→kZ a∧a=a∧b=b∧c=c∧a=a
def Ty:af:=aj TO 234 (ap amM)
def agF:Prop:=
 ∀ (a:LD) (b:Int) (c:LD),
 a.length=12→
 kZ a∧
 12≤a.length∧
 12≤a.length∧
 List.map (fun d=>(d.getD 0 (.int 0)).toInt) (List.take 12 (List.drop 0 a))=eQ a∧
 a=a∧b=b∧c=c
def SH:af:=aj Ty 207 (ap alW)
abbrev CF:List Int:=
 [1,0,0,0,0,0,0,0,0,0,0,0]
def adh:Prop:=
 True→CF=CF
def Uq:af:=aj SH 208 (ap amH)
abbrev zR:List Int:=
 [0,0,0,0,0,0,0,0,0,0,0,0]
abbrev vX (a:LD):LD:=
 List.map ae (ba a a.length)
def agp:Prop:=
 ∀ (a b:LD) (c:Int) (d:LD),
 lM a→
 ar a∧kZ a∧b.length=12→
 lM a→
 bif decide (↑a.length≠(96:Int)) then
 zR=mG b a∧1=lk b a∧b=b∧c=c∧d=d
 else
 (kZ a∧ar a)∧
 kZ b∧
 ((vX a).length≤1000∧kZ b)∧
 bif
 decide
 ((0:Int)≤
 gp (vX a) b
 (cZ (vX a) b)) then
 zR=mG b a∧
 4=lk b a∧b=b∧c=c∧d=d
 else
 12≤(vX a).length∧
 12≤(vX a).length∧
 List.map (fun e=>(e.getD 0 (.int 0)).toInt)
 (List.take 12 (List.drop 0 (vX a)))=
 mG b a∧
 0=lk b a∧b=b∧c=c∧d=d
def SP:af:=aj Uq 204 (ap alu)
abbrev xV (a:Int)(b c:LD)(d e:List Int):Prop:=
 pC (List.map ae d) (List.map ae e) b c a∧b.length=12
def aeU:Prop:=
 ∀ (a b:List Int) (c:LD) (d:Int) (e:LD),
 a.length=12→
 b.length=12→
 lM c→
 lM e→
 xV d c e a b→
 CO∧
 CO∧
 pC (jU a) (jU b) c e d∧
 12≤(je c e (jU a) (jU b) d).length∧
 12≤
 (je c e (jU a) (jU b) d).length∧
 List.map (fun f=>(f.getD 0 (.int 0)).toInt)
 (List.take 12
 (List.drop 0
 (je c e (jU a) (jU b) d)))=
 eQ
 (je c e (List.map ae a) (List.map ae b)
 d)∧
 c=c∧d=d∧e=e
def Wy:af:=aj SP 235 (ap amL)
def Z0:Prop:=
 ∀ (a b:List Int) (c:LD) (d:Int) (e:LD),
 a.length=12→
 b.length=12→
 xV d c e a b→
 xV d c e a b∧
 eQ
 (je c e (List.map ae a) (List.map ae b) d)=
 eQ
 (je c e (List.map ae a) (List.map ae b) d)∧
 c=c∧d=d∧e=e
def Ur:af:=aj Wy 205 (ap ali)
abbrev JG:LD:=
 [[CD.int ((fun r=>(r.getD 0 (CD.int 0)).toInt) zk)],
 [CD.int ((fun r=>(r.getD 0 (CD.int 0)).toInt) [CD.int 8801759307384036112])],
 [CD.int ((fun r=>(r.getD 0 (CD.int 0)).toInt) [CD.int 17456755603160383331])],
 [CD.int ((fun r=>(r.getD 0 (CD.int 0)).toInt) [CD.int 12101342308283769122])],
 [CD.int ((fun r=>(r.getD 0 (CD.int 0)).toInt) [CD.int 10958811739431340571])],
 [CD.int ((fun r=>(r.getD 0 (CD.int 0)).toInt) [CD.int 17855238540168601997])],
 [CD.int ((fun r=>(r.getD 0 (CD.int 0)).toInt) [CD.int 2928751791759295086])],
 [CD.int ((fun r=>(r.getD 0 (CD.int 0)).toInt) [CD.int 73710516992331153])],
 [CD.int ((fun r=>(r.getD 0 (CD.int 0)).toInt) [CD.int 10700877088903390778])],
 [CD.int ((fun r=>(r.getD 0 (CD.int 0)).toInt) [CD.int 7089564414062235240])],
 [CD.int ((fun r=>(r.getD 0 (CD.int 0)).toInt) [CD.int 16467391494931898650])],
 [CD.int ((fun r=>(r.getD 0 (CD.int 0)).toInt) zk)]]
def adP:Prop:=
 ∀ (a:LD),
 lM a→
 ar a∧kZ a→
 True∧
 (ar a∧kZ a∧12=12)∧
 bif decide (lk iv a≠0) then
 zR=gE a∧
 lk iv a=ic a
 else
 True∧
 12=12∧
 (pC
 (List.map ae (mG iv a))
 JG iv
 (ff iv) 1∧
 12=12)∧
 True∧
 bif
 !decide
 (eQ
 (je iv
 (ff iv)
 (List.map ae (mG iv a))
 JG 1)=
 CF) then
 zR=gE a∧4=ic a
 else
 mG iv a=gE a∧
 0=ic a
def Uv:af:=aj Ur 179 (ap ajh)
theorem Lx {l:LD} (hb:ar l):∀ n,n≤l.length→∀ j,j<(l.length+7) / 8→(ba l n).getD j 0=wd (fun k=>rv l (8*j+k)) (min 8 (n-8*j))
 | 0,_,j,hj=>by
  rw [ba,show min 8 (0-8*j)=0 from by omega,wd,aw,List.getElem?_replicate]
  split <;>rfl
 | n+1,hn,j,hj=>by
  have ih:=Lx hb n (by omega)
  rw [ba,dZ _ _ _ _ (by rw [fy];omega)]
  by_cases e:n / 8=j
  ·subst e
   have hv:=zZ (f:=fun k=>rv l (8*(n / 8)+k)) (fun k=>hb _) (n%8)
   have hbn:=hb n
   rw [if_pos rfl,ih _ hj,show min 8 (n-8*(n / 8))=n%8 from by omega,show min 8 (n+1-8*(n / 8))=n%8+1 from by omega,df ⟨hbn.1,by omega⟩,Ja (by omega) hv hbn,wd,show 8*(n / 8)+n%8=n from by omega]
  ·rw [if_neg e,ih j hj]
   congr 1
   omega
theorem OZ {t:List Int} {k:Nat} {x:Int} (hk:k<t.length):∀ n,k<n→ps (gI (t.set k x)) n=ps (gI t) n+18446744073709551616 ^ k*(x-gI t k)
 | n+1,h=>by
  rw [ps,ps,cr]
  by_cases e:k=n
  ·subst e
   rw [if_pos rfl,if_pos hk,iz (f:=gI (t.set k x)) (g:=gI t) fun i hi=>by rw [cr,if_neg (by omega)]]
   grind
  ·rw [if_neg e,OZ hk n (by omega)]
   grind
theorem P7 {l:LD} (hb:ar l):∀ n,n≤l.length→ps (gI (ba l n)) ((l.length+7) / 8)=wd (rv l) n
 | 0,_=>by
  rw [ba]
  have:∀ n,ps (gI (List.replicate ((l.length+7) / 8) 0)) n=0:=fun n=>by
   induction n with
   | zero=>rfl
   | succ n ih=>
    rw [ps,ih]
    have:gI (List.replicate ((l.length+7) / 8) 0) n=0:=by
     unfold gI
     rw [aw,List.getElem?_replicate]
     split <;>rfl
    rw [this,Int.mul_zero];rfl
  exact this _
 | n+1,h=>by
  have ih:=P7 hb n (by omega)
  have hg:=Lx hb n (by omega) (n / 8) (by omega)
  have hv:=zZ (f:=fun k=>rv l (8*(n / 8)+k)) (fun k=>hb _) (n%8)
  have hbn:=hb n
  rw [ba,OZ (by rw [fy];omega) _ (by omega),ih,wd]
  rw [hg,show min 8 (n-8*(n / 8))=n%8 from by omega,df ⟨hbn.1,by omega⟩,Ja (by omega) hv hbn]
  show _+18446744073709551616 ^ (n / 8)*(_-(ba l n).getD (n / 8) 0)=_
  rw [hg,show min 8 (n-8*(n / 8))=n%8 from by omega]
  have e:(256:Int) ^ n=18446744073709551616 ^ (n / 8)*256 ^ (n%8):=by
   have h1:(18446744073709551616:Int) ^ (n / 8)=256 ^ (8*(n / 8)):=by rw [Int.pow_mul];rfl
   rw [h1,← Int.pow_add,Nat.div_add_mod]
  rw [e]
  grind
theorem KV (f:Nat→Int):∀ n,wd f (n+1)=f 0+256*wd (fun k=>f (k+1)) n
 | 0=>by show 0+f 0*256 ^ 0=f 0+256*0;simp
 | n+1=>by
  rw [wd,KV f n,wd,Int.pow_succ]
  grind
theorem Wq:∀ {l:LD},ar l→(bv l:Int)=wd (rv l) l.length
 | [],_=>rfl
 | r::l,h=>by
  have hl:ar l:=fun i=>h (i+1)
  have ih:=Wq hl
  rw [List.length_cons,KV]
  have e1:(fun k=>rv (r::l) (k+1))=rv l:=rfl
  have e2:bv (r::l)=(rv (r::l) 0).toNat+256*bv l:=rfl
  rw [e1,← ih,e2]
  have:=(h 0).1
  omega
theorem Gv {l:LD} (hb:ar l):ps (rv ((ba l l.length).map ae)) ((l.length+7) / 8)=bv l:=by
 rw [oU,P7 hb _ (Nat.le_refl _),Wq hb]
theorem Qr {f g:Nat→Int} :∀ {n},(∀ i,i<n→al (f i))→(∀ i,i<n→al (g i))→ps f n=ps g n→∀ i,i<n→f i=g i
 | n+1,hf,hg,h,i,hi=>by
  have ⟨f1,f2⟩:=i7 (n:=n) (f:=f) fun i hi=>hf i (by omega)
  have ⟨g1,g2⟩:=i7 (n:=n) (f:=g) fun i hi=>hg i (by omega)
  have hp:=rK n
  rw [ps,ps] at h
  have hn:f n=g n:=by
   have e:18446744073709551616 ^ n*(f n-g n)=ps g n-ps f n:=by rw [Int.mul_sub];omega
   rcases Int.lt_trichotomy (f n-g n) 0 with k | k | k
   ·have:=Int.mul_le_mul_of_nonneg_left (show f n-g n≤-1 by omega) (show (0:Int)≤18446744073709551616 ^ n by omega)
    omega
   ·omega
   ·have:=Int.mul_le_mul_of_nonneg_left (show 1≤f n-g n by omega) (show (0:Int)≤18446744073709551616 ^ n by omega)
    omega
  by_cases e:i=n
  ·rw [e];exact hn
  ·exact Qr (n:=n) (fun i hi=>hf i (by omega)) (fun i hi=>hg i (by omega)) (by rw [hn] at h;omega) i (by omega)
theorem gq:bY.length=12:=by decide
theorem rh:ps (rv bY) 12=(bG:Int):=by decide+kernel
theorem Ru:ps (rv lY) 12=((bG / 2:Nat):Int):=by decide+kernel
theorem PL {L:List Int} (hl:L.length=12) (h:∀ x∈L,0≤x∧x<18446744073709551616):aO (L.map ae):=⟨by rw [bA];omega,fun i=>by
 rw [gQ]
 unfold gI
 rw [aw]
 cases e:L[i]? with
 | none=>exact ⟨by decide,by decide⟩
 | some x=>exact h x (List.mem_of_getElem? e)⟩
theorem tR:aO bY:=PL (by decide) (by decide+kernel)
theorem Fa:aO lY:=PL (by decide) (by decide+kernel)
theorem M6:mdl bY 1 where
 ok:=tR
 vw:=⟨by decide,by decide⟩
 inv:=by decide+kernel
 len:=by decide
 one:=by rw [gq,rh];decide+kernel
 cop:=fun n=>by
  rw [gq,rh]
  show Nat.gcd (Int.natAbs (18446744073709551616 ^ n)) bG=1
  rw [Int.natAbs_pow]
  exact Nat.Coprime.pow_left n (by decide+kernel:Nat.gcd 18446744073709551616 bG=1)
theorem Xs:(2:Int) ^ (128*12)=18446744073709551616 ^ 12*18446744073709551616 ^ 12:=by decide+kernel
theorem HD:aO (ff bY)∧(ff bY).length=12∧ps (rv (ff bY)) 12=(18446744073709551616 ^ 12*18446744073709551616 ^ 12)%ps (rv bY) 12:=by
 have h0:0<bY.length:=by rw [gq];decide
 have h1:=M6.one
 have hv:=KU tR h0 h1 (128*bY.length)
 unfold ff
 rw [ak]
 refine ⟨BI tR h0 _,(En _ _).trans gq,?_⟩
 rw [gq] at hv ⊢
 rw [hv]
 exact congrArg (· % ps (rv bY) 12) Xs
theorem Su {L:List Int} (h:aO (L.map ae)):pC (L.map ae) lY bY (ff bY) 1:=⟨h,Fa,M6,HD.1,by rw [HD.2.1,gq]⟩
theorem RR {b:LD} (hb:ar b) (hl:b.length=96) (hlt:bv b<bG):
  eQ (je bY (ff bY) ((ba b b.length).map ae) lY 1)=At↔bv b ^ (bG / 2)%bG=1:=by
 have hw:aO ((ba b b.length).map ae):=xX (by omega) hb
 have hA:=Gv hb
 rw [hl] at hA
 have hlen:((ba b 96).map ae).length=12:=by rw [bA,fy,hl]
 have ⟨s1,s2,s3⟩:=HD
 have ⟨k1,k2,k3⟩:=XI (m:=bY) (q:=ff bY) (a:=(ba b b.length).map ae) (e:=lY) (v:=1) (A:=(bv b:Int)) (E:=bG / 2) M6 s1 (by rw [s2,gq]) (by rw [gq];exact s3) hw
  (by
   rw [hl,hlen,gq,rh]
   rw [show ((96+7) / 8:Nat)=12 from rfl] at hA
   rw [hA]
   exact Int.emod_eq_of_lt (by omega) (by omega)) Fa (by rw [show lY.length=12 from by decide];exact Ru)
 rw [gq] at k2 k3
 rw [rh] at k3
 generalize je bY (ff bY) ((ba b b.length).map ae) lY 1=x at *
 have e1:ps (rv x) 12=((bv b ^ (bG / 2)%bG:Nat):Int):=by rw [k3];simp
 have hg:∀ i,gI (eQ x) i=rv x i:=fun i=>by
  unfold gI eQ rv
  rw [aw (l:=x.map _),eW,aw (l:=x)]
  cases x[i]? <;>rfl
 have hlx:(eQ x).length=12:=by unfold eQ;rw [bA,k2]
 have e2:ps (gI (eQ x)) 12=ps (rv x) 12:=iz fun i _=>hg i
 have e3:ps (gI At) 12=1:=by decide+kernel
 constructor
 ·intro h
  rw [h,e3,e1] at e2
  omega
 ·intro h
  rw [h] at e1
  have hi:=Qr (f:=gI (eQ x)) (g:=gI At) (n:=12) (fun i _=>by rw [hg];exact k1.2 i) (fun i hi=>by
   have:∀ i,i<12→al (gI At i):=by unfold al;decide
   exact this i hi) (by rw [e2,e1,e3];rfl)
  refine List.ext_getElem (by rw [hlx];rfl) fun i h1 h2=> ?_
  have:=hi i (by omega)
  unfold gI at this
  rwa [aw,cJ h1,aw,cJ h2] at this
theorem So {b:LD} (hb:ar b) (hl:b.length=96) (hlt:bv b<bG):
  wN b=true↔eQ (je bY (ff bY) ((ba b b.length).map ae) lY 1)=At:=by
 rw [RR hb hl hlt,tP,decide_eq_true (show (b.length:Int)=96 by omega),decide_eq_true hlt]
 by_cases h0:bv b=0
 ·rw [decide_eq_false (fun h=>h h0),h0]
  have:(0:Nat) ^ (bG / 2)%bG=0:=by
   rw [Nat.zero_pow (by decide+kernel),Nat.zero_mod]
  rw [this]
  simp
 ·rw [decide_eq_true h0]
  have hd:¬ bG∣bv b:=fun h=>by have:=Nat.le_of_dvd (by omega) h;omega
  have:=NT.euler_sy VX Mg hd
  simpa using this
theorem ai2:afT:=by
 delta afT zC
 exact fun _=>rfl
theorem ac4:(base.with Tz).Ok:=ac agJ (ai am agJ Tryz.func232 (by kernel_rfl) Tryz.call232 (by kernel_rfl) ai2)
theorem Ih {l:List Int} (h:l.length=12):List.map (fun x=> [CD.int x]) (List.take 12 (List.drop 0 l))=l.map ae:=by
 rw [List.drop_zero,List.take_of_length_le (by omega)];rfl
theorem air:agz:=by
 delta agz CO jU
 intro l hl hk
 rw [Ih hl]
 exact ⟨by omega,hk,rfl,rfl,rfl⟩
theorem agv:(base.with T7).Ok:=ac ac4 (ai am ac4 Tryz.func231 (by kernel_rfl) Tryz.call231 (by kernel_rfl) air)
theorem Ye:xj bY:=⟨by decide,by decide,tR.2,by decide+kernel,by decide+kernel⟩
theorem Xx:xj lY:=⟨by decide,by decide,Fa.2,by decide+kernel,by decide+kernel⟩
theorem akG:ag0:=by
 delta ag0 iv
 exact fun _=>⟨trivial,Ye,rfl,by decide+kernel,rfl⟩
theorem afm:(base.with UQ).Ok:=ac agv (ai am agv Tryz.func203 (by kernel_rfl) Tryz.call203 (by kernel_rfl) akG)
theorem am7:(uK 12).1=abQ:=by decide+kernel
theorem ak3:abb:=by
 delta abb iR zC zk Mt
 intro _
 refine ⟨trivial,⟨⟨by decide,by decide,rfl,rfl⟩,trivial⟩,?_⟩
 intro c i l hl h
 obtain ⟨i0,i1,e1,e2⟩:=h
 refine aa (fun hi=> ?_) (fun hi=> ?_)
 ·have hi:=av hi
  have n1:(11-(i-1)).toNat=(11-i).toNat+1:=by omega
  have n2:11-(11-i).toNat=i.toNat:=by omega
  rw [n1,uK,n2,← e1,← e2,Nat.mul_one]
  refine ⟨⟨hi,by omega⟩,by omega,by decide,by decide,⟨hi,by omega⟩,by omega,⟨hi,by omega⟩,by omega,by omega,⟨by omega,by omega,rfl,rfl⟩,by omega⟩
 ·have hi:=au hi
  rw [show (11-i).toNat=12 from by omega,am7] at e1
  rw [e1]
  exact ⟨Xx,rfl,rfl,rfl⟩
theorem ac8:(base.with TO).Ok:=ac afm (ai ZT afm Tryz.func206 (by kernel_rfl) Tryz.call206 (by kernel_rfl) ak3)
theorem ahZ:ag7:=by
 delta ag7 lM kZ
 intro m v q _ _ h
 exact ⟨h,rfl,rfl,rfl,rfl⟩
theorem agW:(base.with Ty).Ok:=ac ac8 (ai am ac8 Tryz.func234 (by kernel_rfl) Tryz.call234 (by kernel_rfl) ahZ)
theorem Js {l:LD} (h:l.length=12):List.map (fun r=>(r.getD 0 (CD.int 0)).toInt) (List.take 12 (List.drop 0 l))=eQ l:=by
 rw [List.drop_zero,List.take_of_length_le (by omega)];rfl
theorem am4:agF:=by
 delta agF kZ
 intro m v q h
 exact ⟨by omega,by omega,by omega,Js h,rfl,rfl,rfl⟩
theorem acM:(base.with SH).Ok:=ac agW (ai am agW Tryz.func207 (by kernel_rfl) Tryz.call207 (by kernel_rfl) am4)
theorem akz:adh:=by
 delta adh CF
 exact fun _=>rfl
theorem ZG:(base.with Uq).Ok:=ac acM (ai am acM Tryz.func208 (by kernel_rfl) Tryz.call208 (by kernel_rfl) akz)
theorem anj:agp:=by
 delta agp lM kZ zR vX
 intro b m v q _ h _
 obtain ⟨hb,hl,hm⟩:=h
 refine aa (fun h=> ?_) (fun h=> ?_)
 ·have h:=av h
  have k:lk m b=1:=by unfold lk;rw [if_pos h]
  have w:mG m b=PK:=by unfold mG;rw [k,if_neg (by decide)]
  rw [w,k]
  exact ⟨rfl,rfl,rfl,rfl,rfl⟩
 have h:=au h
 have hlen:((ba b b.length).map ae).length=12:=by rw [bA,fy];omega
 refine ⟨⟨hl,hb⟩,by omega,⟨by omega,by omega⟩,aa (fun h2=> ?_) (fun h2=> ?_)⟩
 ·have h2:=av h2
  have k:lk m b=4:=by unfold lk;rw [if_neg h,if_neg (by omega)]
  have w:mG m b=PK:=by unfold mG;rw [k,if_neg (by decide)]
  rw [w,k]
  exact ⟨rfl,rfl,rfl,rfl,rfl⟩
 ·have h2:=au h2
  have k:lk m b=0:=by unfold lk;rw [if_neg h,if_pos (by omega)]
  have w:mG m b=ba b b.length:=by unfold mG;rw [if_pos k]
  rw [w,k]
  refine ⟨by omega,by omega,?_,rfl,rfl,rfl,rfl⟩
  rw [Js hlen]
  unfold eQ
  rw [List.map_map]
  have:((fun r:List CD=>(r.getD 0 (CD.int 0)).toInt) ∘ ae)=id:=by funext x;rfl
  rw [this,List.map_id]
theorem agH:(base.with SP).Ok:=ac ZG (ai am ZG Tryz.func204 (by kernel_rfl) Tryz.call204 (by kernel_rfl) anj)
theorem Ya {m q a e:LD} {v:Int} (hm:aO m) (ha:cE a) (hq:cE q) (hr:aO (fa m a)):(je m q a e v).length=m.length:=by
 have ⟨o1,o2⟩:=E7 hm
 have ⟨s1,s2⟩:=kI (v:=v) (m:=m) (b:=q) hr.2 hq hm
 have ⟨t1,t2⟩:=kI (v:=v) (m:=m) (b:=q) o1.2 hq hm
 unfold je mv
 rw [ak,ak]
 have ⟨x1,x2⟩:=Id (v:=v) (e:=e) (k:=(ck e e.length).toNat) hm t1 t2 s1 (ck e e.length).toNat
 exact (kI (v:=v) x1.2 o1.2 hm).2
theorem akD:aeU:=by
 delta aeU lM CO jU xV
 intro a e m v q ha he _ _ h
 obtain ⟨hp,hm⟩:=h
 obtain ⟨p1,p2,p3,p4,p5⟩:=id hp
 have ⟨r1,_,_⟩:=Ep p3.ok p1 (by omega) p3.one
 have hlen:=Ya (e:=e.map ae) (v:=v) p3.ok p1.2 p4.2 r1
 rw [Ih ha,Ih he]
 exact ⟨by omega,by omega,hp,by omega,by omega,Js (by rw [hlen,hm]),rfl,rfl,rfl⟩
theorem aah:(base.with Wy).Ok:=ac agH (ai am agH Tryz.func235 (by kernel_rfl) Tryz.call235 (by kernel_rfl) akD)
theorem aky:Z0:=by
 delta Z0 xV
 intro a e m v q ha he h
 exact ⟨h,rfl,rfl,rfl,rfl⟩
theorem aad:(base.with Ur).Ok:=ac aah (ai am aah Tryz.func205 (by kernel_rfl) Tryz.call205 (by kernel_rfl) aky)
theorem OU {b:LD} (hb:ar b) (hl:b.length=96):lk bY b=0↔bv b<bG:=by
 have hw:aO ((ba b b.length).map ae):=xX (by omega) hb
 have hlen:((ba b b.length).map ae).length=12:=by rw [bA,fy,hl]
 have hA:=Gv hb
 rw [show (b.length+7) / 8=12 from by omega] at hA
 have hmx:cZ ((ba b b.length).map ae) bY=12:=by unfold cZ;rw [hlen,gq];rfl
 have ⟨k1,_⟩:=AJ hw.2 tR.2 12
 rw [hA,rh] at k1
 unfold lk
 rw [if_neg (by omega),hmx]
 by_cases hc:gp ((ba b b.length).map ae) bY 12<0
 ·rw [if_pos hc]
  have:=k1.1 hc
  exact ⟨fun _=>by omega,fun _=>rfl⟩
 ·rw [if_neg hc]
  exact ⟨fun h=>absurd h (by decide),fun h=>absurd (k1.2 (by omega)) hc⟩
theorem aqV {b:LD} (h:ic b=0):gE b=ba b b.length:=by unfold gE;rw [if_pos h]
theorem aat {b:LD} (h:ic b≠0):PK=gE b:=by unfold gE;rw [if_neg h]
theorem ajd:adP:=by
 delta adP lM iv zk kZ CF zR JG
 intro b _ h
 obtain ⟨hb,hl⟩:=h
 refine ⟨trivial,⟨hb,hl,rfl⟩,aa (fun h=> ?_) (fun h=> ?_)⟩
 ·have h:lk bY b≠0:=av h
  suffices hk:lk bY b=ic b from ⟨aat (by rw [← hk];exact h),hk⟩
  by_cases h96:(b.length:Int)=96
  ·have hn:¬ bv b<bG:=fun k=>h ((OU hb (by omega)).2 k)
   have hg:wN b=false:=by rw [tP,decide_eq_false hn];simp
   rw [← Hh h96 hg]
   unfold lk at h ⊢
   rw [if_neg (fun e=>e h96)] at h ⊢
   split at h
   ·exact absurd rfl h
   ·rename_i hc;rw [if_neg hc]
  ·rw [← VT h96]
   unfold lk
   rw [if_pos h96]
 ·have h:¬ lk bY b≠0:=au h
  have h:lk bY b=0:=Decidable.not_not.1 h
  have h96:(b.length:Int)=96:=by
   apply Classical.byContradiction
   intro e
   unfold lk at h
   rw [if_pos e] at h;cases h
  have hlt:=(OU hb (by omega)).1 h
  have w:mG bY b=ba b b.length:=by unfold mG;rw [if_pos h]
  have hw:aO ((ba b b.length).map ae):=xX (by omega) hb
  have hG:=So hb (by omega) hlt
  have hp:=Su hw
  rw [← w] at hp hG
  refine ⟨trivial,rfl,⟨hp,rfl⟩,trivial,aa (fun k=> ?_) (fun k=> ?_)⟩
  ·suffices hk:4=ic b from ⟨aat (by rw [← hk];decide),hk⟩
   refine Hh h96 ?_
   have k:¬ eQ (je bY (ff bY) ((mG bY b).map ae) lY 1)=At:=by
    have k:(!decide (eQ (je bY (ff bY) ((mG bY b).map ae) lY 1)=At))=true:=k
    simpa using k
   cases hg:wN b with
   | false=>rfl
   | true=>exact absurd (hG.1 hg) k
  ·suffices hk:0=ic b from ⟨by show mG bY b=gE b;rw [w,aqV hk.symm],hk⟩
   refine TL h96 ?_
   have k:eQ (je bY (ff bY) ((mG bY b).map ae) lY 1)=At:=by
    have k:(!decide (eQ (je bY (ff bY) ((mG bY b).map ae) lY 1)=At))=false:=k
    simpa using k
   exact hG.2 k
theorem ZA:(base.with Uv).Ok:=ac aad (ai am aad Tryz.func179 (by kernel_rfl) Tryz.call179 (by kernel_rfl) ajd)
abbrev oi:BPat:= .own 3 [.int .i64]
def ahz:Ct:= {ps:= [rb],bs:= [],pre:=fun | [.r b] =>ar b∧b.length≤1000 | _=>False,res:=fun | [.r b] => .ret i64 [] [.i (nU b)] | _=>ag}
def amP:Ct:= {ps:= [rb],bs:= [],pre:=fun | [.r b] =>ar b∧b.length≤1000 | _=>False,res:=fun | [.r b] => .ret i64 [] [.i (ic b)] | _=>ag}
def Yq:Ct:= {ps:= [i64],bs:= [],pre:=fun _=>True,res:=fun
 | [.i t] => .ite (decide (t=1)) (.ret (.agg [i64,.nilf,.nils]) [] [.i 1]) (.ite (decide (t=2)) (.ret (.agg [i64,.nilf,.own 0]) [oi] [.i 8,.r [[.int 8]]])
  (.ite (decide (t=3)) (.ret (.agg [i64,.fn 176 [],.own 0]) [oi] [.i 32,.r [[.int 32]]]) (.ite (decide (t=4)) (.ret (.agg [i64,.fn 178 [],.own 0]) [oi] [.i 96,.r [[.int 31],[.int 31],[.int 31],[.int 3]]]) (.ret (.agg [i64,.nilf,.nils]) [] [.i 0]))))
 | _=>ag}
def abd:Ct:= {ps:= [i64],bs:= [],pre:=fun _=>True,res:=fun | [.i t] => .ret i64 [] [.i (aG t)] | _=>ag}
def alM:Ct:= {ps:= [i64,rb],bs:= [],pre:=fun | [.i t,.r l] =>l.length≤1000 | _=>False,res:=fun | [.i t,.r l] => .ret (.tup [i64,i64]) [] [.i (bi t l),.i (bl t l)] | _=>ag}
def abS:Prop:=
 ∀ (a:LD),
 lM a→
 ar a∧a.length≤1000→
 ar a∧
 bif decide (a.length≠32) then 1=nU a
 else
 bif
 decide
 ((cB (jV a)
 [4891460686036598785,2896914383306846353,13281191951274694749,3486998266802970665] 4).snd=
 (0:Int)) then
 4=nU a
 else 0=nU a
def P0:af:=aj Uv 176 (ap ahz)
def aaH:Prop:=
 ∀ (a:LD),
 lM a→
 ar a∧a.length≤1000→
 (ar a∧a.length≤1000)∧ic a=ic a
def Qk:af:=aj P0 178 (ap amP)
abbrev Mv:Prop:=
 Miss 2 eS
abbrev Bv:Prop:=
 Miss 2 eS
abbrev Da:Prop:=
 Miss 2 eS
abbrev Nt:LD:=
 [[.int 31],[.int 31],[.int 31],[.int 3]]
abbrev Ch:Prop:=
 Miss 2 eS
abbrev N6:Prop:=
 Miss 2 eS
def Wo:Prop:=
 ∀ (a:Int),
 True→
 bif decide (a=1) then
 bif decide (a=1) then (1:Int)=1
 else
 bif decide (a=2) then (1:Int)=8∧ [] = [[CD.int 8]]
 else
 bif decide (a=3) then Mv
 else bif decide (a=4) then Mv else (1:Int)=0
 else
 bif decide (a=2) then
 bif decide (a=1) then Bv
 else
 bif decide (a=2) then (8:Int)=8∧ [[CD.int 8]] = [[CD.int 8]]
 else
 bif decide (a=3) then Bv
 else bif decide (a=4) then Bv else Bv
 else
 bif decide (a=3) then
 bif decide (a=1) then Da
 else
 bif decide (a=2) then Da
 else
 bif decide (a=3) then (32:Int)=32∧ [[CD.int 32]] = [[CD.int 32]]
 else bif decide (a=4) then Da else Da
 else
 bif decide (a=4) then
 bif decide (a=1) then Ch
 else
 bif decide (a=2) then Ch
 else
 bif decide (a=3) then Ch
 else
 bif decide (a=4) then (96:Int)=96∧Nt=Nt
 else Ch
 else
 bif decide (a=1) then (0:Int)=1
 else
 bif decide (a=2) then (0:Int)=8∧ [] = [[CD.int 8]]
 else
 bif decide (a=3) then N6
 else bif decide (a=4) then N6 else (0:Int)=0
def OQ:af:=aj Qk 138 (ap Yq)
def alf:Prop:=
 ∀ (a:Int),
 True→
 True∧
 bif decide (a=1) then 1=aG a
 else
 bif decide (a=2) then 8=aG a
 else
 bif decide (a=3) then 32=aG a
 else bif decide (a=4) then 96=aG a else 0=aG a
def Oy:af:=aj OQ 136 (ap abd)
def ZL:Prop:=
 ∀ (a:Int) (b:LD),
 lM b→
 b.length≤1000→
 True∧
 bif decide (aG a=0) then
 0=bi a b∧6=bl a b
 else
 lM b→
 (0≤(↑b.length:Int)∧(0:Int)<aG a)∧
 bif decide ((↑b.length:Int)%aG a≠0) then
 0=bi a b∧3=bl a b
 else
 lM b→
 (bw false (decide ((↑b.length:Int)=0))=true→lM b)→
 ((!decide ((↑b.length:Int)=0))=true→
 0≤(↑b.length:Int)∧(0:Int)<aG a∧(↑b.length:Int)≤IntKind.i64.max)∧
 bif decide ((↑b.length:Int)=0)||decide ((1048576:Int)<(↑b.length:Int) / aG a) then
 0=bi a b∧7=bl a b
 else
 lM b→
 (0≤(↑b.length:Int)∧(0:Int)<aG a∧(↑b.length:Int)≤IntKind.i64.max)∧
 (↑b.length:Int) / aG a=bi a b∧
 0=bl a b
def WO:af:=aj Oy 91 (ap alM)
theorem Tg {L:List Int} (h:L.length=4):vl L=ps (gI L) 4:=by
 obtain ⟨a,b,c,d,rfl⟩:=uX h
 show a+18446744073709551616*(b+18446744073709551616*(c+18446744073709551616*(d+18446744073709551616*0)))=0+18446744073709551616 ^ 0*a+18446744073709551616 ^ 1*b+18446744073709551616 ^ 2*c+18446744073709551616 ^ 3*d
 grind
theorem agB {l:LD} (hb:ar l) (hl:l.length=32):vl (jV l)=bv l:=by
 have h:=Gv hb
 have h4:(ba l l.length).length=4:=by rw [fy];omega
 have e4:(l.length+7) / 8=4:=by omega
 rw [oU,e4] at h
 have hw:jV l=ba l l.length:=by unfold jV;rw [hl]
 rw [hw,Tg h4]
 exact h
theorem ah2:abS:=by
 delta abS lM
 intro l _ h
 obtain ⟨hb,hl⟩:=h
 refine ⟨hb,aa (fun h=> ?_) (fun h=> ?_)⟩
 ·have h:=av h
  unfold nU
  rw [if_pos (by omega)]
 have h:=au h
 have h:l.length=32:=by omega
 have k:=(Gt (a:=jV l) (by unfold jV;rw [fy,h]) (Fd l _)).1
 rw [agB hb h] at k
 unfold pW at k
 generalize cB (jV l) [4891460686036598785,2896914383306846353,13281191951274694749,3486998266802970665] 4=bo at *
 unfold nU fx
 rw [if_neg (by omega)]
 refine aa (fun h2=> ?_) (fun h2=> ?_)
 ·have h2:=k.1 (av h2)
  rw [if_pos (by omega)]
 ·have h2:¬ bo.2=0:=au h2
  rw [if_neg (fun e=>h2 (k.2 (by omega)))]
theorem TB:(base.with P0).Ok:=ac ZA (ai am ZA Tryz.func176 (by kernel_rfl) Tryz.call176 (by kernel_rfl) ah2)
theorem ajJ:aaH:=by
 delta aaH lM
 intro l _ h
 exact ⟨h,rfl⟩
theorem UC:(base.with Qk).Ok:=ac TB (ai am TB Tryz.func178 (by kernel_rfl) Tryz.call178 (by kernel_rfl) ajJ)
theorem aaP:Wo:=by
 delta Wo Mv Bv Da Nt Ch N6
 intro n _
 exact aa (fun h1=>nd h1 rfl) (fun h1=>aa (fun h2=>dq h1 (nd h2 ⟨rfl,rfl⟩)) (fun h2=>aa (fun h3=>dq h1 (dq h2 (nd h3 ⟨rfl,rfl⟩))) (fun h3=>aa (fun h4=>dq h1 (dq h2 (dq h3 (nd h4 ⟨rfl,rfl⟩)))) (fun h4=>dq h1 (dq h2 (dq h3 (dq h4 rfl)))))))
theorem TT:(base.with OQ).Ok:=ac UC (ai am UC Tryz.func138 (by kernel_rfl) Tryz.call138 (by kernel_rfl) aaP)
theorem agA:alf:=fun n h=>⟨trivial,aeG n h⟩
theorem SZ:(base.with Oy).Ok:=ac TT (ai am TT Tryz.func136 (by kernel_rfl) Tryz.call136 (by kernel_rfl) agA)
theorem aiL:ZL:=by
 delta ZL lM
 intro t l _ hlen
 have hs:=yw t
 refine ⟨trivial,aa (fun h=> ?_) (fun h=> ?_)⟩
 ·have h:=av h
  have k:bl t l=6:=by unfold bl;rw [if_pos h]
  unfold bi
  rw [k]
  exact ⟨rfl,rfl⟩
 have h:=au h
 intro _
 refine ⟨⟨by omega,by omega⟩,aa (fun h2=> ?_) (fun h2=> ?_)⟩
 ·have k:bl t l=3:=by unfold bl;rw [if_neg h,if_pos (av h2)]
  unfold bi
  rw [k]
  exact ⟨rfl,rfl⟩
 have h2:=au h2
 have hd:=Int.emod_add_mul_ediv (l.length:Int) (aG t)
 have hz:(l.length:Int) / aG t<1↔(l.length:Int)=0:=by
  have h0:0≤(l.length:Int) / aG t:=Int.ediv_nonneg (by omega) (by omega)
  constructor
  ·intro e
   have e0:(l.length:Int) / aG t=0:=by omega
   rw [e0,Int.mul_zero] at hd
   omega
  ·intro e
   rw [e,Int.zero_ediv];decide
 have hm:IntKind.i64.max=9223372036854775807:=by decide
 rw [hm]
 intro _ _
 refine ⟨fun _=>⟨by omega,by omega,by omega⟩,aa (fun h3=> ?_) (fun h3=> ?_)⟩
 ·have h3:(l.length:Int) / aG t<1∨1048576<(l.length:Int) / aG t:=by
   rw [Bool.or_eq_true] at h3
   exact h3.imp (fun e=>hz.2 (av e)) av
  have k:bl t l=7:=by unfold bl;rw [if_neg h,if_neg h2,if_pos h3]
  unfold bi
  rw [k]
  exact ⟨rfl,rfl⟩
 ·have h3:¬ ((l.length:Int) / aG t<1∨1048576<(l.length:Int) / aG t):=by
   rw [Bool.or_eq_false_iff] at h3
   have k1:=au h3.1
   have k2:=au h3.2
   rw [hz]
   omega
  have k:bl t l=0:=by unfold bl;rw [if_neg h,if_neg h2,if_neg h3]
  intro _
  refine ⟨⟨by omega,by omega,by omega⟩,?_⟩
  unfold bi
  rw [k,if_pos rfl]
  exact ⟨rfl,rfl⟩
theorem aap:(base.with WO).Ok:=ac SZ (ai am SZ Tryz.func91 (by kernel_rfl) Tryz.call91 (by kernel_rfl) aiL)
def amn:Ct:= {ps:= [i64,rb],bs:= [],pre:=fun | [.i t,.r l] =>bW l | _=>False,res:=fun | [.i t,.r l] => .ret i64 [] [.i (dg t l)] | _=>ag}
def wJ (t:Int) (l:LD) (u:Int) (l':LD) (i s:Int):Prop:=t=u∧l'=l∧bl t l=0∧s=aG t∧0≤i∧i≤l.length∧i%aG t=0∧sN t l (i / aG t).toNat=true
def MI:List (Nat×Pat):= [(1,rb),(7,.ptr 0 0),(8,i64)]
def afD:List Dat→Ann
 | [.i t,.r l] => {cut:= [],loop:= [(6,[
   la 44 MI [.cells 265 [i64,.nilf,.nils]] (fun | [.r l',.i i,.i s] =>t=1∧bl t l=0∧i=0 | _=>False) (fun _=>0),
   la 44 MI [.cells 265 [i64,.nilf,.own 1],oi] (fun | [.r l',.i i,.i s,.r _] =>t=2∧bl t l=0∧i=0 | _=>False) (fun _=>0),
   la 44 MI [.cells 265 [i64,.fn 176 [],.own 1],oi] (fun | [.r l',.i i,.i s,.r _] =>wJ t l 3 l' i s | _=>False) (fun | [.r l',.i i,_,_] =>(l'.length-i).toNat | _=>0),
   la 44 MI [.cells 265 [i64,.fn 178 [],.own 1],oi] (fun | [.r l',.i i,.i s,.r _] =>wJ t l 4 l' i s | _=>False) (fun | [.r l',.i i,_,_] =>(l'.length-i).toNat | _=>0)])]}
 | _=> {cut:= [],loop:= []}
def amx:Ct:= {ps:= [DM],bs:= [],pre:=fun | [.i k,.i t,.i c,.r l] =>bW l | _=>False,res:=fun | [.i k,.i t,.i c,.r l] => .ret .bool [] [.b (fO k t c l)] | _=>ag}
abbrev vP (a b:Int)(c:LD):LD:=
 List.drop a.toNat (List.take (a+b).toNat c)
abbrev zS (a:Int)(b:LD):Prop:=
 (∀ (c:LD) (d n_2:Int),
 lM c→
 a=1∧bl a b=0∧d=0→
 ((bw true !true)=true→lM c)→0=dg a b)∧
 (∀ (c:LD) (d n_2:Int) (l_2:LD),
 lM c→
 a=2∧bl a b=0∧d=0→
 ((bw true !true)=true→lM c)→0=dg a b)∧
 (∀ (c:LD) (d e:Int) (l_2:LD),
 lM c→
 wJ a b 3 c d e→
 ((bw true !false)=true→lM c)→
 bif !false&&decide (d<↑c.length) then
 iR (d+e)∧
 (0≤d∧d≤d+e∧d+e≤↑c.length)∧
 (ar (vP d e c)∧
 (vP d e c).length≤1000)∧
 bif decide (nU (vP d e c)≠0) then
 4=dg a b
 else
 iR (d+e)∧
 wJ a b 3 c (d+e) e∧(↑c.length-(d+e)).toNat<(↑c.length-d).toNat
 else 0=dg a b)∧
 ∀ (c:LD) (d e:Int) (l_2:LD),
 lM c→
 wJ a b 4 c d e→
 ((bw true !false)=true→lM c)→
 bif !false&&decide (d<↑c.length) then
 iR (d+e)∧
 (0≤d∧d≤d+e∧d+e≤↑c.length)∧
 (ar (vP d e c)∧
 (vP d e c).length≤1000)∧
 bif decide (ic (vP d e c)≠0) then
 4=dg a b
 else
 iR (d+e)∧
 wJ a b 4 c (d+e) e∧(↑c.length-(d+e)).toNat<(↑c.length-d).toNat
 else 0=dg a b
def aev:Prop:=
 ∀ (a:Int) (b:LD),
 lM b→
 bW b→
 b.length≤1000∧
 bif decide (bl a b≠0) then bl a b=dg a b
 else
 True∧
 bif decide (a=1) then
 ((a=1∧bl a b=0∧(0:Int)=0)∧True)∧zS a b
 else
 bif decide (a=2) then
 ((a=2∧bl a b=0∧(0:Int)=0)∧True)∧zS a b
 else
 bif decide (a=3) then
 (wJ a b 3 b 0 32∧True)∧zS a b
 else
 bif decide (a=4) then
 (wJ a b 4 b 0 96∧True)∧zS a b
 else ((a=1∧bl a b=0∧(0:Int)=0)∧True)∧zS a b
def UE:af:=aj WO 93 (ap amn)
def YX:Prop:=
 ∀ (a b c:Int) (d:LD),
 lM d→
 bW d→
 True∧
 bif decide (cR a b c [] ≠(0:Int)) then false=fO a b c d
 else
 bif decide (a≠1) then lM d→decide ((↑d.length:Int)=0)=fO a b c d
 else
 d.length≤1000∧
 (decide (bi b d=c)=true→bW d)∧
 (decide (bi b d=c)&&decide (dg b d=0))=
 fO a b c d
def We:af:=aj UE 95 (ap amx)
theorem IL {t:Int} {l:LD} (h3:t≠3) (h4:t≠4):∀ n,sN t l n=true
 | 0=>rfl
 | n+1=>by
  rw [sN,IL h3 h4 n]
  unfold As
  rw [if_neg h3,if_neg h4];rfl
theorem lc {t:Int} {l:LD} (h3:t≠3) (h4:t≠4) (hk:bl t l=0):0=dg t l:=by
 unfold dg
 rw [if_neg (fun e=>e hk),IL h3 h4];rfl
theorem AE {t:Int} {l:LD} (hk:bl t l=0):aG t≠0∧(l.length:Int)=aG t*bi t l∧0≤bi t l:=by
 have iu:aG t≠0:=fun e=>by unfold bl at hk;rw [if_pos e] at hk;cases hk
 have hm:(l.length:Int)%aG t=0:=by
  apply Classical.byContradiction
  intro e
  unfold bl at hk
  rw [if_neg iu,if_pos e] at hk;cases hk
 have hn:bi t l=(l.length:Int) / aG t:=by unfold bi;rw [if_pos hk]
 have hs:=yw t
 refine ⟨iu,?_,by rw [hn];exact Int.ediv_nonneg (by omega) (by omega)⟩
 rw [hn]
 have:=Int.emod_add_mul_ediv (l.length:Int) (aG t)
 omega
theorem QK {t u i s:Int} {l l':LD} (hl:bW l) (kd:LD→Int) (hkd:∀ b,kd b=0↔As u b=true) (h:wJ t l u l' i s):
  bif !false&&decide (i<(l'.length:Int)) then
   (-9223372036854775808≤i+s∧i+s≤9223372036854775807)∧(0≤i∧i≤i+s∧i+s≤(l'.length:Int))∧
   (ar (List.drop i.toNat (List.take (i+s).toNat l'))∧(List.drop i.toNat (List.take (i+s).toNat l')).length≤1000)∧
   bif decide (kd (List.drop i.toNat (List.take (i+s).toNat l'))≠0) then 4=dg t l
   else (-9223372036854775808≤i+s∧i+s≤9223372036854775807)∧wJ t l u l' (i+s) s∧((l'.length:Int)-(i+s)).toNat<((l'.length:Int)-i).toNat
  else 0=dg t l:=by
 obtain ⟨e1,e2,hk,e3,i0,i1,im,hv⟩:=h
 rw [e2]
 have ⟨iu,hlen,hn0⟩:=AE hk
 have hs:=yw t
 have hll:=hl.2
 have hd:=Int.emod_add_mul_ediv i (aG t)
 rw [im] at hd
 obtain ⟨j,hj⟩:∃ j:Nat,i / aG t=j:=⟨(i / aG t).toNat,by have:=Int.ediv_nonneg i0 (show 0≤aG t by omega);omega⟩
 rw [hj] at hd hv
 rw [ax] at hv
 have hij:i=aG t*j:=by omega
 refine aa (fun hc=> ?_) (fun hc=> ?_)
 ·have hc:i<(l.length:Int):=av hc
  have hjn:(j:Int)<bi t l:=by
   rw [hij,hlen] at hc
   exact Int.lt_of_mul_lt_mul_left hc (by omega)
  have hle:i+s≤l.length:=by
   rw [e3,hij,hlen]
   have:=Int.mul_le_mul_of_nonneg_left (show (j:Int)+1≤bi t l by omega) (show 0≤aG t by omega)
   rw [Int.mul_add,Int.mul_one] at this
   exact this
  have n1:i.toNat=j*(aG t).toNat:=by rw [hij,Int.mul_comm,Int.toNat_mul (by omega) (by omega),ax]
  have n2:(i+s).toNat=(j+1)*(aG t).toNat:=by
   rw [e3,hij,show aG t*(j:Int)+aG t=((j:Int)+1)*aG t from by grind,Int.toNat_mul (by omega) (by omega)]
   congr 1
  have ev:List.drop i.toNat (List.take (i+s).toNat l)=o9 t l j:=by rw [n1,n2];rfl
  rw [ev]
  have hB:bP (o9 t l j):=zf hl.1 _ _
  have hL:(o9 t l j).length≤1000:=by
   unfold o9
   rw [cj,List.length_take]
   omega
  refine ⟨by omega,⟨by omega,by omega,hle⟩,⟨dK hB,hL⟩,aa (fun k=> ?_) (fun k=> ?_)⟩
  ·have k:=av k
   refine MT hk (i:=j) (by omega) ?_
   cases hf:As t (o9 t l j) with
   | false=>rfl
   | true=>rw [e1] at hf;exact absurd ((hkd _).2 (by rw [e1];exact hf)) k
  ·have k:kd (o9 t l j)=0:=by simpa using au k
   have k:=(hkd _).1 k
   refine ⟨by omega,⟨e1,rfl,hk,e3,by omega,hle,?_,?_⟩,by omega⟩
   ·rw [e3,Int.add_emod_right];exact im
   ·have:(i+s) / aG t=((j+1:Nat):Int):=by
     rw [e3,hij,show aG t*(j:Int)+aG t=aG t*((j+1:Nat):Int) from by simp [Int.mul_add]]
     exact Int.mul_ediv_cancel_left _ iu
    rw [this,ax,sN,hv,e1]
    rw [e1] at k
    rw [k];rfl
 ·have hc:¬ i<(l.length:Int):=au hc
  have:i=l.length:=by omega
  have hjn:(j:Int)=bi t l:=by
   rw [this,hlen] at hij
   exact (Int.eq_of_mul_eq_mul_left iu hij).symm
  unfold dg
  rw [if_neg (fun e=>e hk),← hjn,ax,hv];rfl
theorem ajF:aev:=by
 delta aev lM iR vP zS
 intro t l _ hl
 have A3:=fun l1 n1 n2 (h:wJ t l 3 l1 n1 n2)=>QK (u:=3) hl nU (fun b=>EB b) h
 have A4:=fun l1 n1 n2 (h:wJ t l 4 l1 n1 n2)=>QK (u:=4) hl ic (fun b=>D1 b) h
 have B1:t=1∧bl t l=0∧(0:Int)=0→0=dg t l:=fun h=>lc (by omega) (by omega) h.2.1
 refine ⟨hl.2,aa (fun h=> ?_) (fun h=> ?_)⟩
 ·have h:=av h
  unfold dg
  rw [if_pos h]
 have hk:bl t l=0:=by simpa using au h
 refine ⟨trivial,?_⟩
 refine aa (fun h1=> ?_) (fun h1=>aa (fun h2=> ?_) (fun h2=>aa (fun h3=> ?_) (fun h3=>aa (fun h4=> ?_) (fun h4=> ?_))))
 ·refine ⟨⟨⟨av h1,hk,rfl⟩,trivial⟩,fun _ _ _ _ h _=>lc (by omega) (by omega) h.2.1,fun _ _ _ _ _ h _=>lc (by omega) (by omega) h.2.1,fun l1 n1 n2 _ _ h _=>A3 l1 n1 n2 h,fun l1 n1 n2 _ _ h _=>A4 l1 n1 n2 h⟩
 ·refine ⟨⟨⟨av h2,hk,rfl⟩,trivial⟩,fun _ _ _ _ h _=>lc (by omega) (by omega) h.2.1,fun _ _ _ _ _ h _=>lc (by omega) (by omega) h.2.1,fun l1 n1 n2 _ _ h _=>A3 l1 n1 n2 h,fun l1 n1 n2 _ _ h _=>A4 l1 n1 n2 h⟩
 ·have h3:=av h3
  refine ⟨⟨⟨h3,rfl,hk,by rw [h3];rfl,by omega,by omega,by rw [Int.zero_emod],by rw [Int.zero_ediv];rfl⟩,trivial⟩,fun _ _ _ _ h _=>lc (by omega) (by omega) h.2.1,fun _ _ _ _ _ h _=>lc (by omega) (by omega) h.2.1,fun l1 n1 n2 _ _ h _=>A3 l1 n1 n2 h,fun l1 n1 n2 _ _ h _=>A4 l1 n1 n2 h⟩
 ·have h4:=av h4
  refine ⟨⟨⟨h4,rfl,hk,by rw [h4];rfl,by omega,by omega,by rw [Int.zero_emod],by rw [Int.zero_ediv];rfl⟩,trivial⟩,fun _ _ _ _ h _=>lc (by omega) (by omega) h.2.1,fun _ _ _ _ _ h _=>lc (by omega) (by omega) h.2.1,fun l1 n1 n2 _ _ h _=>A3 l1 n1 n2 h,fun l1 n1 n2 _ _ h _=>A4 l1 n1 n2 h⟩
 ·exfalso
  have iu:=(AE hk).1
  refine iu ?_
  unfold aG
  rw [if_neg (au h1),if_neg (au h2),if_neg (au h3),if_neg (au h4)]
theorem adT:(base.with UE).Ok:=ac aap (ai afD aap Tryz.func93 (by kernel_rfl) Tryz.call93 (by kernel_rfl) ajF)
theorem aly:YX:=by
 delta YX lM
 intro k t c l _ hl
 refine ⟨trivial,aa (fun h=> ?_) (fun h=>aa (fun h2=>fun _=> ?_) (fun h2=>⟨hl.2,fun _=>hl,?_⟩))⟩
 ·unfold fO
  rw [decide_eq_false (av h)];rfl
 ·unfold fO
  have h:cR k t c [] =0:=by simpa using au h
  rw [decide_eq_true h,h2];rfl
 ·unfold fO
  have h:cR k t c [] =0:=by simpa using au h
  rw [decide_eq_true h,h2]
  by_cases hk:bl t l=0
  ·rw [decide_eq_true hk];rfl
  ·have:dg t l≠0:=by unfold dg;rw [if_pos hk];exact hk
   rw [decide_eq_false hk,decide_eq_false this]
   simp
theorem aaa:(base.with We).Ok:=ac adT (ai am adT Tryz.func95 (by kernel_rfl) Tryz.call95 (by kernel_rfl) aly)
def dk (k t n:Int) (l:LD):LD:=if fO k t n l=true then [k%256,t%256,n%256,n / 256%256,n / 65536%256,n / 16777216%256].map ae++l else []
def ajL:Ct:= {ps:= [DM],bs:= [],pre:=fun | [.i k,.i t,.i n,.r l] =>bW l | _=>False,res:=fun | [.i k,.i t,.i n,.r l] => .ret (.own 0) [ob] [.r (dk k t n l)] | _=>ag}
def afM:Prop:=
 ∀ (a b c:Int) (d:LD),
 lM d→
 bW d→
 bW d∧
 bif !fO a b c d then [] =dk a b c d
 else
 (0:Int)≤8∧
 (0:Int)≤16∧
 (0:Int)≤24∧
 aR (6+d.length) 1∧
 [[.int (IntKind.u8.wrap a)],[.int (IntKind.u8.wrap b)],[.int (IntKind.u8.wrap c)],
 [.int (IntKind.u8.wrap (aW .i64 c 8))],
 [.int (IntKind.u8.wrap (aW .i64 c 16))],
 [.int (IntKind.u8.wrap (aW .i64 c 24))]] ++
 d=
 dk a b c d
def Vc:af:=aj We 58 (ap ajL)
theorem amc:afM:=by
 delta afM lM aR
 rintro k t n l hl hp
 have hn:=hp.2
 unfold dk
 refine ⟨hp,aa (fun h=> ?_) fun h=>⟨by omega,by omega,by omega,⟨by omega,by omega⟩,?_⟩⟩
 ·have h:fO k t n l=false:=by simpa using h
  rw [if_neg (by rw [h];decide)]
 ·have h:fO k t n l=true:=by simpa using h
  rw [if_pos h,pY,pY,pY,pY,pY,pY,show aW .i64 n 8=n / 256 from zV n 8 (by omega),show aW .i64 n 16=n / 65536 from zV n 16 (by omega),show aW .i64 n 24=n / 16777216 from zV n 24 (by omega)]
  rfl
theorem Zz:(base.with Vc).Ok:=ac aaa (ai am aaa Tryz.func58 (by kernel_rfl) Tryz.call58 (by kernel_rfl) amc)
def aqE:Ct:= {ps:= [u64],bs:= [],pre:=fun | [.i n] =>al n | _=>False,res:=fun | [.i n] => .ret w4 [] [.li (dG [n,0,0,0])] | _=>ag}
def P96:Prop:=
 ∀ (n:Int),
 al n→
 aq ([0,0,0,0].set 0 n)∧
 dG ([0,0,0,0].set 0 n)=
 dG [n,0,0,0]
def M1:af:=aj Vc 96 (ap aqE)
theorem aqN:P96:=by
 unfold P96
 intro n hn
 refine ⟨fun j=> ?_,rfl⟩
 show al (([n,0,0,0] :List Int).getD j 0)
 match j with
 | 0=>exact hn
 | 1=>exact bh
 | 2=>exact bh
 | 3=>exact bh
 | j+4=>exact bh
theorem aaX:(base.with M1).Ok:=ac Zz (ai am Zz Tryz.func96 (by kernel_rfl) Tryz.call96 (by kernel_rfl) aqN)
end
end Go.Proofs.YteiecapbaeajdaaGreatDoor
namespace Go.Proofs.YteiecapbaeajdaaGreatDoor
open Go Go.Proofs
open Go.RowKit Go.Shelf
set_option linter.unusedVariables false
attribute [local go_sem] Oper.semAt_some
def pV (ad:Addr) (len k:Nat):Value:= .slice (some (ad.add (k*31))) (min 31 (len-k*31)) (min 31 (len-k*31))
set_option maxRecDepth 100000 in
set_option maxHeartbeats 2000000 in
theorem PG (F:Fence) (n:Nat) (h7:F.fn 183) (hro:F.round=none) (hn:1≤n) (ad:Addr) (l Bs Bn n₀ len cap K:Nat) (hreach:len≤100000) (hcap:len≤cap) (hK:K=(len+30) / 31) (J Jx:List Nat→World→Prop) (W:World) (hJ:AbidesFrom W.heap.size J)
  (hY:∀ pre x W,J pre W→pre.length<K→YieldAt F (n-1) Tryz.prog l #[pV ad len x] W fun e W'=>
   (e= .returned (.bool true)∧J (pre++ [x]) W'∧Below n₀ W W')∨(e= .returned (.bool false)∧Jx (pre++ [x]) W'))
  (h1:Bs<n₀) (h2:Bn<n₀) (hBs:W.cell? ⟨Bs,0,none⟩=some (.slice (some ad) len cap)) (hBn:W.cell? ⟨Bn,0,none⟩=some (.int .i64 31)) (h0:J [] W):
  CallsIn F n Tryz.prog 183 #[.func (.yield l) #[] #[],.pointer (some ⟨Bs,0,none⟩),.pointer (some ⟨Bn,0,none⟩)] W fun e W'=>(∃ v,e= .returned v)∧
   ((∃ ys,ys=List.range K∧J ys W')∨(∃ pre,(∃ k,k≤K∧pre=List.range k)∧Jx pre W')):=by
 refine callsIn_of_wp Tryz.func183 rfl h7 ?_ hro
 simp only [Tryz.ntmps183,List.size_toArray,List.length_cons,List.length_nil,Nat.reduceAdd,Nat.reduceSub,Array.replicate_succ,Array.replicate_zero,List.push_toArray,List.append_toArray,List.nil_append,List.cons_append]
 gi_wp2
 gi_loopw [4] (fun i wr=>∃ k:Nat,k≤K∧i= .int .i64 (k*31:Nat)∧J (List.range k) wr∧Below n₀ W wr)
  (fun i _=>len+31-(intOf i).toNat)
 case atStart=>exact ⟨0,Nat.zero_le _,rfl,h0,Below.refl _ _⟩
 case round=>
  obtain ⟨k,hk,rfl,hJs,hnx⟩:=hrel
  have hBs':wr.cell? ⟨Bs,0,none⟩=some (.slice (some ad) len cap):=(hnx.cell (p:=⟨Bs,0,none⟩) h1).trans hBs
  have hBn':wr.cell? ⟨Bn,0,none⟩=some (.int .i64 31):=(hnx.cell (p:=⟨Bn,0,none⟩) h2).trans hBn
  by_cases hlt:k*31<len
  ·obtain ⟨fn,tmps,assign,body,hy,hR⟩:=hY _ k wr hJs (by rw [List.length_range];omega)
   unfold pV at hy
   obtain ⟨m,hm⟩:∃ m,min 31 (len-k*31)=m:=⟨_,rfl⟩
   have hm1:k*31+m≤len:=by omega
   have hm2:1≤m:=by omega
   have hm3:k*31<len→m=31∨k*31+m=len:=by omega
   gi_wp2
   have hne:¬ cap=k*31:=by omega
   have hmin:(if ((len-k*31:Nat):Int)<31 then ((len-k*31:Nat):Int) else 31)=(m:Int):=by split <;>omega
   have hcm:((k:Int)*31+m).toNat=k*31+m:=by omega
   refine wpIn_mono (Q:=fun e a w=>e= .normal∧w=wr.drew∧a= {tmps:= #[Value.func (Fn.yield l) #[] #[],Value.pointer (some {block:=Bs,off:=0}),Value.pointer (some {block:=Bn,off:=0}),undef,Value.int IntKind.i64 ((k:Int)*31),Value.int IntKind.i64 (m:Int),Value.int IntKind.i64 ((k:Int)*31),
     Value.slice (some ad) len cap,Value.int IntKind.i64 (len:Int),Value.bool true,u10,u11,u12,Value.int IntKind.i64 31,Value.slice (some ad) len cap,Value.int IntKind.i64 ((k:Int)*31),
     Value.slice (some (ad.add (k*31))) (len-k*31) (cap-k*31),Value.int IntKind.i64 ((len-k*31:Nat):Int),Value.int IntKind.i64 (m:Int),u19,u20,u21,u22,u23,u24,u25,u26,u27,u28,u29,u30],defers:= []}) ?h1 ?h2
   case h1=>
    gi_region
    all_goals (try (exfalso;omega))
    all_goals exact ⟨rfl,rfl,rfl⟩
   case h2=>
    rintro e a w ⟨rfl,rfl,rfl⟩
    have hJd:J (List.range k) wr.drew:=hJ _ wr wr.drew none hJs ⟨rfl,rfl,rfl,Nat.le_refl _,fun _ _ _=>rfl⟩ (fun r e=>by cases e)
    have hnd:Below n₀ W wr.drew:=⟨hnx.os,hnx.tape,hnx.output,hnx.size,hnx.block⟩
    have hBs':wr.drew.cell? ⟨Bs,0,none⟩=some (.slice (some ad) len cap):=hBs'
    have hBn':wr.drew.cell? ⟨Bn,0,none⟩=some (.int .i64 31):=hBn'
    generalize wr.drew=wd at *
    obtain ⟨fn,tmps,assign,body,hy,hR⟩:=hY _ k wd hJd (by rw [List.length_range];omega)
    unfold pV at hy
    rw [hm] at hy
    gi_wp2
    refine hR.mono ?_
    rintro e W3 (⟨rfl,hJ3,hk3⟩ | ⟨rfl,hJx3⟩)
    ·have hBn3:W3.cell? ⟨Bn,0,none⟩=some (.int .i64 31):=(hk3.cell (p:=⟨Bn,0,none⟩) h2).trans hBn'
     gi_wp2
     go_roundw
     case rel=>exact ⟨k+1,by omega,by congr 1;omega,by rw [List.range_succ];exact hJ3,hnd.trans hk3⟩
     case measure=>simp [intOf];omega
    ·gi_wp2
     refine bodyPost_ret (results_none rfl _ _ _) rfl ?_
     exact ⟨⟨_,rfl⟩,.inr ⟨_,⟨k+1,by omega,List.range_succ.symm⟩,hJx3⟩⟩
  ·obtain rfl:k=K:=by omega
   gi_wp2
   go_end0
   exact ⟨⟨_,rfl⟩,.inl ⟨_,rfl,hJs⟩⟩
set_option maxRecDepth 100000 in
set_option maxHeartbeats 1000000 in
theorem Gn (F:Fence) (n:Nat) (h7:F.fn 183) (hro:F.round=none) (l Bs Bn cap:Nat) (ad:Option Addr) (J:List Nat→World→Prop) (W:World) (hBs:W.cell? ⟨Bs,0,none⟩=some (.slice ad 0 cap)) (h0:J [] W):
  CallsIn F n Tryz.prog 183 #[.func (.yield l) #[] #[],.pointer (some ⟨Bs,0,none⟩),.pointer (some ⟨Bn,0,none⟩)] W fun e W'=>(∃ v,e= .returned v)∧J [] W':=by
 refine callsIn_of_wp Tryz.func183 rfl h7 ?_ hro
 simp only [Tryz.ntmps183,List.size_toArray,List.length_cons,List.length_nil,Nat.reduceAdd,Nat.reduceSub,Array.replicate_succ,Array.replicate_zero,List.push_toArray,List.append_toArray,List.nil_append,List.cons_append]
 gi_wp2
 gi_loopw [4] (fun i wr=>i= .int .i64 0∧J [] wr∧wr.cell? ⟨Bs,0,none⟩=some (.slice ad 0 cap)) (fun _ _=>0)
 case atStart=>exact ⟨rfl,h0,hBs⟩
 case round=>
  obtain ⟨rfl,hJs,hBs⟩:=hrel
  gi_wp2
  go_end0
  exact ⟨⟨_,rfl⟩,hJs⟩
theorem KI (F:Fence) (n:Nat) (h7:F.fn 183) (hro:F.round=none) (hn:1≤n) (Bs Bn n₀:Nat) (ao:Option Addr) (ad:Addr) (len cap K:Nat) (w:World) (had:len≠0→ao=some ad) (hreach:len≤100000) (hcap:len≤cap) (hK:K=(len+30) / 31)
  (h1:Bs<n₀) (h2:Bn<n₀) (hn₀:n₀≤w.heap.size) (hBs:w.cell? ⟨Bs,0,none⟩=some (.slice ao len cap)) (hBn:w.cell? ⟨Bn,0,none⟩=some (.int .i64 31)):
  SeqStopsK F n Tryz.prog 183 #[.pointer (some ⟨Bs,0,none⟩),.pointer (some ⟨Bn,0,none⟩)] (fun k:Nat=> #[pV ad len k]) (Below n₀) (fun ys=>ys=List.range K) (fun pre=>∃ k,k≤K∧pre=List.range k) K w:=fun l J Jx W hW hJ _ hY h0=>by
 have c1:=(hW.cell (p:=⟨Bs,0,none⟩) (by show Bs<_;omega)).trans hBs
 have c2:=(hW.cell (p:=⟨Bn,0,none⟩) (by show Bn<_;omega)).trans hBn
 by_cases hl:len=0
 ·subst hl
  have:K=0:=by omega
  subst this
  exact (Gn F n h7 hro l Bs Bn cap ao J W c1 h0).mono fun e W' ⟨he,hj⟩=>⟨he,.inl ⟨_,rfl,hj⟩⟩
 ·rw [had hl] at c1
  exact PG F n h7 hro hn ad l Bs Bn n₀ len cap K hreach hcap hK J Jx W hJ hY h1 h2 c1 c2 h0
theorem YO:(Tryz.prog.info? 22).map (fun i=>(i.zero,i.size,i.bytes))=some (some (.slice none 0 0),1,24):=by kernel_rfl
set_option maxRecDepth 100000 in
set_option maxHeartbeats 2000000 in
theorem H0 (F:Fence) (n:Nat) (h3:F.fn 182) (h5:F.fn 183) (hro:F.round=none) (hn:3≤n) (Bs Bn:Nat) (ao:Option Addr) (ad:Addr) (len cap K:Nat) (w:World) (had:len≠0→ao=some ad) (hreach:len≤100000) (hcap:len≤cap) (hK:K=(len+30) / 31)
  (hb1:Bs<w.heap.size) (hb2:Bn<w.heap.size) (hBs:w.cell? ⟨Bs,0,none⟩=some (.slice ao len cap)) (hBn:w.cell? ⟨Bn,0,none⟩=some (.int .i64 31)):
  CallsIn F n Tryz.prog 182 #[.slice none 0 0,.func (.func 183) #[] #[.pointer (some ⟨Bs,0,none⟩),.pointer (some ⟨Bn,0,none⟩)]] w fun e W'=>∃ v,e= .returned v∧W'.ownsRow w.heap.size 22 1 v K ((List.range K).map (pV ad len))∧Below w.heap.size w W':=by
 have h1:1≤n:=by omega
 obtain ⟨i0,hi,hz0,hz1,hz2⟩:=info_parts YO
 refine callsIn_of_wp_marks Tryz.func182 rfl h3 ?_ hro
 simp only [Tryz.ntmps182,List.size_toArray,List.length_cons,List.length_nil,Nat.reduceAdd,Nat.reduceSub,Array.replicate_succ,Array.replicate_zero,List.push_toArray,List.append_toArray,List.nil_append,List.cons_append]
 gi_wp2
 have bO:=Boxed.new w 208 (.slice none 0 0)
 have hB0:Below w.heap.size w (w.alloc (.cells #[.slice none 0 0] 208)):=(Below.refl _ w).alloc (Nat.le_refl _) _
 refine wpIn_rangeFunc_ownG hro h1 (gf:=183) (lb:= #[.pointer (some ⟨Bs,0,none⟩),.pointer (some ⟨Bn,0,none⟩)]) rfl h5 (enters_of Tryz.func183 (by kernel_rfl) rfl)
  (KI F (n-1) h5 hro (by omega) Bs Bn w.heap.size ao ad len cap K _ had hreach hcap hK hb1 hb2 (by simp) ((hB0.cell (p:=⟨Bs,0,none⟩) hb1).trans hBs) ((hB0.cell (p:=⟨Bn,0,none⟩) hb2).trans hBn)) belowK_t (belowK_b (by simp)) (Below.refl _ _) (fun _=>rfl)
  (fun pre W=>(∃ v,Boxed W w.heap.size 208 v∧W.ownsRow w.heap.size 22 1 v pre.length (pre.map (pV ad len))∧True)∧Below w.heap.size w W)
  (fun _ _ _=>False)
  (OwnFrom.and (Own.from (holdsRow_own w.heap.size w.heap.size 208 22 1 (fun pre:List Nat=>pre.length) (fun pre=>pre.map (pV ad len)) (fun pre v=>True)) _) (ownFrom_below (Nat.le_refl _) (by simp)))
  (fun _ _ _ _ _ hs _ _=>hs)
  ⟨⟨_,bO,World.ownsRow_nil _ _ _ _,trivial⟩,hB0⟩
  (fun x=> {tmps:= #[.slice none 0 0,.func (.func 183) #[] #[.pointer (some ⟨Bs,0,none⟩),.pointer (some ⟨Bn,0,none⟩)],.pointer (some ⟨w.heap.size,0,none⟩),undef,.slice none 0 0,pV ad len x,.func (.func 183) #[] #[.pointer (some ⟨Bs,0,none⟩),.pointer (some ⟨Bn,0,none⟩)],pV ad len x,undef,undef,undef,undef,undef],defers:= []}) ?assign ?body ?done ?stop
 case assign=>
  intro l x W K hK
  gi_wp2
  exact hK
 case body=>
  rintro l pre x W ⟨⟨v,hv,hrow,_⟩,hB⟩ hlt
  have hc:=hv.cell
  have hml:1000000≤maxLen:=by decide
  obtain ⟨A,c,hA⟩:∃ A c,pV ad len x= .slice (some A) c c:=⟨_,_,rfl⟩
  rw [hA]
  gi_wp2_with (gi_at_builtin;refine wpListIn_append_own _ rfl _ _ 208 rfl w.heap.size 22 i0 (.slice none 0 0) 1 24 Tryz.underlying208 hi hz0 hz1 hz2 rfl (by decide) _ _ _ rfl (hrow.alloc _) ⟨W.heap.size,0,none⟩ 1 1 [.slice (some A) c c] rfl rfl (cell_one_new _ _ _) (by simp [Value.oneCell']) (by omega) (by omega) (by have:=hB.size;simp;omega) ?_;intro v' w1 hown' hgrow _;obtain ⟨g',cap',rfl⟩:=ownsRow_succ hown';obtain ⟨hv1,hv2,hr2,hk2,hb2⟩:=hv.appended (by decide) hrow hB.size (Nat.le_refl _) hown' hgrow;have hc1:=hv1.cell;have hf1:=hv1.frozen)
  exact ⟨hk2.from _,hb2,⟨_,hv2,by simpa [hA] using hr2,trivial⟩,hB.trans hb2⟩
 case done=>
  rintro D ys W hD rfl ⟨⟨v,hv,hrow,_⟩,hB⟩ hK
  have hc:=hv.cell
  gi_wp2
  refine ⟨by simp,.inl ⟨_,_,rfl,run_takeDeferred hK,?_⟩⟩
  rw [List.length_range] at hrow
  exact ⟨_,results_tmp rfl _ _ _,v,rfl,ownsRow_putObj hrow _ hK rfl,hB.trans (belowK_b (w:=w) (Nat.le_refl _) W D _ _ (by simp at hD;omega) hK rfl rfl)⟩
 case stop=>
  rintro D c pre W _ _ h _
  exact h.elim
end Go.Proofs.YteiecapbaeajdaaGreatDoor
namespace Go.Proofs.YteiecapbaeajdaaGreatDoor
open Go Go.Avc
set_option linter.unusedVariables false
noncomputable section
abbrev JT:List CSh:= [.sl [.int .u8]]
abbrev UD:BPat:= .own 22 JT
def nE (t:Int) (k:Nat):Nat:=if t=2 then 8*k else if t=3 then 32*k else if t=4 then 96*(k / 4)+31*(k%4) else k*31
def xM (t:Int) (k:Nat):Nat:=if t=2 then 8 else if t=3 then 32 else if t=4 then (if k%4=3 then 3 else 31) else 31
def nA (t:Int) (n:Nat):Nat:=if t=2 then n / 8 else if t=3 then n / 32 else if t=4 then n / 96*4 else (n+30) / 31
def sL (t:Int) (l:LD) (k:Nat):LD:=(l.drop (nE t k)).take (xM t k)
def jB (t:Int) (l:LD) (n:Nat):LD:=(List.range n).map fun k=> [.sl (sL t l k)]
def dC (t:Int) (l:LD):LD:=jB t l (nA t l.length)
def fK (t:Int):List Int:=if t=2 then [8] else if t=3 then [32] else if t=4 then [31,31,31,3] else []
def jz (t:Int):Prop:=t=2∨t=3∨t=4
def LJ (k t n:Int):Int:=iE .u64 (iE .u64 (IntKind.u64.wrap k) (de .u64 (IntKind.u64.wrap t) 8)) (de .u64 (IntKind.u64.wrap n) 16)
def ER (r:List CD):List CD:=b8 (me (r.getD 0 (CD.int 0)).toSl)
def Iv (k t n:Int) (l:LD):LD:=if fO k t n l=true then b8 (dG [LJ k t n,0,0,0])::(dC t l).map ER else []
def GF:Ct:= {ps:= [.nils,.fn 183 [.ptr 0 0,.ptr 1 0]],bs:= [.cells 22 [rb],.cells 3 [i64]],pre:=fun | [.r l,.i n] =>n=31∧l.length≤1000 | _=>False,res:=fun
 | [.r l,.i n] => .ret (.own 2) [.cells 22 [rb],.cells 3 [i64],UD] [.r l,.i n,.r (jB 1 l ((l.length+30) / 31))]
 | _=>ag}
theorem XD {w:World} {Im:Nat→Prop} {l:LD} {ad:Addr} {cap:Nat} {xs:List Value} (hl:l.length≤cap) (hc:cap≤maxLen) (hIm:Im ad.block) (hf:FlatRel Im w [.int .u8] l xs) (hx:∀ j x,xs[j]? =some x→w.cell? (ad.add j)=some x) (k:Nat) (hk:k*31<l.length):
  CRel Im w (.sl [.int .u8]) (.sl (sL 1 l k)) (pV ad l.length k):=by
 have h1:sL 1 l k=(l.drop (k*31)).take 31:=rfl
 have hxl:xs.length=l.length:=by have:=hf.length;simpa using this
 have hlen:(sL 1 l k).length=min 31 (l.length-k*31):=by rw [h1,List.length_take,cj]
 have h2:=(hf.split (k*31) (by omega)).2
 have h3:=(h2.split (min 31 (l.length-k*31)) (by rw [cj];omega)).1
 simp only [List.length_cons,List.length_nil,Nat.zero_add,Nat.mul_one] at h3
 have e1:(l.drop (k*31)).take (min 31 (l.length-k*31))=sL 1 l k:=by
  rw [h1]
  by_cases h:31≤l.length-k*31
  ·rw [Nat.min_eq_left h]
  ·rw [Nat.min_eq_right (by omega),List.take_of_length_le (by rw [cj];omega),List.take_of_length_le (by rw [cj];omega)]
 rw [e1] at h3
 unfold pV
 rw [← hlen]
 refine .sl _ _ _ _ _ (Nat.le_refl _) (by omega) (by unfold Addr.add;split <;>exact hIm) h3 fun j x hj=> ?_
 rw [List.getElem?_take] at hj
 split at hj
 ·rw [List.getElem?_drop] at hj
  rw [Addr.add_add]
  exact hx _ _ hj
 ·cases hj
theorem H6 {w:World} {Im:Nat→Prop} {l:LD} {ad:Addr} (h:∀ k,k*31<l.length→CRel Im w (.sl [.int .u8]) (.sl (sL 1 l k)) (pV ad l.length k)):∀ n,n*31<l.length+31→FlatRel Im w JT (jB 1 l n) ((List.range n).map (pV ad l.length))
 | 0,_=> .nil _
 | n+1,hn=>by
  have ih:=H6 h n (by omega)
  unfold jB at ih ⊢
  rw [List.range_succ,List.map_append,List.map_append]
  exact ih.append (.cons _ _ _ _ _ (.cons _ _ _ _ _ _ (h n (by omega)) .nil) (.nil _))
theorem Yj {C:Ctx} (hP:C.P=Tryz.prog) {E:Ent} {Im:Nat→Prop} {ι:Nat→Option Value} {w:World} {vs:List Value} {l:LD} (hl:l.length≤1000) (hE:E.dfr= [])
  (hm:Mem C E [.cells 22 [.rd [.int .u8] l],.cells 3 [.int .i64 31]] Im ι w) (hF:oQ 2 ι) (hv:VRels Im ι w [.nils,.fn 183 [.ptr 0 0,.ptr 1 0]] vs):
  Calls Tryz.prog 182 vs.toArray w (cq C E Im ι w 2 (GF.res [.r l,.i 31])):=by
 obtain ⟨v0,vs1,rfl,e0,v1,vs2,rfl,⟨us,e1,u0,us1,rfl,⟨r0,hr0,eu0⟩,u1,us2,rfl,⟨r1,hr1,eu1⟩,rfl⟩,rfl⟩:=hv
 cases e0;cases e1;cases eu0;cases eu1
 obtain ⟨q0,vz,eq0,hq0,c0⟩:=hm.hv 0 _ hr0
 cases eq0
 obtain ⟨sv,vz',rfl,hsv,_,hz⟩:=c0
 cases (show vz'= [] from hz)
 obtain ⟨q1,vz,eq1,hq1,c1⟩:=hm.hv 1 _ hr1
 cases eq1
 obtain ⟨nv,vz',rfl,hnv,_,hz⟩:=c1
 cases (show vz'= [] from hz)
 cases (show nv= .int .i64 31 from hnv)
 have hb0:r0<w.heap.size:=(Array.getElem?_eq_some_iff.1 hq0).1
 have hb1:r1<w.heap.size:=(Array.getElem?_eq_some_iff.1 hq1).1
 have hc1:w.cell? ⟨r1,0,none⟩=some (.int .i64 31):=by simp [World.cell?,hq1]
 have key:∀ (ao:Option Addr) (ad:Addr) (cap:Nat),sv= .slice ao l.length cap→(l.length≠0→ao=some ad)→l.length≤cap→
   (∀ k,k*31<l.length→CRel Im w (.sl [.int .u8]) (.sl (sL 1 l k)) (pV ad l.length k))→
   Calls Tryz.prog 182 [Value.slice none 0 0,.func (.func 183) #[] #[.pointer (some ⟨r0,0,none⟩),.pointer (some ⟨r1,0,none⟩)]].toArray w (cq C E Im ι w 2 (GF.res [.r l,.i 31])):=by
  intro ao ad cap hsv' had hcap hp
  subst hsv'
  have hc0:w.cell? ⟨r0,0,none⟩=some (.slice ao l.length cap):=by simp [World.cell?,hq0]
  have hcall:=callsIn_wide.1 (H0 Fence.wide 3 trivial trivial rfl (by omega) r0 r1 ao ad l.length cap ((l.length+30) / 31) w had (by omega) hcap rfl hb0 hb1 hc0 hc1)
  refine Calls.mono hcall ?_
  rintro e w' ⟨v,rfl,ho,hb⟩
  have hg:w.grownBy w' none:=⟨hb.os,hb.tape,hb.output,hb.size,fun k hk _=>hb.block k hk⟩
  have hO:OwnV w' 22 1 v ((l.length+30) / 31) ((List.range ((l.length+30) / 31)).map (pV ad l.length)):=by
   refine ⟨ho.1,?_⟩
   rcases ho.2 with ⟨rfl,h0⟩ | ⟨g,cap',cur,rfl,hbg,hgc,h1,h2,h3,h4⟩
   ·exact .inl ⟨_,rfl,h0⟩
   ·by_cases hc':cap'=0
    ·subst hc'
     have:(l.length+30) / 31=0:=by omega
     rw [this]
     exact .inl ⟨_,rfl,rfl⟩
    ·exact .inr ⟨g,cap',cur,rfl,hgc,h1,by omega,h2,h3,h4⟩
  have hk:∀ k,aH v=some k→w.heap.size≤k:=by
   intro k hk
   rcases ho.2 with ⟨rfl,h0⟩ | ⟨g,cap',cur,rfl,hbg,_⟩
   ·cases hk
   ·simp only [aH] at hk
    split at hk
    ·cases hk
    ·cases hk;exact hbg
  have hsl:∃ a n c,v= .slice a n c:=by
   rcases ho.2 with ⟨rfl,_⟩ | ⟨g,cap',cur,rfl,_⟩ <;>exact ⟨_,_,_,rfl⟩
  have hfl:=H6 hp ((l.length+30) / 31) (by omega)
  have hn2:ι 2=none:=hF 2 (Nat.le_refl _)
  have hll:(jB 1 l ((l.length+30) / 31)).length=(l.length+30) / 31:=by simp [jB]
  have hmm:=Ej (hp':= [.cells 22 [.rd [.int .u8] l],.cells 3 [.int .i64 31],.own 22 JT (jB 1 l ((l.length+30) / 31))]) (c:=2) (T:=22) (e:=JT) hm hn2 (fun b hb=>by
   match b,hb with
   | 0,_=>rfl
   | 1,_=>rfl
   | b+3,_=>rfl) rfl hg (by rw [hll];exact hO) hfl hk
  refine ⟨v,Im,ιset ι 2 v,_,_,rfl,rfl,rfl,⟨ιset_same ι 2 v,hsl⟩,hmm.1,rfl,fun b hb=> ?_,hmm.2,(show 2≤3 by decide),fun b hb=>ιset_other ι 2 v (by omega)⟩
  have hb:3≤b:=hb
  rw [ιset_other ι 2 v (by omega)]
  exact hF b (by omega)
 cases hsv with
 | sl0 e a cap hcap=>exact key a ⟨0,0,none⟩ cap rfl (fun h=>absurd rfl h) (Nat.zero_le _) fun k hk=>absurd hk (Nat.not_lt_zero _)
 | sl e l ad cap xs h1 h2 h3 h4 h5=>exact key (some ad) ad cap rfl (fun _=>rfl) h1 fun k hk=>XD h1 h2 h3 h4 h5 k hk
theorem ak4:da (base.with M1) 182 (ap GF):=by
 refine u6 aaX (fun svs hp ds=>∃ l,svs= [.nils,.fn 183 [.ptr 0 0,.ptr 1 0]] ∧hp= [.cells 22 [.rd [.int .u8] l],.cells 3 [.int .i64 31]] ∧ds= [.r l,.i 31] ∧l.length≤1000) ?_ (fun vs w _=>Tryz.call182 vs w) ?_
 ·rintro svs hp ds E Im ι w vs ⟨l,rfl,rfl,rfl,hl⟩ _ _ hD hE hm hF hv
  exact Yj rfl hl hD hm hF hv
 ·rintro l n _ ⟨rfl,hl⟩
  exact ⟨l,rfl,rfl,rfl,hl⟩
def OE:af:=aj M1 182 (ap GF)
theorem VJ:(base.with OE).Ok:=ac aaX ak4
def aiM:Ct:= {ps:= [.fn 183 [.ptr 0 0,.ptr 1 0]],bs:= [.cells 22 [rb],.cells 3 [i64]],pre:=fun | [.r l,.i n] =>n=31∧l.length≤1000 | _=>False,res:=fun
 | [.r l,.i n] => .ret (.own 2) [.cells 22 [rb],.cells 3 [i64],UD] [.r l,.i n,.r (jB 1 l ((l.length+30) / 31))]
 | _=>ag}
def alV:Ct:= {ps:= [rb,i64],bs:= [],pre:=fun | [.r l,.i n] =>1≤n | _=>False,res:=fun
 | [.r l,.i n] => .ret (.fn 183 [.ptr 0 0,.ptr 1 0]) [.cells 22 [rb],.cells 3 [i64]] [.r l,.i n]
 | _=>ag}
abbrev ri:Pat:= .rd [.int .i64]
def aeQ:Ct:= {ps:= [i64],bs:= [],pre:=fun _=>True,res:=fun
 | [.i t] => .ite (decide (t=1)) (.ret (.agg [i64,.nilf,.nils]) [] [.i 1]) (.ite (decide (t=2)) (.ret (.agg [i64,.nilf,ri]) [] [.i 8,.r [[.int 8]]])
  (.ite (decide (t=3)) (.ret (.agg [i64,.fn 176 [],ri]) [] [.i 32,.r [[.int 32]]]) (.ite (decide (t=4)) (.ret (.agg [i64,.fn 178 [],ri]) [] [.i 96,.r [[.int 31],[.int 31],[.int 31],[.int 3]]]) (.ret (.agg [i64,.nilf,.nils]) [] [.i 0]))))
 | _=>ag}
def aim:List Dat→Prop
 | [.i t,.r l] =>l.length≤1000∧(jz t→(l.length:Int)%aG t=0)
 | _=>False
def aqD:Ct:= {ps:= [i64,rb],bs:= [],pre:=aim,res:=fun | [.i t,.r l] => .ret (.own 0) [UD] [.r (dC t l)] | _=>ag}
def akO:List Dat→Ann
 | [.i t,.r l] => {cut:= [],loop:= [(6,[la 40 [(1,rb),(5,ri),(6,.own 0),(7,i64)] [UD] (fun
   | [.r rest,.r cs,.i i,.r out] =>cs=(fK t).map ae∧∃ j:Nat,j≤nA t l.length∧rest=l.drop (nE t j)∧i=((j%(fK t).length:Nat):Int)∧out=jB t l j
   | _=>False) (fun | [.r rest,_,_,_] =>rest.length | _=>0)])]}
 | _=> {cut:= [],loop:= []}
def arr:Ct:= {ps:= [DM],bs:= [],pre:=fun | [.i k,.i t,.i n,.r l] =>bW l | _=>False,res:=fun | [.i k,.i t,.i n,.r l] => .ret (.own 0) [oe] [.r (Iv k t n l)] | _=>ag}
def aip:List Dat→Ann
 | [.i k,.i t,.i n,.r l] => {cut:= [],loop:= [(5,[la 41 [(3,.own 0),(28,.rd JT),(29,i64),(30,i64)] [oe] (fun
   | [.r p,.i m,.i i,.r out] =>p=dC t l∧m=(dC t l).length∧0≤i∧i≤m∧fO k t n l=true∧out=b8 (dG [LJ k t n,0,0,0])::((dC t l).map ER).take i.toNat
   | _=>False) (fun | [_,.i m,.i i,_] =>(m-i).toNat | _=>0)])]}
 | _=> {cut:= [],loop:= []}
end
end Go.Proofs.YteiecapbaeajdaaGreatDoor
