/-
 Conditions of contracts, as the kernel reckons them (printed by a program of ours, checked by the kernel).
-/
import Derived.Test.YteiecapbaeajdaaGreatDoorJ12
namespace Go.Proofs.YteiecapbaeajdaaGreatDoor
open Go Go.Avc Go.Proofs
set_option linter.unusedVariables false
set_option maxRecDepth 100000
set_option linter.unusedSimpArgs false
noncomputable section
abbrev dE (a:LD):Int:=
 ↑a.length
abbrev yS (a b c d e f g h:Int)(i j k:LD):Int:=
 (rC i a b c j d e (f,g,h,k)).snd.snd.snd.snd
abbrev yJ (a b c d e f g h:Int)(i j k:LD):LD:=
 (rC i a b c j d e (f,g,h,k)).snd.snd.snd.fst.snd.snd.snd
abbrev zj (a b c d e f g h:Int)(i j k:LD):Int:=
 (rC i a b c j d e (f,g,h,k)).snd.snd.snd.fst.fst
abbrev zn (a b c d e f g h:Int)(i j k:LD):Int:=
 (rC i a b c j d e (f,g,h,k)).snd.snd.snd.fst.snd.fst
abbrev z7 (a b c d e f g h:Int)(i j k:LD):Int:=
 (rC i a b c j d e (f,g,h,k)).snd.snd.snd.fst.snd.snd.fst
def P39:Prop:=
 ∀ (a:Int) (b:LD) (c d:Int) (e f:LD) (g h i j k m:Int) (o:LD),
 lM b→
 lM e→
 lM f→
 lM o→
 a=1∧
 bW o∧
 0≤m∧m≤1000∧d9 b c (g,h,i,f)∧c≤dE b→
 bif decide (j=0) then
 (a=1∧bW o∧d9 b c (g,h,i,f))∧
 a=a∧
 b=b∧
 (rT d c (g,h,i,f) (bc b k o c (g,h,i,f))).snd.snd.fst=
 (rC b j k m o c d (g,h,i,f)).snd.snd.fst∧
 (rT d c (g,h,i,f) (bc b k o c (g,h,i,f))).snd.snd.snd.snd=
 yS j k m c d g h i b o f∧
 e=e∧
 (rT d c (g,h,i,f) (bc b k o c (g,h,i,f))).snd.snd.snd.fst.snd.snd.snd=
 yJ j k m c d g h i b o f∧
 (rT d c (g,h,i,f) (bc b k o c (g,h,i,f))).snd.snd.snd.fst.fst=
 zj j k m c d g h i b o f∧
 (rT d c (g,h,i,f) (bc b k o c (g,h,i,f))).snd.snd.snd.fst.snd.fst=
 zn j k m c d g h i b o f∧
 (rT d c (g,h,i,f)
 (bc b k o c (g,h,i,f))).snd.snd.snd.fst.snd.snd.fst=
 z7 j k m c d g h i b o f∧
 (rT d c (g,h,i,f) (bc b k o c (g,h,i,f))).fst=
 (rC b j k m o c d (g,h,i,f)).fst∧
 [] =(rC b j k m o c d (g,h,i,f)).snd.fst
 else
 bif decide (j=1) then
 (a=1∧0≤m∧m≤1000∧d9 b c (g,h,i,f))∧
 a=a∧
 b=b∧
 (rT d c (g,h,i,f) (bd b m c (g,h,i,f))).snd.snd.fst=
 (rC b j k m o c d (g,h,i,f)).snd.snd.fst∧
 (rT d c (g,h,i,f) (bd b m c (g,h,i,f))).snd.snd.snd.snd=
 yS j k m c d g h i b o f∧
 e=e∧
 (rT d c (g,h,i,f) (bd b m c (g,h,i,f))).snd.snd.snd.fst.snd.snd.snd=
 yJ j k m c d g h i b o f∧
 (rT d c (g,h,i,f) (bd b m c (g,h,i,f))).snd.snd.snd.fst.fst=
 zj j k m c d g h i b o f∧
 (rT d c (g,h,i,f) (bd b m c (g,h,i,f))).snd.snd.snd.fst.snd.fst=
 zn j k m c d g h i b o f∧
 (rT d c (g,h,i,f)
 (bd b m c (g,h,i,f))).snd.snd.snd.fst.snd.snd.fst=
 z7 j k m c d g h i b o f∧
 (rT d c (g,h,i,f) (bd b m c (g,h,i,f))).fst=
 (rC b j k m o c d (g,h,i,f)).fst∧
 (rT d c (g,h,i,f) (bd b m c (g,h,i,f))).snd.fst=
 (rC b j k m o c d (g,h,i,f)).snd.fst
 else
 bif decide (j=2) then
 (a=1∧0≤m∧m≤1000∧d9 b c (g,h,i,f))∧
 (((0:Int)≤0∧
 (0:Int)≤
 (↑(jd
 (rT d c (g,h,i,f) (aE b m c (g,h,i,f))).snd.fst).length:
 Int)∧
 a=a∧
 b=b∧
 e=e∧
 j=2∧
 ∃ p,
 jd
 (rT d c (g,h,i,f) (aE b m c (g,h,i,f))).snd.fst=
 jd p∧
 [] =gK (List.take 0 p)∧
 ((rT d c (g,h,i,f) (aE b m c (g,h,i,f))).fst,p,
 (rT d c (g,h,i,f) (aE b m c (g,h,i,f))).snd.snd.fst,
 ((rT d c (g,h,i,f)
 (aE b m c (g,h,i,f))).snd.snd.snd.fst.fst,
 (rT d c (g,h,i,f)
 (aE b m c (g,h,i,f))).snd.snd.snd.fst.snd.fst,
 (rT d c (g,h,i,f)
 (aE b m c (g,h,i,f))).snd.snd.snd.fst.snd.snd.fst,
 (rT d c (g,h,i,f)
 (aE b m c (g,h,i,f))).snd.snd.snd.fst.snd.snd.snd),
 (rT d c (g,h,i,f)
 (aE b m c (g,h,i,f))).snd.snd.snd.snd)=
 yE b m c d (g,h,i,f))∧
 True)∧
 ∀ (p:Int) (q:LD) (r s:Int) (t:LD) (u v:Int) (w x:LD) (y z A:Int)
 (B:LD),
 lM q→
 lM t→
 lM w→
 lM x→
 lM B→
 (0≤r∧
 r≤dE q∧
 s=a∧
 t=b∧
 w=e∧
 j=2∧
 ∃ D,
 q=jd D∧
 B=gK (List.take r.toNat D)∧
 (p,D,u,(y,z,A,x),v)=yE b m c d (g,h,i,f))→
 lM q→
 bif decide (r<dE q) then
 bR r q∧
 r.toNat<q.length∧
 cb ((q.getD r.toNat []).getD 0 (.int 0)).toSl∧
 aR (B.length+32) 1∧
 iR (r+1)∧
 (0≤r+1∧
 r+1≤dE q∧
 s=a∧
 t=b∧
 w=e∧
 j=2∧
 ∃ D,
 q=jd D∧
 B++
 List.map ae
 (b9
 (gI
 (iN
 ((q.getD r.toNat []).getD 0 (.int 0)).toSl 4))
 4)=
 gK (List.take (r+1).toNat D)∧
 (p,D,u,(y,z,A,x),v)=yE b m c d (g,h,i,f))∧
 (dE q-(r+1)).toNat<(dE q-r).toNat
 else
 s=a∧
 t=b∧
 u=(rC b j k m o c d (g,h,i,f)).snd.snd.fst∧
 v=yS j k m c d g h i b o f∧
 w=e∧
 x=yJ j k m c d g h i b o f∧
 y=zj j k m c d g h i b o f∧
 z=zn j k m c d g h i b o f∧
 A=z7 j k m c d g h i b o f∧
 p=(rC b j k m o c d (g,h,i,f)).fst∧
 B=(rC b j k m o c d (g,h,i,f)).snd.fst
 else
 bif decide (j=3) then
 (a=1∧d9 b c (g,h,i,f))∧
 a=a∧
 b=b∧
 (rT d c (g,h,i,f) (bF b c (g,h,i,f))).snd.snd.fst=
 (rC b j k m o c d (g,h,i,f)).snd.snd.fst∧
 (rT d c (g,h,i,f) (bF b c (g,h,i,f))).snd.snd.snd.snd=
 yS j k m c d g h i b o f∧
 e=e∧
 (rT d c (g,h,i,f) (bF b c (g,h,i,f))).snd.snd.snd.fst.snd.snd.snd=
 yJ j k m c d g h i b o f∧
 (rT d c (g,h,i,f) (bF b c (g,h,i,f))).snd.snd.snd.fst.fst=
 zj j k m c d g h i b o f∧
 (rT d c (g,h,i,f) (bF b c (g,h,i,f))).snd.snd.snd.fst.snd.fst=
 zn j k m c d g h i b o f∧
 (rT d c (g,h,i,f)
 (bF b c (g,h,i,f))).snd.snd.snd.fst.snd.snd.fst=
 z7 j k m c d g h i b o f∧
 (rT d c (g,h,i,f) (bF b c (g,h,i,f))).fst=
 (rC b j k m o c d (g,h,i,f)).fst∧
 [] =(rC b j k m o c d (g,h,i,f)).snd.fst
 else
 True∧
 a=a∧
 b=b∧
 c=(rC b j k m o c d (g,h,i,f)).snd.snd.fst∧
 mU b c d=yS j k m c d g h i b o f∧
 e=e∧
 (g,h,i,f).snd.snd.snd=yJ j k m c d g h i b o f∧
 (g,h,i,f).fst=zj j k m c d g h i b o f∧
 (g,h,i,f).snd.fst=zn j k m c d g h i b o f∧
 (g,h,i,f).snd.snd.fst=z7 j k m c d g h i b o f∧
 mU b c d=(rC b j k m o c d (g,h,i,f)).fst∧
 [] =(rC b j k m o c d (g,h,i,f)).snd.fst
def Od:af:=aj WD 39 (ap aqI)
abbrev jS (a:LD):Int:=
 (bJ (ab a)).snd.snd
abbrev GZ (a:Int)(b:LD):Int:=
 ((b.getD a.toNat []).getD 2 (.int 0)).toInt
abbrev vT (a:Int)(b:LD):Int:=
 ((b.getD a.toNat []).getD 0 (.int 0)).toInt
abbrev p8 (a b c d e f:Int)(g h i:LD):Tr:=
 rC g (vT a h) ((h.getD a.toNat []).getD 1 (.int 0)).toInt
 (GZ a h) ((h.getD a.toNat []).getD 3 (.int 0)).toSl b c (d,e,f,i)
abbrev mR:List CSh:=
 [.int .i64,.sl [.int .u8]]
abbrev I3 (a b c d e f g:Int)(h i j k m o:LD):Prop:=
 Miss 2 eS
abbrev JJ (a:Int)(b c:LD):Prop:=
 ∀ (d e:Int) (f g:LD) (h:Int) (i:LD) (j k:Int) (m o:LD) (p q r:Int) (s:LD),
 lM f→
 lM g→
 lM i→
 lM m→
 lM o→
 lM s→
 0≤d∧
 d≤dE b∧
 g=b∧
 h=1∧
 i=bj c∧
 (s,j,(p,q,r,o),k)=
 pH (bj c) b (cw c) d.toNat∧
 a=1∧jS c=0→
 lM g→
 bif decide (d<dE g) then
 bR d g∧
 d.toNat<g.length∧
 (h=1∧
 bW ((g.getD d.toNat []).getD 3 (.int 0)).toSl∧
 0≤GZ d g∧
 GZ d g≤1000∧
 d9 i j (p,q,r,o)∧j≤dE i)∧
 aR (s.length+1) 32∧
 iR (d+1)∧
 (0≤d+1∧
 d+1≤dE b∧
 g=b∧
 h=1∧
 i=bj c∧
 (s++
 [[.int (p8 d j k p q r i g o).fst,
 .sl (p8 d j k p q r i g o).snd.fst]],
 (p8 d j k p q r i g o).snd.snd.fst,
 ((p8 d j k p q r i g o).snd.snd.snd.fst.fst,
 (p8 d j k p q r i g o).snd.snd.snd.fst.snd.fst,
 (p8 d j k p q r i g o).snd.snd.snd.fst.snd.snd.fst,
 (p8 d j k p q r i g o).snd.snd.snd.fst.snd.snd.snd),
 (p8 d j k p q r i g o).snd.snd.snd.snd)=
 pH (bj c) b (cw c)
 (d+1).toNat∧
 a=1∧jS c=0)∧
 (dE g-(d+1)).toNat<(dE g-d).toNat
 else
 bif decide (a=1) then
 bif decide (jS c=0) then
 (-1:Int)=(-1:Int)∧
 (0:Int)=0∧
 s=(pH (bj c) b (cw c) b.length).fst
 else I3 e h j k p q r f g i m o s
 else I3 e h j k p q r f g i m o s
abbrev uw (a:LD):Int:=
 (bJ (ab a)).snd.fst
abbrev acf:List SV:=
 [.dead,.dead,.dead,.dead,.dead,.dead,.dead,.dead,.dead,.dead,.dead,
 .dead,.dead,.dead,.dead]
def P14:Prop:=
 ∀ (a:Int) (b c:LD),
 lM b→
 lM c→
 a≠2∧bk b∧b.length≤1000∧Al c→
 bif decide (a=2) then False
 else
 (a≠2∧bk b∧b.length≤1000)∧
 bif decide (a=1) then
 bif decide (jS b=0) then
 (((0:Int)≤0∧
 0≤dE c∧
 c=c∧
 (1:Int)=1∧
 bj b=bj b∧
 ([],0,
 ((mK b).fst,(mK b).snd.fst,
 (mK b).snd.snd.fst,(mK b).snd.snd.snd),
 (0:Int))=
 pH (bj b) c (cw b) (0:Nat)∧
 a=1∧jS b=0)∧
 True)∧
 JJ a c b
 else
 bif decide (jS b≠0) then
 bif decide (a=1) then
 bif decide (jS b=0) then
 uw b=(-1:Int)∧
 jS b=0∧
 [] =(pH (bj b) c (cw b) c.length).fst
 else
 uw b=uw b∧
 jS b=jS b
 else uw b=(-1:Int)∧jS b=15
 else
 Miss 0 eS ∧
 JJ a c b
 else
 bif decide (a=1) then
 bif decide (jS b=0) then
 (-1:Int)=(-1:Int)∧
 (15:Int)=0∧
 [] =(pH (bj b) c (cw b) c.length).fst
 else (-1:Int)=uw b∧15=jS b
 else (-1:Int)=(-1:Int)∧(15:Int)=15
theorem e14:IW Od Tryz.f14 agi TW=P14:=by kernel_rfl
def VV:af:=aj Od 14 (ap agi)
abbrev qX (a:Int)(b c:LD):Prop:=
 (!decide (vT a b≠vT a c))=true
abbrev H7 (a:Int)(b:LD):List UInt8:=
 ab ((b.getD a.toNat []).getD 1 (.int 0)).toSl
def P15:Prop:=
 ∀ (a b:LD),
 lM a→
 lM b→
 a=b→
 lM a→
 lM b→
 bif decide (dE a≠dE b) then false=true
 else
 lM a→
 ((a=a∧
 b=a∧
 dE a=dE a∧
 (0:Int)≤0∧0≤dE a)∧
 True)∧
 ∀ (c d:LD) (e f:Int),
 lM c→
 lM d→
 c=a∧d=a∧e=dE a∧0≤f∧f≤e→
 bif decide (f<e) then
 bR f c∧
 f.toNat<c.length∧
 f.toNat<c.length∧
 bR f d∧
 f.toNat<d.length∧
 f.toNat<d.length∧
 (qX f c d→bR f c)∧
 (qX f c d→f.toNat<c.length)∧
 (qX f c d→f.toNat<c.length)∧
 (qX f c d→bR f d)∧
 (qX f c d→f.toNat<d.length)∧
 (qX f c d→f.toNat<d.length)∧
 bif
 decide (vT f c≠vT f d) ||
 decide (H7 f c≠H7 f d) then
 false=true
 else
 iR (f+1)∧
 (c=a∧d=a∧e=dE a∧0≤f+1∧f+1≤e)∧
 (e-(f+1)).toNat<(e-f).toNat
 else true=true
def U0:af:=aj VV 15 (tc (ap arZ))
abbrev J6 (a:LD):Prop:=
 (!(decide ((0:Int)≠0)||decide ((bf a).snd.fst=2)))=true
abbrev ku (a:LD):LD:=
 (bf a).snd.snd.snd
abbrev re (a:LD):Blk:=
 .own (84:TypeId) (.int .i64::.int .i64::mR)
 (ku a)
abbrev iM (a:LD):LD:=
 (bf a).snd.snd.fst
abbrev qA (a:LD):Blk:=
 .cells (26:Nat)
 [.int .i64 (bf a).snd.fst,.rd [.int .u8] (iM a),
 .own (0:Nat)]
abbrev Dc (a:LD):Blk:=
 .own (94:TypeId) (.int .i64::.int .i64::mR)
 (ku a)
abbrev w6 (a:LD):Blk:=
 .cells (32:Nat)
 [.int .i64 (bf a).snd.fst,.rd [.int .u8] (iM a),
 .own (2:Nat)]
abbrev uM (a:LD):Prop:=
 gL
 [re a,qA a,Dc a,
 w6 a]
 (cH (co [] 4) [] [])
abbrev H5 (a:LD):Bool:=
 decide ((0:Int)≠0)||decide ((bf a).snd.fst=2) ||
 (nY (ku a) 300 60 (ku a).length ||
 decide ((12:Int)<(↑(ku a).length:Int)) ||
 decide ((1000:Int)<(↑(iM a).length:Int)))
abbrev tL (a:LD):Bool:=
 decide ((bf a).snd.fst=1)
abbrev ik (a:LD):Int:=
 (bJ (ab (iM a))).snd.snd
abbrev pg (a:LD):Bool:=
 decide (ik a=0)
abbrev CY (a:LD):Prop:=
 (bf a).snd.fst≠2∧
 bk (iM a)∧
 (iM a).length≤1000∧Al (ku a)
abbrev j9 (a:LD):LD:=
 (pH (bj (iM a)) (ku a)
 (cw (iM a)) (ku a).length).fst
abbrev gh (a:LD):Int:=
 (bJ (ab (iM a))).snd.fst
abbrev JY (a:LD):Prop:=
 j9 a= [] ∧
 gL
 [re a,qA a,Dc a,
 w6 a,.own (86:TypeId) mR (j9 a)]
 (cH (co [] 5) [] [])
abbrev Kf (a:LD):Prop:=
 [] =j9 a∧
 gL
 [re a,qA a,.none,w6 a,
 .own (113:TypeId) mR (j9 a)]
 (cH (co [] 5) [] [])
abbrev DN (a:LD):Prop:=
 gL
 [re a,qA a,
 .cells (32:Nat) [.int .i64 (0:Int),.nils,.nils]]
 (cH (co [] (3:Nat)) [] [])
abbrev JI (a:LD):Bool:=
 decide ((bf a).fst≠0)||decide ((0:Int)=2) ||
 (nY [] 300 60 0||decide ((12:Int)<(↑(0:Nat):Int))||decide ((1000:Int)<(↑(0:Nat):Int)))
abbrev Cf:Prop:=
 (0:Int)≠2∧bk [] ∧0≤1000∧Al []
def P3:Prop:=
 ∀ (a:LD),
 lM a→
 bP a→
 True∧
 (((bw false !true)=true→lM a)→
 bif !true||decide ((2000:Int)<dE a) then True∧true=true
 else
 (bP a∧a.length≤100000)∧
 bif decide ((bf a).fst=0) then
 (bP a∧a.length≤100000)∧
 bif decide ((bf a).fst=0) then
 (J6 a→True∧uM a)∧
 bif H5 a then true=true
 else
 ((bf a).snd.fst≠2∧
 bk (iM a)∧
 Al (ku a))∧
 bif tL a then
 bif pg a then
 CY a∧
 bif tL a then
 bif pg a then
 ((decide ((0:Int)=0)&&decide ((-1:Int)=(-1:Int)))=true→
 j9 a=j9 a∧
 gL
 [re a,qA a,.none,
 w6 a,
 .own (86:TypeId) mR (j9 a),
 .own (113:TypeId) mR (j9 a)]
 (cH (co [] (6:Nat)) [] []))∧
 (decide ((0:Int)=0)&&decide ((-1:Int)=(-1:Int))&&true)=true
 else
 ((decide (0=ik a)&&decide ((-1:Int)=gh a))=
 true→
 JY a)∧
 (decide (0=ik a)&&decide ((-1:Int)=gh a) &&
 true)=
 true
 else
 ((decide ((0:Int)=15)&&decide ((-1:Int)=(-1:Int)))=true→JY a)∧
 (decide ((0:Int)=15)&&decide ((-1:Int)=(-1:Int))&&true)=true
 else
 CY a∧
 bif tL a then
 bif pg a then
 ((pg a&&decide (gh a=(-1:Int)))=true→
 Kf a)∧
 (pg a&&decide (gh a=(-1:Int))&&true)=true
 else
 ((decide (ik a=ik a) &&
 decide (gh a=gh a))=
 true→
 ([] :LD)= [] ∧uM a)∧
 (decide (ik a=ik a) &&
 decide (gh a=gh a) &&
 true)=
 true
 else
 ((decide (ik a=15)&&decide (gh a=(-1:Int)))=
 true→
 ([] :LD)= [] ∧uM a)∧
 (decide (ik a=15)&&decide (gh a=(-1:Int)) &&
 true)=
 true
 else
 CY a∧
 bif tL a then
 bif pg a then
 ((decide ((15:Int)=0)&&decide ((-1:Int)=(-1:Int)))=true→Kf a)∧
 (decide ((15:Int)=0)&&decide ((-1:Int)=(-1:Int))&&true)=true
 else
 ((decide (15=ik a)&&decide ((-1:Int)=gh a))=
 true→
 ([] :LD)= [] ∧uM a)∧
 (decide (15=ik a)&&decide ((-1:Int)=gh a) &&
 true)=
 true
 else
 ((decide ((15:Int)=15)&&decide ((-1:Int)=(-1:Int)))=true→([] :LD)= [] ∧uM a)∧
 (decide ((15:Int)=15)&&decide ((-1:Int)=(-1:Int))&&true)=true
 else
 bif decide (0≠(bf a).fst) then false=true
 else
 ((!(decide ((bf a).fst≠0)||decide ((0:Int)=2)))=true→
 True∧DN a)∧
 bif JI a then true=true
 else
 ((bf a).snd.fst≠2∧
 bk (iM a)∧
 Al (ku a))∧
 bif tL a then
 bif pg a then
 Cf∧
 ((decide ((0:Int)=15)&&decide ((-1:Int)=(-1:Int)))=true→
 j9 a= [] ∧
 gL
 [re a,qA a,
 .cells (32:Nat) [.int .i64 (0:Int),.nils,.nils],
 .own (86:TypeId) mR (j9 a)]
 (cH (co [] (4:Nat)) [] []))∧
 (decide ((0:Int)=15)&&decide ((-1:Int)=(-1:Int))&&true)=true
 else
 Cf∧
 ((decide (ik a=15)&&decide (gh a=(-1:Int)))=
 true→
 ([] :LD)= [] ∧DN a)∧
 (decide (ik a=15)&&decide (gh a=(-1:Int)) &&
 true)=
 true
 else
 Cf∧
 ((decide ((15:Int)=15)&&decide ((-1:Int)=(-1:Int)))=true→([] :LD)= [] ∧DN a)∧
 (decide ((15:Int)=15)&&decide ((-1:Int)=(-1:Int))&&true)=true
 else
 (bP a∧a.length≤100000)∧
 bif decide ((bf a).fst=0) then
 bif decide ((bf a).fst≠0) then false=true
 else
 (J6 a→
 True∧
 gL
 [.cells (26:Nat) [.int .i64 (0:Int),.nils,.nils],Dc a,
 .cells (32:Nat)
 [.int .i64 (bf a).snd.fst,
 .rd [.int .u8] (iM a),.own (1:Nat)]]
 (cH (co [] (3:Nat)) [] []))∧
 bif H5 a then true=true else False
 else
 bif decide ((bf a).fst≠(bf a).fst) then false=true
 else
 ((!(decide ((bf a).fst≠0)||decide ((0:Int)=2)))=true→
 True∧
 gL
 [.cells (26:Nat) [.int .i64 (0:Int),.nils,.nils],
 .cells (32:Nat) [.int .i64 (0:Int),.nils,.nils]]
 (cH (co [] (2:Nat)) [] []))∧
 bif JI a then true=true else False)
theorem e3:IW U0 Tryz.f3 ct3 am=P3:=by kernel_rfl
theorem yW (it:LD) (kd t n:Int) (d:LD) (p e:Int) (x:Sp):rC it kd t n d p e x=rT e p x (bu it kd t n d p x):=ak _
theorem BF (it:LD) (n p e:Int) (x:Sp):yE it n p e x=rT e p x (aE it n p x):=ak _
theorem acg {e p:Int} {x:Sp} {r:Tr} (h:r.2.1= []): [] =(rT e p x r).2.1:=by
 by_cases he:e≠0
 ·rw [tA he]
 ·rw [oH he,h]
theorem arU (it:LD) (t n:Int) (d:LD) (p e:Int) (x:Sp):rC it 2 t n d p e x=((yE it n p e x).1,gK (yE it n p e x).2.1,(yE it n p e x).2.2):=by
 rw [yW,BF]
 by_cases he:e≠0
 ·rw [tA he,tA he];rfl
 ·rw [oH he,oH he,bu,ak,if_neg (by decide),if_neg (by decide),if_pos rfl]
theorem R0 {it:LD} {n p e:Int} {x:Sp} (h0:0≤n) (hq:bT 700000000 x):((yE it n p e x).2.1.length:Int)≤n∧∀ r∈(yE it n p e x).2.1,∃ w:List Int,w.length=4∧aq w∧r=b8 w:=by
 rw [BF]
 by_cases he:e≠0
 ·rw [tA he]
  exact ⟨h0,fun r h=>absurd h (by simp)⟩
 ·rw [oH he]
  exact (QT h0 hq).2.2
theorem aqg {a:LD} (ha:fS a) (hl:a.length≤8):(dv a:Int)=rv a 0+4294967296*rv a 1+4294967296 ^ 2*rv a 2+4294967296 ^ 3*rv a 3+4294967296 ^ 4*rv a 4+4294967296 ^ 5*rv a 5+4294967296 ^ 6*rv a 6+4294967296 ^ 7*rv a 7:=by
 have hn:=kv a
 simp only [pS ha]
 unfold dv
 generalize dI a=L at *
 match L,(show L.length≤8 by omega) with
 | [],_=>rfl
 | [a],_=>simp [cn]
 | [a,b],_=>simp [cn]
 | [a,b,c],_=>simp [cn];omega
 | [a,b,c,d],_=>simp [cn];omega
 | [a,b,c,d,e],_=>simp [cn];omega
 | [a,b,c,d,e,f],_=>simp [cn];omega
 | [a,b,c,d,e,f,g],_=>simp [cn];omega
 | [a,b,c,d,e,f,g,h],_=>simp [cn];omega
theorem X1 {a:LD} (ha:fS a) (hl:a.length≤8):vl (iN a 4)=dv a:=by
 rw [aqg ha hl]
 show vl [rv a 0+rv a 1*4294967296,rv a 2+rv a 3*4294967296,rv a 4+rv a 5*4294967296,rv a 6+rv a 7*4294967296] =_
 rw [tW]
 omega
theorem QU {w:List Int} (h:w.length=4) (hw:aq w):cb (be (vl (lp w)).toNat)∧iN (be (vl (lp w)).toNat) 4=lp w:=by
 obtain ⟨q,_,k1,k2⟩:=Pb h hw
 obtain ⟨N,hN⟩:=aB k1
 rw [hN,ax]
 have e:(21888242871839275222246405745257275088548364400416034343698204186575808495617:Int)=(fx:Nat):=rfl
 have hlt:N<fx:=by rw [hN,e] at k2;omega
 have h8:(be N).length≤8:=D8 (Nat.lt_of_lt_of_le hlt (by decide))
 have hd:=zg N
 refine ⟨⟨hd,by omega⟩,QL (AH _ 4) (LX w) (Jl hd 4) (Oq hw) ?_⟩
 rw [X1 hd h8,cM,hN]
theorem adv {v:LD} {i:Nat} (h:i<v.length) {w:List Int} (hw:w.length=4) (hv:v[i] =b8 w):(((jd v).getD i []).getD 0 (CD.int 0)).toSl=be (vl (lp w)).toNat:=by
 have e:(jd v).getD i [] =ym (b8 w):=by
  rw [jd,ak,aw (l:=List.map _ _),eW,cJ h,hv]
  rfl
 rw [e,ym,Uf hw]
 generalize be (vl (lp w)).toNat=X
 rfl
theorem Xp (v:LD):(jd v).length=v.length:=by rw [jd,ak,bA]
theorem Sy {v:LD} {i:Nat} (h:i<v.length) {w:List Int} (hw:w.length=4) (hww:aq w) (hv:v[i] =b8 w):gK (v.take i)++(b9 (gI (iN (be (vl (lp w)).toNat) 4)) 4).map ae=gK (v.take (i+1)):=by
 rw [(QU hw hww).2,List.take_add_one,Br,cJ h,hv]
 congr 1
set_option maxHeartbeats 1000000 in
theorem arc:P39:=by
 delta P39 lM iR aR bR dE yS yJ zj zn z7
 rintro k it p e tg s a b c kd t n d _ _ _ _ ⟨hk,hd,h0,h1,hq,hpl⟩
 refine aa (fun g=> ?_) fun g=>aa (fun g1=> ?_) fun g1=>aa (fun g2=> ?_) fun g2=>aa (fun g3=> ?_) fun g3=> ?_
 ·have hs:bu it kd t n d p (a,b,c,s)=bc it t d p (a,b,c,s):=by rw [bu,ak,if_pos (av g)]
  rw [yW,hs]
  exact ⟨⟨hk,hd,hq⟩,rfl,rfl,rfl,rfl,rfl,rfl,rfl,rfl,rfl,rfl,acg (O5 it t d p (a,b,c,s))⟩
 ·have hs:bu it kd t n d p (a,b,c,s)=bd it n p (a,b,c,s):=by rw [bu,ak,if_neg (au g),if_pos (av g1)]
  rw [yW,hs]
  exact ⟨⟨hk,h0,h1,hq⟩,rfl,rfl,rfl,rfl,rfl,rfl,rfl,rfl,rfl,rfl,rfl⟩
 ·obtain rfl:kd=2:=av g2
  have hr:=R0 (it:=it) (n:=n) (p:=p) (e:=e) (x:=(a,b,c,s)) h0 hq.2
  rw [arU]
  refine ⟨⟨hk,h0,h1,hq⟩,⟨⟨by omega,by omega,rfl,rfl,rfl,rfl,(yE it n p e (a,b,c,s)).2.1,by rw [BF],rfl,by rw [BF]⟩,trivial⟩,?_⟩
  rintro w l' i k' it' p' e' tg' s' a' b' c' o _ _ _ _ _ ⟨g0,gi,rfl,rfl,rfl,_,v,rfl,rfl,hv⟩ _
  rw [← hv] at hr ⊢
  obtain ⟨hr1,hr2⟩:=hr
  obtain ⟨i,rfl⟩:=aB g0
  rw [Xp] at gi ⊢
  rw [ax]
  have hr1:(v.length:Int)≤n:=hr1
  refine aa (fun h=> ?_) fun h=> ?_
  ·have h:(i:Int)<v.length:=av h
   have hi:i<v.length:=by omega
   obtain ⟨u,hu4,huw,hu⟩:=hr2 v[i] (List.getElem_mem hi)
   rw [adv hi hu4 hu,AP,List.length_take]
   refine ⟨⟨g0,h⟩,hi,(QU hu4 huw).1,⟨by omega,by omega⟩,⟨by omega,by omega⟩,⟨by omega,by omega,rfl,rfl,rfl,rfl,v,rfl,?_,rfl⟩,by omega⟩
   rw [show ((i:Int)+1).toNat=i+1 from by omega]
   exact Sy hi hu4 huw hu
  ·have h:¬ (i:Int)<v.length:=au h
   exact ⟨rfl,rfl,rfl,rfl,rfl,rfl,rfl,rfl,rfl,rfl,by rw [List.take_of_length_le (by omega)]⟩
 ·have hs:bu it kd t n d p (a,b,c,s)=bF it p (a,b,c,s):=by rw [bu,ak,if_neg (au g),if_neg (au g1),if_neg (au g2),if_pos (av g3)]
  rw [yW,hs]
  exact ⟨⟨hk,hq⟩,rfl,rfl,rfl,rfl,rfl,rfl,rfl,rfl,rfl,rfl,acg (Qo it p (a,b,c,s))⟩
 ·have hs:bu it kd t n d p (a,b,c,s)=n9 it p (a,b,c,s):=by rw [bu,ak,if_neg (au g),if_neg (au g1),if_neg (au g2),if_neg (au g3)]
  rw [yW,hs]
  by_cases he:e≠0
  ·rw [tA he,show mU it p e=e from if_neg fun h=>he h.1]
   exact ⟨trivial,rfl,rfl,rfl,rfl,rfl,rfl,rfl,rfl,rfl,rfl,rfl⟩
  ·rw [oH he]
   have he:=Decidable.not_not.mp he
   by_cases hp:p=it.length
   ·rw [show n9 it p (a,b,c,s)=(0,[],p,(a,b,c,s),0) from by rw [n9,ak,if_pos hp],show mU it p e=e from if_neg fun h=>by omega,he]
    exact ⟨trivial,rfl,rfl,rfl,rfl,rfl,rfl,rfl,rfl,rfl,rfl,rfl⟩
   ·rw [show n9 it p (a,b,c,s)=(12,[],p,(a,b,c,s),12) from by rw [n9,ak,if_neg hp],show mU it p e=12 from if_pos ⟨he,by omega⟩]
    exact ⟨trivial,rfl,rfl,rfl,rfl,rfl,rfl,rfl,rfl,rfl,rfl,rfl⟩
theorem Z7:(base.with Od).Ok:=ac aae (ai ahu aae Tryz.func39 (by kernel_rfl) Tryz.call39 (by kernel_rfl) arc)
theorem CH {it:LD} {p k t n:Int} (h:¬ ci it p k t n=false):p<it.length:=(EV.1 (by simpa using h)).1
theorem aav {it d:LD} {k t n p:Int} {x:Sp} (hp:p≤it.length):(bu it k t n d p x).2.2.1≤it.length:=by
 rw [bu,ak]
 split
 ·rw [bc,ak]
  split
  ·exact hp
  ·split
   ·exact hp
   ·next h=>
    have:=CH h
    split <;>(show p+1≤_;omega)
 ·split
  ·rw [bd,ak]
   split
   ·exact hp
   ·next h=>have:=CH h;show p+1≤_;omega
  ·split
   ·rw [aE,ak]
    split
    ·exact hp
    ·next h=>
     have:=CH h
     split <;>(show p+1≤_;omega)
   ·split
    ·rw [bF,ak]
     split
     ·exact hp
     ·next h=>have:=CH h;show p+1≤_;omega
    ·rw [n9,ak]
     split <;>exact hp
theorem Mp (it l:LD) (x:Sp):∀ i,(pG it l x i).2.1≤it.length
 | 0=>by show (0:Int)≤_;omega
 | i+1=>by
  rw [pG]
  split
  ·exact aav (Mp it l x i)
  ·exact Mp it l x i
theorem aq5 {it l o:LD} {x y:Sp} {i:Nat} {q e:Int} (h:(o,q,y,e)=pG it l x i):pG it l x (i+1)=(o++ [[.int (rC it (cC l i 0) (cC l i 1) (cC l i 2) (cD l i) q e y).1,.sl (rC it (cC l i 0) (cC l i 1) (cC l i 2) (cD l i) q e y).2.1]],(rC it (cC l i 0) (cC l i 1) (cC l i 2) (cD l i) q e y).2.2):=by
 rw [yW]
 by_cases he:e≠0
 ·rw [tA he];exact afc h he
 ·obtain rfl:e=0:=Decidable.not_not.mp he
  rw [oH he];exact R1 h
theorem XN (p:LD):mK p=cw p:=ak _
set_option maxHeartbeats 1000000 in
theorem apw:P14:=by
 delta P14 lM iR aR bR dE jS GZ vT p8 mR I3 JJ uw acf
 rintro k p l _ _ ⟨hk,hp,hpl,hok⟩
 refine aa (fun g=>dJ hk g) fun _=>⟨⟨hk,hp,hpl⟩,aa (fun g=> ?_) fun g=>aa (fun e=>cN e g) fun _=>⟨rfl,rfl⟩⟩
 refine aa (fun h=> ?_) fun h=>aa (fun _=>aa (fun _=>aa (fun e=>cN e h) fun _=>⟨rfl,rfl⟩) fun e=>cN g e) fun e=>absurd (au h) (au e)
 have g':=av g
 have h':=av h
 refine ⟨⟨⟨by omega,by omega,rfl,rfl,rfl,by rw [XN,lU];rfl,g',h'⟩,trivial⟩,?_⟩
 rintro i k' p' l' k2 it q e tg s a b c o _ _ _ _ _ _ ⟨g0,g1,rfl,rfl,rfl,he,_,_⟩ _
 obtain ⟨i,rfl⟩:=aB g0
 rw [ax,lU] at he
 rw [ax]
 have hg:=Hg (it:=bj p) hok (IA p) i (by omega)
 have ha:=Mp (bj p) l' (cw p) i
 have hc:=aq5 he
 rw [← he] at hg ha
 obtain ⟨k1,k2,k3,k4⟩:=hg
 have k2:0≤q:=k2
 have k3:q≤i:=k3
 have k4:o.length=i:=k4
 have hl:=hok.1
 refine aa (fun w=> ?_) fun w=> ?_
 ·have w:(i:Int)<l'.length:=av w
  obtain ⟨m1,m2,m3⟩:=hok.2 i (by omega)
  refine ⟨⟨g0,w⟩,by omega,⟨rfl,m1,m2,m3,⟨⟨k2,by omega⟩,aF (by omega) k1⟩,ha⟩,⟨by omega,by omega⟩,⟨by omega,by omega⟩,⟨by omega,by omega,rfl,rfl,rfl,?_,g',h'⟩,by omega⟩
  rw [show ((i:Int)+1).toNat=i+1 from by omega,lU,hc]
  rfl
 ·have w:¬ (i:Int)<l'.length:=au w
  rw [lU,show l'.length=i from by omega,← he]
  exact aa (fun _=>aa (fun _=>⟨rfl,rfl,rfl⟩) fun e=>cN h e) fun e=>cN g e
theorem aau:(base.with VV).Ok:=ac Z7 (ai TW Z7 Tryz.func14 (by kernel_rfl) Tryz.call14 (by kernel_rfl) apw)
theorem apV:P15:=by
 delta P15 lM iR bR dE vT qX H7
 rintro l _ _ _ rfl _ _
 refine aa (fun e=>absurd rfl (av e)) fun _ _=>⟨⟨⟨rfl,rfl,rfl,by omega,by omega⟩,trivial⟩,?_⟩
 rintro l1 l2 n i _ _ ⟨rfl,rfl,rfl,g0,g1⟩
 refine aa (fun h=> ?_) fun _=>rfl
 have h:=av h
 refine ⟨⟨g0,h⟩,by omega,by omega,⟨g0,h⟩,by omega,by omega,fun _=>⟨g0,h⟩,fun _=>by omega,fun _=>by omega,fun _=>⟨g0,h⟩,fun _=>by omega,fun _=>by omega,aa (fun e=> ?_) fun _=>⟨⟨by omega,by omega⟩,⟨rfl,rfl,rfl,by omega,by omega⟩,by omega⟩⟩
 simp only [ne_eq,not_true_eq_false,decide_false,Bool.or_self] at e
 cases e
theorem ar2:(base.with U0).Ok:=ac aau (yQ (ai amw aau Tryz.func15 (by kernel_rfl) Tryz.call15 (by kernel_rfl) apV))
def Ba (r:List CD):Prop:=∃ (k t n:Int) (d:LD),r= [.int k,.int t,.int n,.sl d] ∧bP d∧0≤n
theorem Jo {l:LD} (h:bP l) (n:Nat):bP (l.take n):=mC.mpr fun r hr=>mC.mp h r (List.mem_of_mem_take hr)
theorem Bg {cs:LD} (hc:∀ x∈cs,Ba x) {k t n:Int} {d:LD} (hd:bP d) (hn:0≤n):∀ x∈cs++ [[.int k,.int t,.int n,.sl d]],Ba x:=fun x hx=>
 (List.mem_append.mp hx).elim (hc x) fun h=>⟨k,t,n,d,List.mem_singleton.mp h,hd,hn⟩
theorem uY:∀ (f:Nat) (r cs:LD),bP r→(∀ x∈cs,Ba x)→∀ x∈(eK f r cs).2,Ba x
 | 0,r,cs,hr,hc=>hc
 | f+1,r,cs,hr,hc=>by
  have no:∀ x∈([] :LD),Ba x:=fun x h=>absurd h (by simp)
  rw [eK]
  split
  ·exact hc
  ·split
   ·exact no
   ·split
    ·split
     ·exact no
     ·exact uY f _ _ (eF hr _) (Bg hc (Jo (eF hr 4) _) (by omega))
    ·split
     ·split
      ·exact no
      ·exact uY f _ _ (eF hr _) (Bg hc rfl (by omega))
     ·split
      ·exact uY f _ _ (eF hr _) (Bg hc rfl (by omega))
      ·exact no
theorem acs {l:LD} (hB:bP l):bP (bf l).2.2.1∧∀ x∈(bf l).2.2.2,Ba x:=by
 have no:∀ x∈([] :LD),Ba x:=fun x h=>absurd h (by simp)
 rw [bf,ak]
 split
 ·exact ⟨rfl,no⟩
 ·split
  ·exact ⟨Jo (eF hB 3) _,uY _ _ _ (eF hB _) no⟩
  ·exact ⟨rfl,no⟩
theorem QR {l:LD} {n m:Int} :∀ {k:Nat},nY l n m k=false→∀ j,j<k→¬ n<(cD l j).length∧¬ m<cC l j 2
 | 0,_,j,hj=>absurd hj (by omega)
 | k+1,h,j,hj=>by
  simp only [nY,Bool.or_eq_false_iff,aT] at h
  obtain ⟨⟨h1,h2⟩,h3⟩:=h
  by_cases e:j=k
  ·rw [e];exact ⟨h2,h3⟩
  ·exact QR h1 j (by omega)
theorem vc3:P3:=by
 delta P3 lM dE mR J6 ku re iM qA Dc w6 uM H5 tL ik pg CY j9 gh JY Kf DN JI Cf
 intro l _ hB
 refine ⟨trivial,fun _=>aa (fun _=>⟨trivial,rfl⟩) fun e=> ?_⟩
 simp only [Bool.not_true,Bool.false_or] at e
 have e:=au e
 have hl:bP l∧l.length≤100000:=⟨hB,by omega⟩
 have hc:=acs hB
 refine ⟨hl,aa (fun h=>⟨hl,aa (fun _=>⟨fun _=>⟨trivial,trivial⟩,aa (fun _=>rfl) fun g=> ?_⟩) fun e=>cN h e⟩) fun h=>⟨hl,aa (fun e=>cN e h) fun _=>aa (fun e=>absurd rfl (av e)) fun _=>⟨fun _=>⟨trivial,trivial⟩,aa (fun _=>rfl) fun g=> ?_⟩⟩⟩
 ·generalize bf l=D at *
  obtain ⟨d1,kk,pp,cc⟩:=D
  simp only [Bool.or_eq_false_iff,aT] at g
  obtain ⟨⟨_,hk⟩,⟨hlg,h12⟩,hpl⟩:=g
  obtain ⟨hp,hr⟩:=hc
  have hpl:pp.length≤1000:=by omega
  have hp:bk pp:=⟨hp,by omega⟩
  have hok:Al cc:=⟨by omega,fun i hi=>by
   obtain ⟨a1,a2⟩:=QR hlg i hi
   obtain ⟨k,t,n,d,hrow,hd,hn⟩:=hr cc[i] (List.getElem_mem hi)
   have hg:=Hf hi
   have e1:cD cc i=d:=by unfold cD;rw [hg,hrow];rfl
   have e2:cC cc i 2=n:=by unfold cC;rw [hg,hrow];rfl
   rw [e1] at a1 ⊢
   rw [e2] at a2 ⊢
   exact ⟨⟨hd,by omega⟩,hn,by omega⟩⟩
  refine ⟨⟨hk,hp,hok⟩,aa (fun k1=>aa (fun e0=>⟨⟨hk,hp,hpl,hok⟩,aa (fun _=>aa (fun _=>⟨fun _=>⟨rfl,trivial⟩,rfl⟩) fun e=>cN e0 e) fun e=>cN k1 e⟩) fun e0=>⟨⟨hk,hp,hpl,hok⟩,aa (fun _=>aa (fun e=>cN e e0) fun _=>⟨fun _=>⟨rfl,trivial⟩,by simp⟩) fun e=>cN k1 e⟩)
   fun k1=>⟨⟨hk,hp,hpl,hok⟩,aa (fun e=>cN e k1) fun _=>⟨fun _=>⟨rfl,trivial⟩,rfl⟩⟩⟩
 ·rw [decide_eq_true (au h),Bool.true_or,Bool.true_or] at g
  cases g
end
end Go.Proofs.YteiecapbaeajdaaGreatDoor
