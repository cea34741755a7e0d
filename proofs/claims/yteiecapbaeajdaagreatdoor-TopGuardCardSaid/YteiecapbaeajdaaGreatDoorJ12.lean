/-
 Conditions of contracts, as the kernel reckons them (printed by a program of ours, checked by the kernel).
-/
import Derived.Test.YteiecapbaeajdaaGreatDoorJ11
import Derived.Test.YteiecapbaeajdaaGreatDoorJ5
open Bool renaming and_eq_false_iff→atd,or_eq_false_iff→ate,not_eq_true'→atf
open List renaming mem_of_mem_take→asx,getElem_mem→atg
open Int renaming le_refl→asw
namespace Go.Proofs.YteiecapbaeajdaaGreatDoor
open Go Go.Avc Go.Proofs
set_option linter.unusedVariables false
set_option maxRecDepth 100000
noncomputable section
abbrev bu (a:List Int):Prop:=
 a.length=32
def Y9:Prop:=
 ∀ (a:List Int) (b:LD) (c d e f g h i:Int) (j k:List Int) (m:LD),
 bu a→True→True∧(0:Int)=0∧a=a∧b=b∧c=c∧d=d∧e=e∧f=f∧g=g∧h=h∧i=i∧j=j∧k=k∧m=m
abbrev dh (a b c d e f g h:Int)(i j:LD)(k m o:List Int):Prop:=
 a=a∧k=k∧i=i∧b=b∧c=c∧d=d∧e=e∧f=f∧g=g∧h=h∧m=m∧o=o∧j=j∧a=a
def Wy:Prop:=
 ∀ (a:List Int) (b:LD) (c d e f g h i:Int) (j k:List Int) (m:LD) (o:Int),
 bu a→True→True∧dh o c d e f g h i b m a j k
def Og:ac:=ak Jm 25 (eF akN (eF afI (Jm 25)))
abbrev qj:List SV:=
 [.int .i64 0]
abbrev nK (a:List Int):Blk:=
 .cells (128:TypeId)
 [.ptr 1 0,.arrI 32 .u8 a,.iface (137:TypeId) (.agg [.ptr 2 0])]
abbrev i9 (a:LD):SV:=
 .rd [.int .i64,.int .i64,.int .i64,.str] a
abbrev z9 (a:Int)(b:LD):Blk:=
 .cells (185:TypeId) [i9 b,.int .i64 (a+1),.nilp]
abbrev gg:SV:=
 .iface (259:TypeId) (.agg [.ptr 3 0])
abbrev uB (a b c:Int):Blk:=
 .cells (300:TypeId)
 [gg,.own 4,.int .i64 a,.int .i64 b,.int .i64 c]
abbrev u9 (a b c:Int)(d e:List Int):Blk:=
 .cells (318:TypeId)
 [.int .u32 a,.int .i32 b,.int .u32 c,.arrI 780 .u64 d,
 .arrI 36 .u64 e]
abbrev kI:List CSh:=
 [.int .u64,.int .u64,.int .u64,.int .u64]
abbrev rG (a:LD):Blk:=
 .own (76:TypeId) kI a
abbrev rE:List SV:=
 [.int .i64 10]
abbrev pO:List SV:=
 [.ptr 6 0]
abbrev vV (a:Int)(b:LD):Blk:=
 .cells (185:TypeId) (i9 b::.int .i64 a::pO)
abbrev u5:List Blk:=
 [.cells (204:TypeId) rE]
def Xs:Prop:=
 ∀ (a b c:Int) (d:LD) (e:List Int) (f:LD) (g h i j k m o:Int) (p q:List Int) (r:LD),
 lM d→
 bu e→
 az f g→
 az f g∧
 bif cm f g a b c then
 bif cm f g a b c then
 (0:Int)=0∧e=e∧f=f∧g+1=g+1∧h=h∧i=i∧j=j∧k=k∧m=m∧o=o∧p=p∧q=q∧r=r
 else
 Miss 2 eS
 else
 bif cm f g a b c then
 Miss 2 eS
 else (10:Int)=10∧e=e∧f=f∧g=g∧h=h∧i=i∧j=j∧k=k∧m=m∧o=o∧p=p∧q=q∧r=r∧(10:Int)=10
def V1:Prop:=
 ∀ (n n n:Int) (a:LD) (b:List Int) (c:LD) (d e f g h i j:Int) (k m:List Int) (o:LD) (p:Int),
 lM a→
 bu b→
 az c d∧p≠0→
 (az c d∧p≠0)∧dh p d e f g h i j c o b k m
def PD:ac:=ak Og 92 (eF akP (eF ad0 (Og 92)))
abbrev Ba (a:Int)(b:LD):Blk:=
 .cells (185:TypeId) [i9 b,.int .i64 a,.ptr 5 0]
def Yv:Prop:=
 ∀ (a:List Int) (b:LD) (c d e f g h i:Int) (j k:List Int) (m:LD),
 bu a→
 True→
 True∧
 bif decide (c=↑b.length) then
 bif decide (c=↑b.length) then 0=(0:Int)∧a=a∧b=b∧c=c∧d=d∧e=e∧f=f∧g=g∧h=h∧i=i∧j=j∧k=k∧m=m
 else
 Miss 2 eS
 else
 bif decide (c=↑b.length) then
 Miss 2 eS
 else 12=(12:Int)∧a=a∧b=b∧c=c∧d=d∧e=e∧f=f∧g=g∧h=h∧i=i∧j=j∧k=k∧m=m∧(12:Int)=(12:Int)
def WT:Prop:=
 ∀ (a:List Int) (b:LD) (c d e f g h i:Int) (j k:List Int) (m:LD) (o:Int),
 bu a→True→True∧dh o c d e f g h i b m a j k
def Oy:ac:=ak PD 27 (eF abC (eF ah4 (PD 27)))
abbrev gz (a b c d e f g h:Int)(i j k:LD)(m o:List Int):Int:=
 (dK i a j b (c,d,e,(f,g,h,m,o),k)).snd.snd.snd.snd
abbrev we (a b c d e f g h:Int)(i j k:LD)(m o:List Int):Prop:=
 a=(dK i b j c (a,d,e,(f,g,h,m,o),k)).snd.snd.snd.fst.fst
abbrev jW (a b c d e f g h:Int)(i j k:LD)(m o:List Int):Int:=
 (dK i a j b (c,d,e,(f,g,h,m,o),k)).snd.snd.snd.fst.snd.fst
abbrev jX (a b c d e f g h:Int)(i j k:LD)(m o:List Int):Int:=
 (dK i a j b (c,d,e,(f,g,h,m,o),k)).snd.snd.snd.fst.snd.snd.fst
abbrev kb (a b c d e f g h:Int)(i j k:LD)(m o:List Int):Int:=
 (dK i a j b (c,d,e,(f,g,h,m,o),k)).snd.snd.snd.fst.snd.snd.snd.fst.fst
abbrev j5 (a b c d e f g h:Int)(i j k:LD)(m o:List Int):Int:=
 (dK i a j b (c,d,e,(f,g,h,m,o),k)).snd.snd.snd.fst.snd.snd.snd.fst.snd.fst
abbrev jZ (a b c d e f g h:Int)(i j k:LD)(m o:List Int):Int:=
 (dK i a j b (c,d,e,(f,g,h,m,o),k)).snd.snd.snd.fst.snd.snd.snd.fst.snd.snd.fst
abbrev j2 (a b c d e f g h:Int)(i j k:LD)(m o:List Int):List Int:=
 (dK i a j b (c,d,e,(f,g,h,m,o),k)).snd.snd.snd.fst.snd.snd.snd.fst.snd.snd.snd.fst
abbrev j7 (a b c d e f g h:Int)(i j k:LD)(m o:List Int):List Int:=
 (dK i a j b (c,d,e,(f,g,h,m,o),k)).snd.snd.snd.fst.snd.snd.snd.fst.snd.snd.snd.snd
abbrev ls (a b c d e f g h:Int)(i j k:LD)(m o:List Int):LD:=
 (dK i a j b (c,d,e,(f,g,h,m,o),k)).snd.snd.snd.fst.snd.snd.snd.snd
abbrev FR (a b c d e f g h:Int)(i j k:LD)(m o:List Int):Prop:=
 we a b c d e f g h i j k m o∧
 d=jW b c a d e f g h i j k m o∧
 e=jX b c a d e f g h i j k m o∧
 f=kb b c a d e f g h i j k m o∧
 g=j5 b c a d e f g h i j k m o∧
 h=jZ b c a d e f g h i j k m o∧
 m=j2 b c a d e f g h i j k m o∧
 o=j7 b c a d e f g h i j k m o∧k=ls b c a d e f g h i j k m o
abbrev ZR (a:Int)(b:LD):Blk:=
 .cells (151:Nat)
 [.int .i64 (1:Int),.int .i64 a,.int .i64 (aX a b),
 .rd [.int .u8] b]
abbrev AH (a b c d e f g:Int)(h i:LD)(j k:List Int):Int:=
 (bI 1 a (aX a h) h (b,c,d,(e,f,g,j,k),i)).snd.snd.snd.fst.fst
abbrev Bp (a b c d e f g:Int)(h i:LD)(j k:List Int):Int:=
 (bI 1 a (aX a h) h (b,c,d,(e,f,g,j,k),i)).snd.snd.snd.fst.snd.fst
abbrev A7 (a b c d e f g:Int)(h i:LD)(j k:List Int):Int:=
 (bI 1 a (aX a h) h (b,c,d,(e,f,g,j,k),i)).snd.snd.snd.fst.snd.snd.fst
abbrev Av (a b c d e f g:Int)(h i:LD)(j k:List Int):List Int:=
 (bI 1 a (aX a h) h (b,c,d,(e,f,g,j,k),i)).snd.snd.snd.fst.snd.snd.snd.fst
abbrev Br (a b c d e f g:Int)(h i:LD)(j k:List Int):List Int:=
 (bI 1 a (aX a h) h (b,c,d,(e,f,g,j,k),i)).snd.snd.snd.fst.snd.snd.snd.snd
def Xa:Prop:=
 ∀ (a:Int) (b:LD) (c:List Int) (d:LD) (e f g h i j k:Int) (m o:List Int) (p:LD),
 lM b→
 bu c→
 bX b∧mM d e (f,g,h,(i,j,k,m,o),p)→
 True∧
 b.length≤1000∧
 bif decide (a9 a b≠0) then
 True∧
 bif decide (a9 a b=0) then
 bif decide (gz a e f g h i j k d b p m o=0) then
 0=(dK d a b e (f,g,h,(i,j,k,m,o),p)).fst∧
 c=c∧
 d=d∧
 e=(dK d a b e (f,g,h,(i,j,k,m,o),p)).snd.snd.fst∧
 FR f a e g h i j k d b p m o
 else
 Miss 2 eS
 else
 bif decide (gz a e f g h i j k d b p m o=0) then
 Miss 2 eS
 else
 a9 a b=(dK d a b e (f,g,h,(i,j,k,m,o),p)).fst∧
 c=c∧
 d=d∧
 e=(dK d a b e (f,g,h,(i,j,k,m,o),p)).snd.snd.fst∧
 we f a e g h i j k d b p m o∧
 g=jW a e f g h i j k d b p m o∧
 h=jX a e f g h i j k d b p m o∧
 i=kb a e f g h i j k d b p m o∧
 j=j5 a e f g h i j k d b p m o∧
 k=jZ a e f g h i j k d b p m o∧
 m=j2 a e f g h i j k d b p m o∧
 o=j7 a e f g h i j k d b p m o∧
 p=ls a e f g h i j k d b p m o∧
 a9 a b=gz a e f g h i j k d b p m o
 else
 az d e∧
 bif cm d e 1 a (aX a b) then
 bX b∧
 bif decide (cG a b≠0) then
 True∧
 bif decide (cG a b=0) then
 bif decide (gz a e f g h i j k d b p m o=0) then
 0=(dK d a b e (f,g,h,(i,j,k,m,o),p)).fst∧
 c=c∧
 d=d∧
 e+1=(dK d a b e (f,g,h,(i,j,k,m,o),p)).snd.snd.fst∧
 FR f a e g h i j k d b p m o
 else
 Miss 2 eS
 else
 bif decide (gz a e f g h i j k d b p m o=0) then
 Miss 2 eS
 else
 cG a b=(dK d a b e (f,g,h,(i,j,k,m,o),p)).fst∧
 c=c∧
 d=d∧
 e+1=(dK d a b e (f,g,h,(i,j,k,m,o),p)).snd.snd.fst∧
 we f a e g h i j k d b p m o∧
 g=jW a e f g h i j k d b p m o∧
 h=jX a e f g h i j k d b p m o∧
 i=kb a e f g h i j k d b p m o∧
 j=j5 a e f g h i j k d b p m o∧
 k=jZ a e f g h i j k d b p m o∧
 m=j2 a e f g h i j k d b p m o∧
 o=j7 a e f g h i j k d b p m o∧
 p=ls a e f g h i j k d b p m o∧
 cG a b=gz a e f g h i j k d b p m o
 else
 (bX b∧bh 1000000000 (f,g,h,(i,j,k,m,o),p))∧
 bif decide (gz a e f g h i j k d b p m o=0) then
 0=(dK d a b e (f,g,h,(i,j,k,m,o),p)).fst∧
 c=c∧
 d=d∧
 e+1=(dK d a b e (f,g,h,(i,j,k,m,o),p)).snd.snd.fst∧
 (bI 1 a (aX a b) b (f,g,h,(i,j,k,m,o),p)).fst=
 (dK d a b e (f,g,h,(i,j,k,m,o),p)).snd.snd.snd.fst.fst∧
 (bI 1 a (aX a b) b (f,g,h,(i,j,k,m,o),p)).snd.fst=
 jW a e f g h i j k d b p m o∧
 (bI 1 a (aX a b) b
 (f,g,h,(i,j,k,m,o),p)).snd.snd.fst=
 jX a e f g h i j k d b p m o∧
 AH a f g h i j k b p m o=kb a e f g h i j k d b p m o∧
 Bp a f g h i j k b p m o=
 j5 a e f g h i j k d b p m o∧
 A7 a f g h i j k b p m o=
 jZ a e f g h i j k d b p m o∧
 Av a f g h i j k b p m o=
 j2 a e f g h i j k d b p m o∧
 Br a f g h i j k b p m o=
 j7 a e f g h i j k d b p m o∧
 (bI 1 a (aX a b) b
 (f,g,h,(i,j,k,m,o),p)).snd.snd.snd.snd=
 ls a e f g h i j k d b p m o
 else
 Miss 2 eS
 else
 bif decide (gz a e f g h i j k d b p m o=0) then
 Miss 2 eS
 else
 10=(dK d a b e (f,g,h,(i,j,k,m,o),p)).fst∧
 c=c∧
 d=d∧
 e=(dK d a b e (f,g,h,(i,j,k,m,o),p)).snd.snd.fst∧
 we f a e g h i j k d b p m o∧
 g=jW a e f g h i j k d b p m o∧
 h=jX a e f g h i j k d b p m o∧
 i=kb a e f g h i j k d b p m o∧
 j=j5 a e f g h i j k d b p m o∧
 k=jZ a e f g h i j k d b p m o∧
 m=j2 a e f g h i j k d b p m o∧
 o=j7 a e f g h i j k d b p m o∧
 p=ls a e f g h i j k d b p m o∧
 10=gz a e f g h i j k d b p m o
def WY:Prop:=
 ∀ (a:Int) (b:LD) (c:List Int) (d:LD) (e f g h i j k:Int) (m o:List Int) (p:LD) (q:Int),
 lM b→
 bu c→
 q≠0→
 True∧
 bif decide (q≠0) then dh q e f g h i j k d p c m o
 else
 b.length≤1000∧
 bif decide (a9 a b≠0) then True∧dh q e f g h i j k d p c m o
 else
 (az d e∧q≠0)∧
 bif decide (q≠0) then dh q e f g h i j k d p c m o
 else
 bX b∧
 bif decide (cG a b≠0) then True∧dh q e f g h i j k d p c m o
 else
 (bX b∧bh 1000000000 (f,g,h,(i,j,k,m,o),p))∧
 0=q∧
 c=c∧
 d=d∧
 e=e∧
 (bI 1 a (aX a b) b (f,g,h,(i,j,k,m,o),p)).fst=f∧
 (bI 1 a (aX a b) b (f,g,h,(i,j,k,m,o),p)).snd.fst=
 g∧
 (bI 1 a (aX a b) b
 (f,g,h,(i,j,k,m,o),p)).snd.snd.fst=
 h∧
 AH a f g h i j k b p m o=i∧
 Bp a f g h i j k b p m o=j∧
 A7 a f g h i j k b p m o=k∧
 Av a f g h i j k b p m o=m∧
 Br a f g h i j k b p m o=o∧
 (bI 1 a (aX a b) b
 (f,g,h,(i,j,k,m,o),p)).snd.snd.snd.snd=
 p∧
 q=q
def PV:ac:=ak Oy 51 (eF aek (eF aei (Oy 51)))
abbrev ic (a b c d e f:Int)(g:LD)(h i:List Int):Prop:=
 bX [] ∧bh 1000000000 (a,b,c,(d,e,f,h,i),g)
abbrev cz (a b c d e f g:Int)(h:LD)(i j:List Int):Int×Int×Int×BG×LD:=
 ((bI 2 1 a [] (b,c,d,(e,f,g,i,j),h)).fst,
 (bI 2 1 a [] (b,c,d,(e,f,g,i,j),h)).snd.fst,
 (bI 2 1 a [] (b,c,d,(e,f,g,i,j),h)).snd.snd.fst,
 ((bI 2 1 a [] (b,c,d,(e,f,g,i,j),h)).snd.snd.snd.fst.fst,
 (bI 2 1 a [] (b,c,d,(e,f,g,i,j),h)).snd.snd.snd.fst.snd.fst,
 (bI 2 1 a [] (b,c,d,(e,f,g,i,j),h)).snd.snd.snd.fst.snd.snd.fst,
 (bI 2 1 a [] (b,c,d,(e,f,g,i,j),h)).snd.snd.snd.fst.snd.snd.snd.fst,
 (bI 2 1 a [] (b,c,d,(e,f,g,i,j),h)).snd.snd.snd.fst.snd.snd.snd.snd),
 (bI 2 1 a [] (b,c,d,(e,f,g,i,j),h)).snd.snd.snd.snd)
abbrev oR (a b c d e f g h:Int)(i j:LD)(k m:List Int):Int:=
 (fB i a b (c,d,e,(f,g,h,k,m),j)).snd.snd.snd.fst.snd.fst
abbrev oL (a b c d e f g h:Int)(i j:LD)(k m:List Int):Int:=
 (fB i a b (c,d,e,(f,g,h,k,m),j)).snd.snd.snd.fst.snd.snd.fst
abbrev oT (a b c d e f g h:Int)(i j:LD)(k m:List Int):Int:=
 (fB i a b (c,d,e,(f,g,h,k,m),j)).snd.snd.snd.fst.snd.snd.snd.fst.fst
abbrev pB (a b c d e f g h:Int)(i j:LD)(k m:List Int):Int:=
 (fB i a b (c,d,e,(f,g,h,k,m),j)).snd.snd.snd.fst.snd.snd.snd.fst.snd.fst
abbrev pL (a b c d e f g h:Int)(i j:LD)(k m:List Int):Int:=
 (fB i a b (c,d,e,(f,g,h,k,m),j)).snd.snd.snd.fst.snd.snd.snd.fst.snd.snd.fst
abbrev o8 (a b c d e f g h:Int)(i j:LD)(k m:List Int):List Int:=
 (fB i a b (c,d,e,(f,g,h,k,m),j)).snd.snd.snd.fst.snd.snd.snd.fst.snd.snd.snd.fst
abbrev oZ (a b c d e f g h:Int)(i j:LD)(k m:List Int):List Int:=
 (fB i a b (c,d,e,(f,g,h,k,m),j)).snd.snd.snd.fst.snd.snd.snd.fst.snd.snd.snd.snd
abbrev rA (a b c d e f g h:Int)(i j:LD)(k m:List Int):LD:=
 (fB i a b (c,d,e,(f,g,h,k,m),j)).snd.snd.snd.fst.snd.snd.snd.snd
abbrev M8 (a b c d e f g:Int)(h:LD)(i j:List Int):Blk:=
 .cells (300:TypeId)
 [gg,.own 4,
 .int .i64 (bG a (cz a b c d e f g h i j)).snd.fst,
 .int .i64 (bG a (cz a b c d e f g h i j)).snd.snd.fst,
 .int .i64 (bG a (cz a b c d e f g h i j)).snd.snd.snd.fst]
abbrev Mw (a b c d e f g:Int)(h:LD)(i j:List Int):Blk:=
 .cells (318:TypeId)
 [.int .u32 (bG a (cz a b c d e f g h i j)).snd.snd.snd.snd.fst.fst,
 .int .i32 (bG a (cz a b c d e f g h i j)).snd.snd.snd.snd.fst.snd.fst,
 .int .u32 (bG a (cz a b c d e f g h i j)).snd.snd.snd.snd.fst.snd.snd.fst,
 .arrI 780 .u64
 (bG a (cz a b c d e f g h i j)).snd.snd.snd.snd.fst.snd.snd.snd.fst,
 .arrI 36 .u64
 (bG a (cz a b c d e f g h i j)).snd.snd.snd.snd.fst.snd.snd.snd.snd]
abbrev MQ (a:Int):Blk:=
 .cells (151:Nat) [.int .i64 (2:Int),.int .i64 (1:Int),.int .i64 a,.nils]
def YP:Prop:=
 ∀ (a:Int) (b:List Int) (c:LD) (d e f g h i j:Int) (k m:List Int) (o:LD),
 bu b→
 0≤a∧a≤1000∧mM c d (e,f,g,(h,i,j,k,m),o)→
 az c d∧
 bif cm c d 2 1 a then
 ic e f g h i j o k m∧
 (0≤a∧a≤100000∧bh 900000000 (cz a e f g h i j o k m))∧
 bif decide ((fB c a d (e,f,g,(h,i,j,k,m),o)).snd.snd.snd.snd=0) then
 0=(fB c a d (e,f,g,(h,i,j,k,m),o)).fst∧
 b=b∧
 c=c∧
 d+1=(fB c a d (e,f,g,(h,i,j,k,m),o)).snd.snd.fst∧
 (bG a (cz a e f g h i j o k m)).snd.fst=
 (fB c a d (e,f,g,(h,i,j,k,m),o)).snd.snd.snd.fst.fst∧
 (bG a (cz a e f g h i j o k m)).snd.snd.fst=
 oR a d e f g h i j c o k m∧
 (bG a (cz a e f g h i j o k m)).snd.snd.snd.fst=
 oL a d e f g h i j c o k m∧
 (bG a (cz a e f g h i j o k m)).snd.snd.snd.snd.fst.fst=
 oT a d e f g h i j c o k m∧
 (bG a (cz a e f g h i j o k m)).snd.snd.snd.snd.fst.snd.fst=
 pB a d e f g h i j c o k m∧
 (bG a (cz a e f g h i j o k m)).snd.snd.snd.snd.fst.snd.snd.fst=
 pL a d e f g h i j c o k m∧
 (bG a
 (cz a e f g h i j o k m)).snd.snd.snd.snd.fst.snd.snd.snd.fst=
 o8 a d e f g h i j c o k m∧
 (bG a
 (cz a e f g h i j o k m)).snd.snd.snd.snd.fst.snd.snd.snd.snd=
 oZ a d e f g h i j c o k m∧
 (bG a (cz a e f g h i j o k m)).snd.snd.snd.snd.snd=
 rA a d e f g h i j c o k m∧
 (bG a (cz a e f g h i j o k m)).fst=
 (fB c a d (e,f,g,(h,i,j,k,m),o)).snd.fst
 else
 Miss 2 eS
 else
 bif decide ((fB c a d (e,f,g,(h,i,j,k,m),o)).snd.snd.snd.snd=0) then
 Miss 2 eS
 else
 10=(fB c a d (e,f,g,(h,i,j,k,m),o)).fst∧
 b=b∧
 c=c∧
 d=(fB c a d (e,f,g,(h,i,j,k,m),o)).snd.snd.fst∧
 e=(fB c a d (e,f,g,(h,i,j,k,m),o)).snd.snd.snd.fst.fst∧
 f=oR a d e f g h i j c o k m∧
 g=oL a d e f g h i j c o k m∧
 h=oT a d e f g h i j c o k m∧
 i=pB a d e f g h i j c o k m∧
 j=pL a d e f g h i j c o k m∧
 k=o8 a d e f g h i j c o k m∧
 m=oZ a d e f g h i j c o k m∧
 o=rA a d e f g h i j c o k m∧
 10=(fB c a d (e,f,g,(h,i,j,k,m),o)).snd.snd.snd.snd
def Zl:Prop:=
 ∀ (a:Int) (b:List Int) (c:LD) (d e f g h i j:Int) (k m:List Int) (o:LD) (p:Int),
 bu b→
 az c d∧p≠0→
 (az c d∧p≠0)∧
 bif decide (p≠0) then dh p d e f g h i j c o b k m
 else
 ic e f g h i j o k m∧
 (0≤a∧a≤100000∧bh 900000000 (cz a e f g h i j o k m))∧
 Miss 2 eS
def Qg:ac:=ak PV 52 (eF akm (eF ST (PV 52)))
abbrev cA (a b c d e f g:Int)(h:LD)(i j:List Int):Int×Int×Int×BG×LD:=
 ((bI 2 3 a [] (b,c,d,(e,f,g,i,j),h)).fst,
 (bI 2 3 a [] (b,c,d,(e,f,g,i,j),h)).snd.fst,
 (bI 2 3 a [] (b,c,d,(e,f,g,i,j),h)).snd.snd.fst,
 ((bI 2 3 a [] (b,c,d,(e,f,g,i,j),h)).snd.snd.snd.fst.fst,
 (bI 2 3 a [] (b,c,d,(e,f,g,i,j),h)).snd.snd.snd.fst.snd.fst,
 (bI 2 3 a [] (b,c,d,(e,f,g,i,j),h)).snd.snd.snd.fst.snd.snd.fst,
 (bI 2 3 a [] (b,c,d,(e,f,g,i,j),h)).snd.snd.snd.fst.snd.snd.snd.fst,
 (bI 2 3 a [] (b,c,d,(e,f,g,i,j),h)).snd.snd.snd.fst.snd.snd.snd.snd),
 (bI 2 3 a [] (b,c,d,(e,f,g,i,j),h)).snd.snd.snd.snd)
abbrev pp (a b c d e f g h:Int)(i j:LD)(k m:List Int):Int:=
 (dD i a b (c,d,e,(f,g,h,k,m),j)).snd.snd.snd.fst.snd.fst
abbrev pg (a b c d e f g h:Int)(i j:LD)(k m:List Int):Int:=
 (dD i a b (c,d,e,(f,g,h,k,m),j)).snd.snd.snd.fst.snd.snd.fst
abbrev pi (a b c d e f g h:Int)(i j:LD)(k m:List Int):Int:=
 (dD i a b (c,d,e,(f,g,h,k,m),j)).snd.snd.snd.fst.snd.snd.snd.fst.fst
abbrev o9 (a b c d e f g h:Int)(i j:LD)(k m:List Int):Int:=
 (dD i a b (c,d,e,(f,g,h,k,m),j)).snd.snd.snd.fst.snd.snd.snd.fst.snd.fst
abbrev pA (a b c d e f g h:Int)(i j:LD)(k m:List Int):Int:=
 (dD i a b (c,d,e,(f,g,h,k,m),j)).snd.snd.snd.fst.snd.snd.snd.fst.snd.snd.fst
abbrev pN (a b c d e f g h:Int)(i j:LD)(k m:List Int):List Int:=
 (dD i a b (c,d,e,(f,g,h,k,m),j)).snd.snd.snd.fst.snd.snd.snd.fst.snd.snd.snd.fst
abbrev pF (a b c d e f g h:Int)(i j:LD)(k m:List Int):List Int:=
 (dD i a b (c,d,e,(f,g,h,k,m),j)).snd.snd.snd.fst.snd.snd.snd.fst.snd.snd.snd.snd
abbrev rK (a b c d e f g h:Int)(i j:LD)(k m:List Int):LD:=
 (dD i a b (c,d,e,(f,g,h,k,m),j)).snd.snd.snd.fst.snd.snd.snd.snd
abbrev NW (a b c d e f g:Int)(h:LD)(i j:List Int):Blk:=
 .cells (300:TypeId)
 [gg,.own 4,
 .int .i64 (bF (cA a b c d e f g h i j) a.toNat).fst,
 .int .i64 (bF (cA a b c d e f g h i j) a.toNat).snd.fst,
 .int .i64 (bF (cA a b c d e f g h i j) a.toNat).snd.snd.fst]
abbrev NI (a b c d e f g:Int)(h:LD)(i j:List Int):Blk:=
 .cells (318:TypeId)
 [.int .u32 (bF (cA a b c d e f g h i j) a.toNat).snd.snd.snd.fst.fst,
 .int .i32 (bF (cA a b c d e f g h i j) a.toNat).snd.snd.snd.fst.snd.fst,
 .int .u32 (bF (cA a b c d e f g h i j) a.toNat).snd.snd.snd.fst.snd.snd.fst,
 .arrI 780 .u64
 (bF (cA a b c d e f g h i j) a.toNat).snd.snd.snd.fst.snd.snd.snd.fst,
 .arrI 36 .u64
 (bF (cA a b c d e f g h i j) a.toNat).snd.snd.snd.fst.snd.snd.snd.snd]
abbrev Mr (a:Int):Blk:=
 .cells (151:Nat) [.int .i64 (2:Int),.int .i64 (3:Int),.int .i64 a,.nils]
def VQ:Prop:=
 ∀ (a:Int) (b:List Int) (c:LD) (d e f g h i j:Int) (k m:List Int) (o:LD),
 bu b→
 0≤a∧a≤1000∧mM c d (e,f,g,(h,i,j,k,m),o)→
 az c d∧
 bif cm c d 2 3 a then
 ic e f g h i j o k m∧
 (bh 1000000000 (cA a e f g h i j o k m)∧a≤1000000)∧
 bif decide ((dD c a d (e,f,g,(h,i,j,k,m),o)).snd.snd.snd.snd=0) then
 0=(dD c a d (e,f,g,(h,i,j,k,m),o)).fst∧
 b=b∧
 c=c∧
 d+1=(dD c a d (e,f,g,(h,i,j,k,m),o)).snd.snd.fst∧
 (bF (cA a e f g h i j o k m) a.toNat).fst=
 (dD c a d (e,f,g,(h,i,j,k,m),o)).snd.snd.snd.fst.fst∧
 (bF (cA a e f g h i j o k m) a.toNat).snd.fst=
 pp a d e f g h i j c o k m∧
 (bF (cA a e f g h i j o k m) a.toNat).snd.snd.fst=
 pg a d e f g h i j c o k m∧
 (bF (cA a e f g h i j o k m) a.toNat).snd.snd.snd.fst.fst=
 pi a d e f g h i j c o k m∧
 (bF (cA a e f g h i j o k m) a.toNat).snd.snd.snd.fst.snd.fst=
 o9 a d e f g h i j c o k m∧
 (bF (cA a e f g h i j o k m) a.toNat).snd.snd.snd.fst.snd.snd.fst=
 pA a d e f g h i j c o k m∧
 (bF (cA a e f g h i j o k m)
 a.toNat).snd.snd.snd.fst.snd.snd.snd.fst=
 pN a d e f g h i j c o k m∧
 (bF (cA a e f g h i j o k m)
 a.toNat).snd.snd.snd.fst.snd.snd.snd.snd=
 pF a d e f g h i j c o k m∧
 (bF (cA a e f g h i j o k m) a.toNat).snd.snd.snd.snd=
 rK a d e f g h i j c o k m∧
 gO (cA a e f g h i j o k m) a.toNat=
 (dD c a d (e,f,g,(h,i,j,k,m),o)).snd.fst
 else
 Miss 2 eS
 else
 bif decide ((dD c a d (e,f,g,(h,i,j,k,m),o)).snd.snd.snd.snd=0) then
 Miss 2 eS
 else
 10=(dD c a d (e,f,g,(h,i,j,k,m),o)).fst∧
 b=b∧
 c=c∧
 d=(dD c a d (e,f,g,(h,i,j,k,m),o)).snd.snd.fst∧
 e=(dD c a d (e,f,g,(h,i,j,k,m),o)).snd.snd.snd.fst.fst∧
 f=pp a d e f g h i j c o k m∧
 g=pg a d e f g h i j c o k m∧
 h=pi a d e f g h i j c o k m∧
 i=o9 a d e f g h i j c o k m∧
 j=pA a d e f g h i j c o k m∧
 k=pN a d e f g h i j c o k m∧
 m=pF a d e f g h i j c o k m∧
 o=rK a d e f g h i j c o k m∧
 10=(dD c a d (e,f,g,(h,i,j,k,m),o)).snd.snd.snd.snd
def YG:Prop:=
 ∀ (a:Int) (b:List Int) (c:LD) (d e f g h i j:Int) (k m:List Int) (o:LD) (p:Int),
 bu b→
 az c d∧p≠0→
 (az c d∧p≠0)∧
 bif decide (p≠0) then dh p d e f g h i j c o b k m
 else
 ic e f g h i j o k m∧
 (bh 1000000000 (cA a e f g h i j o k m)∧a≤1000000)∧
 Miss 2 eS
def OK:ac:=ak Qg 53 (eF aiX (eF akr (Qg 53)))
abbrev dy (a b c d e f:Int)(g:LD)(h i:List Int):Int×Int×Int×BG×LD:=
 ((bI 3 0 1 [] (a,b,c,(d,e,f,h,i),g)).fst,
 (bI 3 0 1 [] (a,b,c,(d,e,f,h,i),g)).snd.fst,
 (bI 3 0 1 [] (a,b,c,(d,e,f,h,i),g)).snd.snd.fst,
 ((bI 3 0 1 [] (a,b,c,(d,e,f,h,i),g)).snd.snd.snd.fst.fst,
 (bI 3 0 1 [] (a,b,c,(d,e,f,h,i),g)).snd.snd.snd.fst.snd.fst,
 (bI 3 0 1 [] (a,b,c,(d,e,f,h,i),g)).snd.snd.snd.fst.snd.snd.fst,
 (bI 3 0 1 [] (a,b,c,(d,e,f,h,i),g)).snd.snd.snd.fst.snd.snd.snd.fst,
 (bI 3 0 1 [] (a,b,c,(d,e,f,h,i),g)).snd.snd.snd.fst.snd.snd.snd.snd),
 (bI 3 0 1 [] (a,b,c,(d,e,f,h,i),g)).snd.snd.snd.snd)
abbrev pc (a b c d e f g:Int)(h i:LD)(j k:List Int):Int:=
 (gL h a (b,c,d,(e,f,g,j,k),i)).snd.snd.snd.fst.fst
abbrev pI (a b c d e f g:Int)(h i:LD)(j k:List Int):Int:=
 (gL h a (b,c,d,(e,f,g,j,k),i)).snd.snd.snd.fst.snd.fst
abbrev pu (a b c d e f g:Int)(h i:LD)(j k:List Int):Int:=
 (gL h a (b,c,d,(e,f,g,j,k),i)).snd.snd.snd.fst.snd.snd.fst
abbrev pf (a b c d e f g:Int)(h i:LD)(j k:List Int):Int:=
 (gL h a (b,c,d,(e,f,g,j,k),i)).snd.snd.snd.fst.snd.snd.snd.fst.fst
abbrev A8 (a b c d e f:Int)(g:LD)(h i:List Int):Int:=
 (iW (dy a b c d e f g h i)).snd.snd.snd.fst.snd.fst
abbrev o4 (a b c d e f g:Int)(h i:LD)(j k:List Int):Int:=
 (gL h a (b,c,d,(e,f,g,j,k),i)).snd.snd.snd.fst.snd.snd.snd.fst.snd.fst
abbrev AU (a b c d e f:Int)(g:LD)(h i:List Int):Int:=
 (iW (dy a b c d e f g h i)).snd.snd.snd.fst.snd.snd.fst
abbrev oS (a b c d e f g:Int)(h i:LD)(j k:List Int):Int:=
 (gL h a (b,c,d,(e,f,g,j,k),i)).snd.snd.snd.fst.snd.snd.snd.fst.snd.snd.fst
abbrev Au (a b c d e f:Int)(g:LD)(h i:List Int):List Int:=
 (iW (dy a b c d e f g h i)).snd.snd.snd.fst.snd.snd.snd.fst
abbrev po (a b c d e f g:Int)(h i:LD)(j k:List Int):List Int:=
 (gL h a (b,c,d,(e,f,g,j,k),i)).snd.snd.snd.fst.snd.snd.snd.fst.snd.snd.snd.fst
abbrev AX (a b c d e f:Int)(g:LD)(h i:List Int):List Int:=
 (iW (dy a b c d e f g h i)).snd.snd.snd.fst.snd.snd.snd.snd
abbrev pm (a b c d e f g:Int)(h i:LD)(j k:List Int):List Int:=
 (gL h a (b,c,d,(e,f,g,j,k),i)).snd.snd.snd.fst.snd.snd.snd.fst.snd.snd.snd.snd
abbrev rL (a b c d e f g:Int)(h i:LD)(j k:List Int):LD:=
 (gL h a (b,c,d,(e,f,g,j,k),i)).snd.snd.snd.fst.snd.snd.snd.snd
abbrev ZX:Blk:=
 .cells (151:Nat) [.int .i64 (3:Int),.int .i64 (0:Int),.int .i64 (1:Int),.nils]
def WB:Prop:=
 ∀ (a:List Int) (b:LD) (c d e f g h i:Int) (j k:List Int) (m:LD),
 bu a→
 mM b c (d,e,f,(g,h,i,j,k),m)→
 az b c∧
 bif cm b c 3 0 1 then
 ic d e f g h i m j k∧
 bh 1000000000 (dy d e f g h i m j k)∧
 bif decide ((gL b c (d,e,f,(g,h,i,j,k),m)).snd.snd.snd.snd=0) then
 0=(gL b c (d,e,f,(g,h,i,j,k),m)).fst∧
 a=a∧
 b=b∧
 c+1=(gL b c (d,e,f,(g,h,i,j,k),m)).snd.snd.fst∧
 (iW (dy d e f g h i m j k)).fst=
 pc c d e f g h i b m j k∧
 (iW (dy d e f g h i m j k)).snd.fst=
 pI c d e f g h i b m j k∧
 (iW (dy d e f g h i m j k)).snd.snd.fst=
 pu c d e f g h i b m j k∧
 (iW (dy d e f g h i m j k)).snd.snd.snd.fst.fst=
 pf c d e f g h i b m j k∧
 A8 d e f g h i m j k=o4 c d e f g h i b m j k∧
 AU d e f g h i m j k=oS c d e f g h i b m j k∧
 Au d e f g h i m j k=po c d e f g h i b m j k∧
 AX d e f g h i m j k=pm c d e f g h i b m j k∧
 (iW (dy d e f g h i m j k)).snd.snd.snd.snd=
 rL c d e f g h i b m j k
 else
 Miss 2 eS
 else
 bif decide ((gL b c (d,e,f,(g,h,i,j,k),m)).snd.snd.snd.snd=0) then
 Miss 2 eS
 else
 10=(gL b c (d,e,f,(g,h,i,j,k),m)).fst∧
 a=a∧
 b=b∧
 c=(gL b c (d,e,f,(g,h,i,j,k),m)).snd.snd.fst∧
 d=pc c d e f g h i b m j k∧
 e=pI c d e f g h i b m j k∧
 f=pu c d e f g h i b m j k∧
 g=pf c d e f g h i b m j k∧
 h=o4 c d e f g h i b m j k∧
 i=oS c d e f g h i b m j k∧
 j=po c d e f g h i b m j k∧
 k=pm c d e f g h i b m j k∧
 m=rL c d e f g h i b m j k∧
 10=(gL b c (d,e,f,(g,h,i,j,k),m)).snd.snd.snd.snd
def Zy:Prop:=
 ∀ (a:List Int) (b:LD) (c d e f g h i:Int) (j k:List Int) (m:LD) (o:Int),
 bu a→
 az b c∧o≠0→
 (az b c∧o≠0)∧
 bif decide (o=0) then
 ic d e f g h i m j k∧
 bh 1000000000 (dy d e f g h i m j k)∧
 o=o∧
 a=a∧
 b=b∧
 c=c∧
 (iW (dy d e f g h i m j k)).fst=d∧
 (iW (dy d e f g h i m j k)).snd.fst=e∧
 (iW (dy d e f g h i m j k)).snd.snd.fst=f∧
 (iW (dy d e f g h i m j k)).snd.snd.snd.fst.fst=g∧
 A8 d e f g h i m j k=h∧
 AU d e f g h i m j k=i∧
 Au d e f g h i m j k=j∧
 AX d e f g h i m j k=k∧
 (iW (dy d e f g h i m j k)).snd.snd.snd.snd=m∧o=o
 else dh o c d e f g h i b m a j k
def YM:ac:=ak OK 54 (eF adp (eF ad7 (OK 54)))
abbrev gy (a b c d e f g:Int)(h i j:LD):Int:=
 (c5 h (aV a b) b c i d (e,f,g,j)).snd.snd.snd.snd
abbrev ly (a b c d e f g:Int)(h i j:LD):Int:=
 (c5 h (aV a b) b c i d (e,f,g,j)).snd.snd.snd.fst.fst
abbrev lh (a b c d e f g:Int)(h i j:LD):Int:=
 (c5 h (aV a b) b c i d (e,f,g,j)).snd.snd.snd.fst.snd.fst
abbrev lD (a b c d e f g:Int)(h i j:LD):Int:=
 (c5 h (aV a b) b c i d (e,f,g,j)).snd.snd.snd.fst.snd.snd.fst
abbrev lA (a b c d e f g:Int)(h i j:LD):LD:=
 (c5 h (aV a b) b c i d (e,f,g,j)).snd.snd.snd.fst.snd.snd.snd
abbrev N0:List SV:=
 [.nils,.nils]
abbrev abn (a:List Int):Blk:=
 .cells (128:TypeId)
 [.ptr 1 0,.arrI 32 .u8 a,.iface (133:TypeId) (.agg [.ptr 2 0])]
abbrev uw:SV:=
 .iface (253:TypeId) (.agg [])
abbrev aaD (a b c d e:Int)(f g h:LD):Blk:=
 .cells (298:TypeId)
 [uw,.own 3,
 .int .i64 (bP f a g b (c,d,e,h)).snd.snd.snd.fst.fst,
 .int .i64 (bP f a g b (c,d,e,h)).snd.snd.snd.fst.snd.fst,
 .int .i64 (bP f a g b (c,d,e,h)).snd.snd.snd.fst.snd.snd.fst]
abbrev NO (a b c:Int)(d:LD):Blk:=
 .cells (62:Nat) [.int .i64 a,.int .i64 b,.int .i64 c,.rd [.int .u8] d]
abbrev nh (a b:Int):Bool:=
 decide (a=2)&&decide (b=1)
abbrev ZP (a b c d e:Int)(f g:LD):Blk:=
 .cells (298:TypeId)
 [uw,.own 3,
 .int .i64 (cP f a b (c,d,e,g)).snd.snd.snd.fst.fst,
 .int .i64 (cP f a b (c,d,e,g)).snd.snd.snd.fst.snd.fst,
 .int .i64 (cP f a b (c,d,e,g)).snd.snd.snd.fst.snd.snd.fst]
abbrev Z5 (a b c d e:Int)(f g:LD):Blk:=
 .cells (298:TypeId)
 [uw,.own 3,
 .int .i64 (bQ f a b (c,d,e,g)).snd.snd.snd.fst.fst,
 .int .i64 (bQ f a b (c,d,e,g)).snd.snd.snd.fst.snd.fst,
 .int .i64 (bQ f a b (c,d,e,g)).snd.snd.snd.fst.snd.snd.fst]
abbrev aaF (a b c d:Int)(e f:LD):Blk:=
 .cells (298:TypeId)
 [uw,.own 3,
 .int .i64 (cW e a (b,c,d,f)).snd.snd.snd.fst.fst,
 .int .i64 (cW e a (b,c,d,f)).snd.snd.snd.fst.snd.fst,
 .int .i64 (cW e a (b,c,d,f)).snd.snd.snd.fst.snd.snd.fst]
def Xb:Prop:=
 ∀ (a b c:Int) (d:LD) (e:List Int) (f:LD) (g h i j:Int) (k:LD),
 lM d→
 bu e→
 bX d∧Fp a c∧mN f g (h,i,j,k)→
 bif decide (a=1) then
 (bX d∧mN f g (h,i,j,k))∧
 bif decide ((bP f b d g (h,i,j,k)).snd.snd.snd.snd=0) then
 bif decide (gy a b c g h i j f d k=0) then
 (bP f b d g (h,i,j,k)).fst=
 (c5 f (aV a b) b c d g (h,i,j,k)).fst∧
 e=e∧
 f=f∧
 (bP f b d g (h,i,j,k)).snd.snd.fst=
 (c5 f (aV a b) b c d g (h,i,j,k)).snd.snd.fst∧
 (bP f b d g (h,i,j,k)).snd.snd.snd.fst.fst=ly a b c g h i j f d k∧
 (bP f b d g (h,i,j,k)).snd.snd.snd.fst.snd.fst=
 lh a b c g h i j f d k∧
 (bP f b d g (h,i,j,k)).snd.snd.snd.fst.snd.snd.fst=
 lD a b c g h i j f d k∧
 (bP f b d g (h,i,j,k)).snd.snd.snd.fst.snd.snd.snd=
 lA a b c g h i j f d k
 else
 Miss 2 eS
 else
 bif decide (gy a b c g h i j f d k=0) then
 Miss 2 eS
 else
 (bP f b d g (h,i,j,k)).fst=
 (c5 f (aV a b) b c d g (h,i,j,k)).fst∧
 e=e∧
 f=f∧
 (bP f b d g (h,i,j,k)).snd.snd.fst=
 (c5 f (aV a b) b c d g (h,i,j,k)).snd.snd.fst∧
 (bP f b d g (h,i,j,k)).snd.snd.snd.fst.fst=ly a b c g h i j f d k∧
 (bP f b d g (h,i,j,k)).snd.snd.snd.fst.snd.fst=
 lh a b c g h i j f d k∧
 (bP f b d g (h,i,j,k)).snd.snd.snd.fst.snd.snd.fst=
 lD a b c g h i j f d k∧
 (bP f b d g (h,i,j,k)).snd.snd.snd.fst.snd.snd.snd=
 lA a b c g h i j f d k∧
 (bP f b d g (h,i,j,k)).snd.snd.snd.snd=gy a b c g h i j f d k
 else
 bif nh a b then
 (0≤c∧c≤1000∧mN f g (h,i,j,k))∧
 bif decide ((cP f c g (h,i,j,k)).snd.snd.snd.snd=0) then
 bif decide (gy a b c g h i j f d k=0) then
 (cP f c g (h,i,j,k)).fst=
 (c5 f (aV a b) b c d g (h,i,j,k)).fst∧
 e=e∧
 f=f∧
 (cP f c g (h,i,j,k)).snd.snd.fst=
 (c5 f (aV a b) b c d g (h,i,j,k)).snd.snd.fst∧
 (cP f c g (h,i,j,k)).snd.snd.snd.fst.fst=ly a b c g h i j f d k∧
 (cP f c g (h,i,j,k)).snd.snd.snd.fst.snd.fst=
 lh a b c g h i j f d k∧
 (cP f c g (h,i,j,k)).snd.snd.snd.fst.snd.snd.fst=
 lD a b c g h i j f d k∧
 (cP f c g (h,i,j,k)).snd.snd.snd.fst.snd.snd.snd=
 lA a b c g h i j f d k
 else
 Miss 2 eS
 else
 bif decide (gy a b c g h i j f d k=0) then
 Miss 2 eS
 else
 (cP f c g (h,i,j,k)).fst=
 (c5 f (aV a b) b c d g (h,i,j,k)).fst∧
 e=e∧
 f=f∧
 (cP f c g (h,i,j,k)).snd.snd.fst=
 (c5 f (aV a b) b c d g (h,i,j,k)).snd.snd.fst∧
 (cP f c g (h,i,j,k)).snd.snd.snd.fst.fst=ly a b c g h i j f d k∧
 (cP f c g (h,i,j,k)).snd.snd.snd.fst.snd.fst=
 lh a b c g h i j f d k∧
 (cP f c g (h,i,j,k)).snd.snd.snd.fst.snd.snd.fst=
 lD a b c g h i j f d k∧
 (cP f c g (h,i,j,k)).snd.snd.snd.fst.snd.snd.snd=
 lA a b c g h i j f d k∧
 (cP f c g (h,i,j,k)).snd.snd.snd.snd=gy a b c g h i j f d k
 else
 bif decide (a=2) then
 (0≤c∧c≤1000∧mN f g (h,i,j,k))∧
 bif decide ((bQ f c g (h,i,j,k)).snd.snd.snd.snd=0) then
 bif decide (gy a b c g h i j f d k=0) then
 (bQ f c g (h,i,j,k)).fst=
 (c5 f (aV a b) b c d g (h,i,j,k)).fst∧
 e=e∧
 f=f∧
 (bQ f c g (h,i,j,k)).snd.snd.fst=
 (c5 f (aV a b) b c d g (h,i,j,k)).snd.snd.fst∧
 (bQ f c g (h,i,j,k)).snd.snd.snd.fst.fst=ly a b c g h i j f d k∧
 (bQ f c g (h,i,j,k)).snd.snd.snd.fst.snd.fst=
 lh a b c g h i j f d k∧
 (bQ f c g (h,i,j,k)).snd.snd.snd.fst.snd.snd.fst=
 lD a b c g h i j f d k∧
 (bQ f c g (h,i,j,k)).snd.snd.snd.fst.snd.snd.snd=
 lA a b c g h i j f d k
 else
 Miss 2 eS
 else
 bif decide (gy a b c g h i j f d k=0) then
 Miss 2 eS
 else
 (bQ f c g (h,i,j,k)).fst=
 (c5 f (aV a b) b c d g (h,i,j,k)).fst∧
 e=e∧
 f=f∧
 (bQ f c g (h,i,j,k)).snd.snd.fst=
 (c5 f (aV a b) b c d g (h,i,j,k)).snd.snd.fst∧
 (bQ f c g (h,i,j,k)).snd.snd.snd.fst.fst=ly a b c g h i j f d k∧
 (bQ f c g (h,i,j,k)).snd.snd.snd.fst.snd.fst=
 lh a b c g h i j f d k∧
 (bQ f c g (h,i,j,k)).snd.snd.snd.fst.snd.snd.fst=
 lD a b c g h i j f d k∧
 (bQ f c g (h,i,j,k)).snd.snd.snd.fst.snd.snd.snd=
 lA a b c g h i j f d k∧
 (bQ f c g (h,i,j,k)).snd.snd.snd.snd=gy a b c g h i j f d k
 else
 mN f g (h,i,j,k)∧
 bif decide ((cW f g (h,i,j,k)).snd.snd.snd.snd=0) then
 bif decide (gy a b c g h i j f d k=0) then
 (cW f g (h,i,j,k)).fst=
 (c5 f (aV a b) b c d g (h,i,j,k)).fst∧
 e=e∧
 f=f∧
 (cW f g (h,i,j,k)).snd.snd.fst=
 (c5 f (aV a b) b c d g (h,i,j,k)).snd.snd.fst∧
 (cW f g (h,i,j,k)).snd.snd.snd.fst.fst=ly a b c g h i j f d k∧
 (cW f g (h,i,j,k)).snd.snd.snd.fst.snd.fst=
 lh a b c g h i j f d k∧
 (cW f g (h,i,j,k)).snd.snd.snd.fst.snd.snd.fst=
 lD a b c g h i j f d k∧
 (cW f g (h,i,j,k)).snd.snd.snd.fst.snd.snd.snd=
 lA a b c g h i j f d k
 else
 Miss 2 eS
 else
 bif decide (gy a b c g h i j f d k=0) then
 Miss 2 eS
 else
 (cW f g (h,i,j,k)).fst=
 (c5 f (aV a b) b c d g (h,i,j,k)).fst∧
 e=e∧
 f=f∧
 (cW f g (h,i,j,k)).snd.snd.fst=
 (c5 f (aV a b) b c d g (h,i,j,k)).snd.snd.fst∧
 (cW f g (h,i,j,k)).snd.snd.snd.fst.fst=ly a b c g h i j f d k∧
 (cW f g (h,i,j,k)).snd.snd.snd.fst.snd.fst=
 lh a b c g h i j f d k∧
 (cW f g (h,i,j,k)).snd.snd.snd.fst.snd.snd.fst=
 lD a b c g h i j f d k∧
 (cW f g (h,i,j,k)).snd.snd.snd.fst.snd.snd.snd=
 lA a b c g h i j f d k∧
 (cW f g (h,i,j,k)).snd.snd.snd.snd=gy a b c g h i j f d k
abbrev vf (a b c d e:Int)(f g:LD)(h:List Int):Prop:=
 a=a∧h=h∧f=f∧b=b∧(c,d,e,g).fst=c∧(c,d,e,g).snd.fst=d∧(c,d,e,g).snd.snd.fst=e∧(c,d,e,g).snd.snd.snd=g∧a=a
def Zi:Prop:=
 ∀ (a b n_2:Int) (c:LD) (d:List Int) (e:LD) (f g h i:Int) (j:LD) (k:Int),
 lM c→
 bu d→
 az e f∧k≠0→
 bif decide (a=1) then k≠0∧vf k f g h i e j d
 else
 bif nh a b then
 (az e f∧k≠0)∧vf k f g h i e j d
 else
 bif decide (a=2) then (az e f∧k≠0)∧vf k f g h i e j d
 else (az e f∧k≠0)∧vf k f g h i e j d
abbrev gv (a b c d e f g h i j:Int)(k m o:LD)(p q:List Int):Int:=
 (fC k (aV a b) b c m d (e,f,g,(h,i,j,p,q),o)).snd.snd.snd.snd
abbrev lw (a b c d e f g h i j:Int)(k m o:LD)(p q:List Int):Int:=
 (fC k (aV a b) b c m d (e,f,g,(h,i,j,p,q),o)).snd.snd.snd.fst.fst
abbrev lG (a b c d e f g h i j:Int)(k m o:LD)(p q:List Int):Int:=
 (fC k (aV a b) b c m d (e,f,g,(h,i,j,p,q),o)).snd.snd.snd.fst.snd.fst
abbrev lr (a b c d e f g h i j:Int)(k m o:LD)(p q:List Int):Int:=
 (fC k (aV a b) b c m d (e,f,g,(h,i,j,p,q),o)).snd.snd.snd.fst.snd.snd.fst
abbrev lP (a b c d e f g h i j:Int)(k m o:LD)(p q:List Int):Int:=
 (fC k (aV a b) b c m d (e,f,g,(h,i,j,p,q),o)).snd.snd.snd.fst.snd.snd.snd.fst.fst
abbrev lF (a b c d e f g h i j:Int)(k m o:LD)(p q:List Int):Int:=
 (fC k (aV a b) b c m d (e,f,g,(h,i,j,p,q),o)).snd.snd.snd.fst.snd.snd.snd.fst.snd.fst
abbrev lI (a b c d e f g h i j:Int)(k m o:LD)(p q:List Int):Int:=
 (fC k (aV a b) b c m d (e,f,g,(h,i,j,p,q),o)).snd.snd.snd.fst.snd.snd.snd.fst.snd.snd.fst
abbrev lg (a b c d e f g h i j:Int)(k m o:LD)(p q:List Int):List Int:=
 (fC k (aV a b) b c m d (e,f,g,(h,i,j,p,q),o)).snd.snd.snd.fst.snd.snd.snd.fst.snd.snd.snd.fst
abbrev lp (a b c d e f g h i j:Int)(k m o:LD)(p q:List Int):List Int:=
 (fC k (aV a b) b c m d (e,f,g,(h,i,j,p,q),o)).snd.snd.snd.fst.snd.snd.snd.fst.snd.snd.snd.snd
abbrev lL (a b c d e f g h i j:Int)(k m o:LD)(p q:List Int):LD:=
 (fC k (aV a b) b c m d (e,f,g,(h,i,j,p,q),o)).snd.snd.snd.fst.snd.snd.snd.snd
abbrev ZY (a b c d e f g h:Int)(i j k:LD)(m o:List Int):Blk:=
 .cells (300:TypeId)
 [gg,.own 4,
 .int .i64 (dK i a j b (c,d,e,(f,g,h,m,o),k)).snd.snd.snd.fst.fst,
 .int .i64 (jW a b c d e f g h i j k m o),
 .int .i64 (jX a b c d e f g h i j k m o)]
abbrev aae (a b c d e f g h:Int)(i j k:LD)(m o:List Int):Blk:=
 .cells (318:TypeId)
 [.int .u32 (kb a b c d e f g h i j k m o),
 .int .i32 (j5 a b c d e f g h i j k m o),
 .int .u32 (jZ a b c d e f g h i j k m o),
 .arrI 780 .u64 (j2 a b c d e f g h i j k m o),
 .arrI 36 .u64 (j7 a b c d e f g h i j k m o)]
abbrev UI (a b c d e f g h:Int)(i j:LD)(k m:List Int):Blk:=
 .cells (300:TypeId)
 [gg,.own 4,
 .int .i64 (fB i a b (c,d,e,(f,g,h,k,m),j)).snd.snd.snd.fst.fst,
 .int .i64 (oR a b c d e f g h i j k m),
 .int .i64 (oL a b c d e f g h i j k m)]
abbrev Vi (a b c d e f g h:Int)(i j:LD)(k m:List Int):Blk:=
 .cells (318:TypeId)
 [.int .u32 (oT a b c d e f g h i j k m),
 .int .i32 (pB a b c d e f g h i j k m),
 .int .u32 (pL a b c d e f g h i j k m),
 .arrI 780 .u64 (o8 a b c d e f g h i j k m),
 .arrI 36 .u64 (oZ a b c d e f g h i j k m)]
abbrev TP (a b c d e f g h:Int)(i j:LD)(k m:List Int):Blk:=
 .cells (300:TypeId)
 [gg,.own 4,
 .int .i64 (dD i a b (c,d,e,(f,g,h,k,m),j)).snd.snd.snd.fst.fst,
 .int .i64 (pp a b c d e f g h i j k m),
 .int .i64 (pg a b c d e f g h i j k m)]
abbrev UD (a b c d e f g h:Int)(i j:LD)(k m:List Int):Blk:=
 .cells (318:TypeId)
 [.int .u32 (pi a b c d e f g h i j k m),
 .int .i32 (o9 a b c d e f g h i j k m),
 .int .u32 (pA a b c d e f g h i j k m),
 .arrI 780 .u64 (pN a b c d e f g h i j k m),
 .arrI 36 .u64 (pF a b c d e f g h i j k m)]
abbrev U7 (a b c d e f g:Int)(h i:LD)(j k:List Int):Blk:=
 .cells (300:TypeId)
 [gg,.own 4,.int .i64 (pc a b c d e f g h i j k),
 .int .i64 (pI a b c d e f g h i j k),
 .int .i64 (pu a b c d e f g h i j k)]
abbrev UW (a b c d e f g:Int)(h i:LD)(j k:List Int):Blk:=
 .cells (318:TypeId)
 [.int .u32 (pf a b c d e f g h i j k),
 .int .i32 (o4 a b c d e f g h i j k),
 .int .u32 (oS a b c d e f g h i j k),
 .arrI 780 .u64 (po a b c d e f g h i j k),
 .arrI 36 .u64 (pm a b c d e f g h i j k)]
def W4:Prop:=
 ∀ (a b c:Int) (d:LD) (e:List Int) (f:LD) (g h i j k m o:Int) (p q:List Int) (r:LD),
 lM d→
 bu e→
 bX d∧Fp a c∧mM f g (h,i,j,(k,m,o,p,q),r)→
 bif decide (a=1) then
 (bX d∧mM f g (h,i,j,(k,m,o,p,q),r))∧
 bif decide (gz b g h i j k m o f d r p q=0) then
 bif decide (gv a b c g h i j k m o f d r p q=0) then
 (dK f b d g (h,i,j,(k,m,o,p,q),r)).fst=
 (fC f (aV a b) b c d g (h,i,j,(k,m,o,p,q),r)).fst∧
 e=e∧
 f=f∧
 (dK f b d g (h,i,j,(k,m,o,p,q),r)).snd.snd.fst=
 (fC f (aV a b) b c d g (h,i,j,(k,m,o,p,q),r)).snd.snd.fst∧
 (dK f b d g (h,i,j,(k,m,o,p,q),r)).snd.snd.snd.fst.fst=
 lw a b c g h i j k m o f d r p q∧
 jW b g h i j k m o f d r p q=lG a b c g h i j k m o f d r p q∧
 jX b g h i j k m o f d r p q=lr a b c g h i j k m o f d r p q∧
 kb b g h i j k m o f d r p q=lP a b c g h i j k m o f d r p q∧
 j5 b g h i j k m o f d r p q=lF a b c g h i j k m o f d r p q∧
 jZ b g h i j k m o f d r p q=
 lI a b c g h i j k m o f d r p q∧
 j2 b g h i j k m o f d r p q=
 lg a b c g h i j k m o f d r p q∧
 j7 b g h i j k m o f d r p q=
 lp a b c g h i j k m o f d r p q∧
 ls b g h i j k m o f d r p q=
 lL a b c g h i j k m o f d r p q
 else
 Miss 2 eS
 else
 bif decide (gv a b c g h i j k m o f d r p q=0) then
 Miss 2 eS
 else
 (dK f b d g (h,i,j,(k,m,o,p,q),r)).fst=
 (fC f (aV a b) b c d g (h,i,j,(k,m,o,p,q),r)).fst∧
 e=e∧
 f=f∧
 (dK f b d g (h,i,j,(k,m,o,p,q),r)).snd.snd.fst=
 (fC f (aV a b) b c d g (h,i,j,(k,m,o,p,q),r)).snd.snd.fst∧
 (dK f b d g (h,i,j,(k,m,o,p,q),r)).snd.snd.snd.fst.fst=
 lw a b c g h i j k m o f d r p q∧
 jW b g h i j k m o f d r p q=lG a b c g h i j k m o f d r p q∧
 jX b g h i j k m o f d r p q=lr a b c g h i j k m o f d r p q∧
 kb b g h i j k m o f d r p q=lP a b c g h i j k m o f d r p q∧
 j5 b g h i j k m o f d r p q=lF a b c g h i j k m o f d r p q∧
 jZ b g h i j k m o f d r p q=
 lI a b c g h i j k m o f d r p q∧
 j2 b g h i j k m o f d r p q=
 lg a b c g h i j k m o f d r p q∧
 j7 b g h i j k m o f d r p q=
 lp a b c g h i j k m o f d r p q∧
 ls b g h i j k m o f d r p q=
 lL a b c g h i j k m o f d r p q∧
 gz b g h i j k m o f d r p q=
 gv a b c g h i j k m o f d r p q
 else
 bif nh a b then
 (0≤c∧c≤1000∧mM f g (h,i,j,(k,m,o,p,q),r))∧
 bif decide ((fB f c g (h,i,j,(k,m,o,p,q),r)).snd.snd.snd.snd=0) then
 bif decide (gv a b c g h i j k m o f d r p q=0) then
 (fB f c g (h,i,j,(k,m,o,p,q),r)).fst=
 (fC f (aV a b) b c d g (h,i,j,(k,m,o,p,q),r)).fst∧
 e=e∧
 f=f∧
 (fB f c g (h,i,j,(k,m,o,p,q),r)).snd.snd.fst=
 (fC f (aV a b) b c d g (h,i,j,(k,m,o,p,q),r)).snd.snd.fst∧
 (fB f c g (h,i,j,(k,m,o,p,q),r)).snd.snd.snd.fst.fst=
 lw a b c g h i j k m o f d r p q∧
 oR c g h i j k m o f r p q=lG a b c g h i j k m o f d r p q∧
 oL c g h i j k m o f r p q=lr a b c g h i j k m o f d r p q∧
 oT c g h i j k m o f r p q=lP a b c g h i j k m o f d r p q∧
 pB c g h i j k m o f r p q=lF a b c g h i j k m o f d r p q∧
 pL c g h i j k m o f r p q=
 lI a b c g h i j k m o f d r p q∧
 o8 c g h i j k m o f r p q=
 lg a b c g h i j k m o f d r p q∧
 oZ c g h i j k m o f r p q=
 lp a b c g h i j k m o f d r p q∧
 rA c g h i j k m o f r p q=
 lL a b c g h i j k m o f d r p q
 else
 Miss 2 eS
 else
 bif decide (gv a b c g h i j k m o f d r p q=0) then
 Miss 2 eS
 else
 (fB f c g (h,i,j,(k,m,o,p,q),r)).fst=
 (fC f (aV a b) b c d g (h,i,j,(k,m,o,p,q),r)).fst∧
 e=e∧
 f=f∧
 (fB f c g (h,i,j,(k,m,o,p,q),r)).snd.snd.fst=
 (fC f (aV a b) b c d g (h,i,j,(k,m,o,p,q),r)).snd.snd.fst∧
 (fB f c g (h,i,j,(k,m,o,p,q),r)).snd.snd.snd.fst.fst=
 lw a b c g h i j k m o f d r p q∧
 oR c g h i j k m o f r p q=lG a b c g h i j k m o f d r p q∧
 oL c g h i j k m o f r p q=lr a b c g h i j k m o f d r p q∧
 oT c g h i j k m o f r p q=lP a b c g h i j k m o f d r p q∧
 pB c g h i j k m o f r p q=lF a b c g h i j k m o f d r p q∧
 pL c g h i j k m o f r p q=
 lI a b c g h i j k m o f d r p q∧
 o8 c g h i j k m o f r p q=
 lg a b c g h i j k m o f d r p q∧
 oZ c g h i j k m o f r p q=
 lp a b c g h i j k m o f d r p q∧
 rA c g h i j k m o f r p q=
 lL a b c g h i j k m o f d r p q∧
 (fB f c g (h,i,j,(k,m,o,p,q),r)).snd.snd.snd.snd=
 gv a b c g h i j k m o f d r p q
 else
 bif decide (a=2) then
 (0≤c∧c≤1000∧mM f g (h,i,j,(k,m,o,p,q),r))∧
 bif decide ((dD f c g (h,i,j,(k,m,o,p,q),r)).snd.snd.snd.snd=0) then
 bif decide (gv a b c g h i j k m o f d r p q=0) then
 (dD f c g (h,i,j,(k,m,o,p,q),r)).fst=
 (fC f (aV a b) b c d g (h,i,j,(k,m,o,p,q),r)).fst∧
 e=e∧
 f=f∧
 (dD f c g (h,i,j,(k,m,o,p,q),r)).snd.snd.fst=
 (fC f (aV a b) b c d g (h,i,j,(k,m,o,p,q),r)).snd.snd.fst∧
 (dD f c g (h,i,j,(k,m,o,p,q),r)).snd.snd.snd.fst.fst=
 lw a b c g h i j k m o f d r p q∧
 pp c g h i j k m o f r p q=lG a b c g h i j k m o f d r p q∧
 pg c g h i j k m o f r p q=lr a b c g h i j k m o f d r p q∧
 pi c g h i j k m o f r p q=lP a b c g h i j k m o f d r p q∧
 o9 c g h i j k m o f r p q=
 lF a b c g h i j k m o f d r p q∧
 pA c g h i j k m o f r p q=
 lI a b c g h i j k m o f d r p q∧
 pN c g h i j k m o f r p q=
 lg a b c g h i j k m o f d r p q∧
 pF c g h i j k m o f r p q=
 lp a b c g h i j k m o f d r p q∧
 rK c g h i j k m o f r p q=
 lL a b c g h i j k m o f d r p q
 else
 Miss 2 eS
 else
 bif decide (gv a b c g h i j k m o f d r p q=0) then
 Miss 2 eS
 else
 (dD f c g (h,i,j,(k,m,o,p,q),r)).fst=
 (fC f (aV a b) b c d g (h,i,j,(k,m,o,p,q),r)).fst∧
 e=e∧
 f=f∧
 (dD f c g (h,i,j,(k,m,o,p,q),r)).snd.snd.fst=
 (fC f (aV a b) b c d g (h,i,j,(k,m,o,p,q),r)).snd.snd.fst∧
 (dD f c g (h,i,j,(k,m,o,p,q),r)).snd.snd.snd.fst.fst=
 lw a b c g h i j k m o f d r p q∧
 pp c g h i j k m o f r p q=lG a b c g h i j k m o f d r p q∧
 pg c g h i j k m o f r p q=lr a b c g h i j k m o f d r p q∧
 pi c g h i j k m o f r p q=lP a b c g h i j k m o f d r p q∧
 o9 c g h i j k m o f r p q=
 lF a b c g h i j k m o f d r p q∧
 pA c g h i j k m o f r p q=
 lI a b c g h i j k m o f d r p q∧
 pN c g h i j k m o f r p q=
 lg a b c g h i j k m o f d r p q∧
 pF c g h i j k m o f r p q=
 lp a b c g h i j k m o f d r p q∧
 rK c g h i j k m o f r p q=
 lL a b c g h i j k m o f d r p q∧
 (dD f c g (h,i,j,(k,m,o,p,q),r)).snd.snd.snd.snd=
 gv a b c g h i j k m o f d r p q
 else
 mM f g (h,i,j,(k,m,o,p,q),r)∧
 bif decide ((gL f g (h,i,j,(k,m,o,p,q),r)).snd.snd.snd.snd=0) then
 bif decide (gv a b c g h i j k m o f d r p q=0) then
 (gL f g (h,i,j,(k,m,o,p,q),r)).fst=
 (fC f (aV a b) b c d g (h,i,j,(k,m,o,p,q),r)).fst∧
 e=e∧
 f=f∧
 (gL f g (h,i,j,(k,m,o,p,q),r)).snd.snd.fst=
 (fC f (aV a b) b c d g (h,i,j,(k,m,o,p,q),r)).snd.snd.fst∧
 pc g h i j k m o f r p q=lw a b c g h i j k m o f d r p q∧
 pI g h i j k m o f r p q=lG a b c g h i j k m o f d r p q∧
 pu g h i j k m o f r p q=lr a b c g h i j k m o f d r p q∧
 pf g h i j k m o f r p q=lP a b c g h i j k m o f d r p q∧
 o4 g h i j k m o f r p q=lF a b c g h i j k m o f d r p q∧
 oS g h i j k m o f r p q=
 lI a b c g h i j k m o f d r p q∧
 po g h i j k m o f r p q=
 lg a b c g h i j k m o f d r p q∧
 pm g h i j k m o f r p q=
 lp a b c g h i j k m o f d r p q∧
 rL g h i j k m o f r p q=
 lL a b c g h i j k m o f d r p q
 else
 Miss 2 eS
 else
 bif decide (gv a b c g h i j k m o f d r p q=0) then
 Miss 2 eS
 else
 (gL f g (h,i,j,(k,m,o,p,q),r)).fst=
 (fC f (aV a b) b c d g (h,i,j,(k,m,o,p,q),r)).fst∧
 e=e∧
 f=f∧
 (gL f g (h,i,j,(k,m,o,p,q),r)).snd.snd.fst=
 (fC f (aV a b) b c d g (h,i,j,(k,m,o,p,q),r)).snd.snd.fst∧
 pc g h i j k m o f r p q=lw a b c g h i j k m o f d r p q∧
 pI g h i j k m o f r p q=lG a b c g h i j k m o f d r p q∧
 pu g h i j k m o f r p q=lr a b c g h i j k m o f d r p q∧
 pf g h i j k m o f r p q=lP a b c g h i j k m o f d r p q∧
 o4 g h i j k m o f r p q=lF a b c g h i j k m o f d r p q∧
 oS g h i j k m o f r p q=
 lI a b c g h i j k m o f d r p q∧
 po g h i j k m o f r p q=
 lg a b c g h i j k m o f d r p q∧
 pm g h i j k m o f r p q=
 lp a b c g h i j k m o f d r p q∧
 rL g h i j k m o f r p q=
 lL a b c g h i j k m o f d r p q∧
 (gL f g (h,i,j,(k,m,o,p,q),r)).snd.snd.snd.snd=
 gv a b c g h i j k m o f d r p q
def XE:Prop:=
 ∀ (a b n_2:Int) (c:LD) (d:List Int) (e:LD) (f g h i j k m:Int) (o p:List Int) (q:LD) (r:Int),
 lM c→
 bu d→
 az e f∧r≠0→
 bif decide (a=1) then r≠0∧dh r f g h i j k m e q d o p
 else
 bif nh a b then
 (az e f∧r≠0)∧dh r f g h i j k m e q d o p
 else
 bif decide (a=2) then (az e f∧r≠0)∧dh r f g h i j k m e q d o p
 else (az e f∧r≠0)∧dh r f g h i j k m e q d o p
def PI:ac:=ak YM 24 (eF ain (eF agi (eF ajs (aq ahu))))
end
end Go.Proofs.YteiecapbaeajdaaGreatDoor
namespace Go.Proofs.YteiecapbaeajdaaGreatDoor
open Go Go.Avc Go.Proofs Go.Gr
set_option linter.unusedVariables false
set_option linter.unusedSimpArgs false
set_option maxRecDepth 100000
theorem ti {q:Int} (k t n:Int) {d0:LD} (hd:bX d0) {x:Sf} (h:bh q x):bh (q+1031) (bI k t n d0 x):=by
 have h1:=Lk k t n d0
 have h2:=hd.2
 rw [RV]
 exact bc (by omega) (Kp h (Oe k t n d0) _)
theorem akU:Y9:=by
 delta Y9 bu
 exact fun tg it p a b c d l s z m x _ _=>⟨trivial,rfl,rfl,rfl,rfl,rfl,rfl,rfl,rfl,rfl,rfl,rfl,rfl,rfl⟩
theorem ahl:Wy:=by
 delta Wy bu dh
 exact fun tg it p a b c d l s z m x w _ _=>⟨trivial,rfl,rfl,rfl,rfl,rfl,rfl,rfl,rfl,rfl,rfl,rfl,rfl,rfl,rfl⟩
theorem P3:(base.with Og).Ok:=ab HT (ci (ai am HT Tryz.func25 (by kernel_rfl) Tryz.call25 (by kernel_rfl) akU) (ci (ai am HT Tryz.func25 (by kernel_rfl) Tryz.call25 (by kernel_rfl) ahl) (HT.spec 25)))
theorem agC:Xs:=by
 delta Xs lM bu qj nK i9 z9 gg uB u9 kI rG rE pO vV u5
 exact fun k t n d0 tg it p a b c d l s z m x _ _ h=>⟨h,aa (fun e=>jG e ⟨rfl,rfl,rfl,rfl,rfl,rfl,rfl,rfl,rfl,rfl,rfl,rfl,rfl⟩) fun e=>cf e ⟨rfl,rfl,rfl,rfl,rfl,rfl,rfl,rfl,rfl,rfl,rfl,rfl,rfl,rfl⟩⟩
theorem abA:V1:=by
 delta V1 lM bu dh
 exact fun k t n d0 tg it p a b c d l s z m x w _ _ h=>⟨h,rfl,rfl,rfl,rfl,rfl,rfl,rfl,rfl,rfl,rfl,rfl,rfl,rfl,rfl⟩
theorem Qb:(base.with PD).Ok:=ab P3 (ci (ai am P3 Tryz.func92 (by kernel_rfl) Tryz.call92 (by kernel_rfl) agC) (ci (ai am P3 Tryz.func92 (by kernel_rfl) Tryz.call92 (by kernel_rfl) abA) (P3.spec 92)))
theorem aeQ:Yv:=by
 delta Yv bu qj nK i9 gg uB u9 kI rG Ba
 exact fun tg it p a b c d l s z m x _ _=>⟨trivial,aa (fun e=>jG e ⟨rfl,rfl,rfl,rfl,rfl,rfl,rfl,rfl,rfl,rfl,rfl,rfl,rfl⟩) fun e=>cf e ⟨rfl,rfl,rfl,rfl,rfl,rfl,rfl,rfl,rfl,rfl,rfl,rfl,rfl,rfl⟩⟩
theorem ag1:WT:=by
 delta WT bu dh
 exact fun tg it p a b c d l s z m x w _ _=>⟨trivial,rfl,rfl,rfl,rfl,rfl,rfl,rfl,rfl,rfl,rfl,rfl,rfl,rfl,rfl⟩
theorem Qs:(base.with Oy).Ok:=ab Qb (ci (ai am Qb Tryz.func27 (by kernel_rfl) Tryz.call27 (by kernel_rfl) aeQ) (ci (ai am Qb Tryz.func27 (by kernel_rfl) Tryz.call27 (by kernel_rfl) ag1) (Qb.spec 27)))
theorem aj8:Xa:=by
 delta Xa lM bu qj nK i9 z9 gg uB u9 kI rG rE pO vV u5 Ba gz we jW jX kb j5 jZ j2 j7 ls FR ZR AH Bp A7 Av Br
 rintro t d0 tg it p a b c d l s z m x _ _ ⟨hb,hp,hq⟩
 refine ⟨trivial,hb.2,aa (fun e=> ?_) fun e=> ?_⟩
 ·have e:=au e
  have hr:dK it t d0 p (a,b,c,(d,l,s,z,m),x)=(a9 t d0,[],p,(a,b,c,(d,l,s,z,m),x),a9 t d0):=by rw [dK,al,if_pos e]
  rw [hr]
  exact ⟨trivial,aa (fun e'=>absurd (au e') e) fun _=>aa (fun e'=>absurd (au e') e) fun _=>⟨rfl,rfl,rfl,rfl,rfl,rfl,rfl,rfl,rfl,rfl,rfl,rfl,rfl,rfl⟩⟩
 ·have e:=aw e
  refine ⟨hp,aa (fun g=> ?_) fun g=> ?_⟩
  ·have g':¬ cm it p 1 t (aX t d0)=false:=by rw [g];decide
   refine ⟨hb,aa (fun k=> ?_) fun k=> ?_⟩
   ·have k:=au k
    have hr:dK it t d0 p (a,b,c,(d,l,s,z,m),x)=(cG t d0,[],p+1,(a,b,c,(d,l,s,z,m),x),cG t d0):=by rw [dK,al,if_neg e,if_neg g',if_pos k]
    rw [hr]
    exact ⟨trivial,aa (fun e'=>absurd (au e') k) fun _=>aa (fun e'=>absurd (au e') k) fun _=>⟨rfl,rfl,rfl,rfl,rfl,rfl,rfl,rfl,rfl,rfl,rfl,rfl,rfl,rfl⟩⟩
   ·have k:=aw k
    have hr:dK it t d0 p (a,b,c,(d,l,s,z,m),x)=(0,[],p+1,bI 1 t (aX t d0) d0 (a,b,c,(d,l,s,z,m),x),0):=by rw [dK,al,if_neg e,if_neg g',if_neg k]
    rw [hr]
    exact ⟨⟨hb,bc (by decide) hq⟩,aa (fun _=>⟨rfl,rfl,rfl,rfl,rfl,rfl,rfl,rfl,rfl,rfl,rfl,rfl,rfl⟩) fun e'=>jn rfl e'⟩
  ·have hr:dK it t d0 p (a,b,c,(d,l,s,z,m),x)=(10,[],p,(a,b,c,(d,l,s,z,m),x),10):=by rw [dK,al,if_neg e,if_pos g]
   rw [hr]
   exact aa (fun e'=>iM yx e') fun _=>⟨rfl,rfl,rfl,rfl,rfl,rfl,rfl,rfl,rfl,rfl,rfl,rfl,rfl,rfl⟩
theorem ajS:WY:=by
 delta WY lM bu dh AH Bp A7 Av Br
 exact fun t d0 tg it p a b c d l s z m x w _ _ h=>⟨trivial,aa (fun _=>⟨rfl,rfl,rfl,rfl,rfl,rfl,rfl,rfl,rfl,rfl,rfl,rfl,rfl,rfl⟩) fun e=>jn h e⟩
theorem P5:(base.with PV).Ok:=ab Qs (ci (ai am Qs Tryz.func51 (by kernel_rfl) Tryz.call51 (by kernel_rfl) aj8) (ci (ai am Qs Tryz.func51 (by kernel_rfl) Tryz.call51 (by kernel_rfl) ajS) (Qs.spec 51)))
theorem acG:YP:=by
 delta YP bu qj nK i9 z9 gg uB u9 kI rG rE pO vV u5 ic cz oR oL oT pB pL o8 oZ rA M8 Mw MQ
 rintro n tg it p a b c d l s z m x _ ⟨h0,h1,hp,hq⟩
 refine ⟨hp,aa (fun g=> ?_) fun g=> ?_⟩
 ·have g':¬ cm it p 2 1 n=false:=by rw [g];decide
  have hr:fB it n p (a,b,c,(d,l,s,z,m),x)=(0,(bG n (bI 2 1 n [] (a,b,c,(d,l,s,z,m),x))).1,p+1,(bG n (bI 2 1 n [] (a,b,c,(d,l,s,z,m),x))).2,0):=by rw [fB,al,if_neg g']
  rw [hr]
  exact ⟨⟨ko,bc (by decide) hq⟩,⟨h0,by omega,bc (by decide) (ti 2 1 n ko hq)⟩,aa (fun _=>⟨rfl,rfl,rfl,rfl,rfl,rfl,rfl,rfl,rfl,rfl,rfl,rfl,rfl,rfl⟩) fun e'=>jn rfl e'⟩
 ·have hr:fB it n p (a,b,c,(d,l,s,z,m),x)=(10,[],p,(a,b,c,(d,l,s,z,m),x),10):=by rw [fB,al,if_pos g]
  rw [hr]
  exact aa (fun e'=>iM yx e') fun _=>⟨rfl,rfl,rfl,rfl,rfl,rfl,rfl,rfl,rfl,rfl,rfl,rfl,rfl,rfl⟩
theorem aeX:Zl:=by
 delta Zl bu dh qj nK i9 gg kI Ba ic cz M8 Mw MQ
 exact fun n tg it p a b c d l s z m x w _ h=>⟨h,aa (fun _=>⟨rfl,rfl,rfl,rfl,rfl,rfl,rfl,rfl,rfl,rfl,rfl,rfl,rfl,rfl⟩) fun e=>jn h.2 e⟩
theorem OG:(base.with Qg).Ok:=ab P5 (ci (ai am P5 Tryz.func52 (by kernel_rfl) Tryz.call52 (by kernel_rfl) acG) (ci (ai am P5 Tryz.func52 (by kernel_rfl) Tryz.call52 (by kernel_rfl) aeX) (P5.spec 52)))
theorem aiD:VQ:=by
 delta VQ bu qj nK i9 z9 gg uB u9 kI rG rE pO vV u5 ic cA pp pg pi o9 pA pN pF rK NW NI Mr
 rintro n tg it p a b c d l s z m x _ ⟨h0,h1,hp,hq⟩
 refine ⟨hp,aa (fun g=> ?_) fun g=> ?_⟩
 ·have g':¬ cm it p 2 3 n=false:=by rw [g];decide
  have hr:dD it n p (a,b,c,(d,l,s,z,m),x)=(0,gO (bI 2 3 n [] (a,b,c,(d,l,s,z,m),x)) n.toNat,p+1,bF (bI 2 3 n [] (a,b,c,(d,l,s,z,m),x)) n.toNat,0):=by rw [dD,al,if_neg g']
  rw [hr]
  exact ⟨⟨ko,bc (by decide) hq⟩,⟨bc (by decide) (ti 2 3 n ko hq),by omega⟩,aa (fun _=>⟨rfl,rfl,rfl,rfl,rfl,rfl,rfl,rfl,rfl,rfl,rfl,rfl,rfl,rfl⟩) fun e'=>jn rfl e'⟩
 ·have hr:dD it n p (a,b,c,(d,l,s,z,m),x)=(10,[],p,(a,b,c,(d,l,s,z,m),x),10):=by rw [dD,al,if_pos g]
  rw [hr]
  exact aa (fun e'=>iM yx e') fun _=>⟨rfl,rfl,rfl,rfl,rfl,rfl,rfl,rfl,rfl,rfl,rfl,rfl,rfl,rfl⟩
theorem abP:YG:=by
 delta YG bu dh qj nK i9 gg kI Ba ic cA NW NI Mr
 exact fun n tg it p a b c d l s z m x w _ h=>⟨h,aa (fun _=>⟨rfl,rfl,rfl,rfl,rfl,rfl,rfl,rfl,rfl,rfl,rfl,rfl,rfl,rfl⟩) fun e=>jn h.2 e⟩
theorem Pk:(base.with OK).Ok:=ab OG (ci (ai am OG Tryz.func53 (by kernel_rfl) Tryz.call53 (by kernel_rfl) aiD) (ci (ai am OG Tryz.func53 (by kernel_rfl) Tryz.call53 (by kernel_rfl) abP) (OG.spec 53)))
theorem afn:WB:=by
 delta WB bu qj nK i9 z9 gg uB u9 kI rG rE pO vV u5 ic dy pc pI pu pf A8 o4 AU oS Au po AX pm rL ZX
 rintro tg it p a b c d l s z m x _ ⟨hp,hq⟩
 refine ⟨hp,aa (fun g=> ?_) fun g=> ?_⟩
 ·have g':¬ cm it p 3 0 1=false:=by rw [g];decide
  have hr:gL it p (a,b,c,(d,l,s,z,m),x)=(0,[],p+1,iW (bI 3 0 1 [] (a,b,c,(d,l,s,z,m),x)),0):=by rw [gL,al,if_neg g']
  rw [hr]
  exact ⟨⟨ko,bc (by decide) hq⟩,bc (by decide) (ti 3 0 1 ko hq),aa (fun _=>⟨rfl,rfl,rfl,rfl,rfl,rfl,rfl,rfl,rfl,rfl,rfl,rfl,rfl⟩) fun e'=>jn rfl e'⟩
 ·have hr:gL it p (a,b,c,(d,l,s,z,m),x)=(10,[],p,(a,b,c,(d,l,s,z,m),x),10):=by rw [gL,al,if_pos g]
  rw [hr]
  exact aa (fun e'=>iM yx e') fun _=>⟨rfl,rfl,rfl,rfl,rfl,rfl,rfl,rfl,rfl,rfl,rfl,rfl,rfl,rfl⟩
theorem akb:Zy:=by
 delta Zy bu dh ic dy A8 AU Au AX
 exact fun tg it p a b c d l s z m x w _ h=>⟨h,aa (fun e=>iM h.2 e) fun _=>⟨rfl,rfl,rfl,rfl,rfl,rfl,rfl,rfl,rfl,rfl,rfl,rfl,rfl,rfl⟩⟩
theorem Kr:(base.with YM).Ok:=ab Pk (ci (ai am Pk Tryz.func54 (by kernel_rfl) Tryz.call54 (by kernel_rfl) afn) (ci (ai am Pk Tryz.func54 (by kernel_rfl) Tryz.call54 (by kernel_rfl) akb) (Pk.spec 54)))
theorem Py (t:Int):aV 1 t=0:=if_pos rfl
theorem Pd:aV 2 1=1:=by decide
theorem O4 {t:Int} (h:t≠1):aV 2 t=2:=by
 unfold aV
 rw [if_neg (by decide),if_neg (fun e=>h e.2),if_pos rfl]
theorem OM {k t:Int} (h1:k≠1) (h2:k≠2):aV k t=3:=by
 unfold aV
 rw [if_neg h1,if_neg (fun e=>h2 e.1),if_neg h2]
theorem V6 (it t n d p x):c5 it 0 t n d p x=bP it t d p x:=by rw [c5,al,if_pos rfl]
theorem Y0 (it t n d p x):c5 it 1 t n d p x=cP it n p x:=by rw [c5,al,if_neg (by decide),if_pos rfl]
theorem ZD (it t n d p x):c5 it 2 t n d p x=((bQ it n p x).1,II (bQ it n p x).2.1,(bQ it n p x).2.2):=by rw [c5,al,if_neg (by decide),if_neg (by decide),if_pos rfl]
theorem ZO (it t n d p x):c5 it 3 t n d p x=cW it p x:=by rw [c5,al,if_neg (by decide),if_neg (by decide),if_neg (by decide),if_pos rfl]
theorem afS (it t n d p x):fC it 0 t n d p x=dK it t d p x:=by rw [fC,al,if_pos rfl]
theorem ajz (it t n d p x):fC it 1 t n d p x=fB it n p x:=by rw [fC,al,if_neg (by decide),if_pos rfl]
theorem abw (it t n d p x):fC it 2 t n d p x=((dD it n p x).1,II (dD it n p x).2.1,(dD it n p x).2.2):=by rw [fC,al,if_neg (by decide),if_neg (by decide),if_pos rfl]
theorem ado (it t n d p x):fC it 3 t n d p x=gL it p x:=by rw [fC,al,if_neg (by decide),if_neg (by decide),if_neg (by decide),if_pos rfl]
theorem aiL:Xb:=by
 delta Xb lM bu i9 kI gy ly lh lD lA N0 abn uw aaD NO nh ZP Z5 aaF
 rintro k t n d0 tg it p a b c s _ _ ⟨hb,hn,hp⟩
 refine aa (fun h1=> ?_) fun h1=> ?_
 ·have h1:=au h1
  subst h1
  rw [Py,V6]
  exact ⟨⟨hb,hp⟩,aa (fun e=>aa (fun _=>⟨rfl,rfl,rfl,rfl,rfl,rfl,rfl,rfl⟩) fun e'=>eD e e') fun e=>aa (fun e'=>eD e' e) fun _=>⟨rfl,rfl,rfl,rfl,rfl,rfl,rfl,rfl,rfl⟩⟩
 have h1:=aw h1
 refine aa (fun h2=> ?_) fun h2=> ?_
 ·simp only [cZ,aQ] at h2
  obtain ⟨e1,e2⟩:=h2
  subst e1 e2
  rw [Pd,Y0]
  exact ⟨⟨(hn rfl).1,(hn rfl).2,hp⟩,aa (fun e=>aa (fun _=>⟨rfl,rfl,rfl,rfl,rfl,rfl,rfl,rfl⟩) fun e'=>eD e e') fun e=>aa (fun e'=>eD e' e) fun _=>⟨rfl,rfl,rfl,rfl,rfl,rfl,rfl,rfl,rfl⟩⟩
 simp only [atd,aT] at h2
 refine aa (fun h3=> ?_) fun h3=> ?_
 ·have h3:=au h3
  subst h3
  rw [O4 (by rcases h2 with h | h;exact absurd rfl h;exact h),ZD]
  exact ⟨⟨(hn rfl).1,(hn rfl).2,hp⟩,aa (fun e=>aa (fun _=>⟨rfl,rfl,rfl,rfl,rfl,rfl,rfl,rfl⟩) fun e'=>eD e e') fun e=>aa (fun e'=>eD e' e) fun _=>⟨rfl,rfl,rfl,rfl,rfl,rfl,rfl,rfl,rfl⟩⟩
 ·have h3:=aw h3
  rw [OM h1 h3,ZO]
  exact ⟨hp,aa (fun e=>aa (fun _=>⟨rfl,rfl,rfl,rfl,rfl,rfl,rfl,rfl⟩) fun e'=>eD e e') fun e=>aa (fun e'=>eD e' e) fun _=>⟨rfl,rfl,rfl,rfl,rfl,rfl,rfl,rfl,rfl⟩⟩
theorem aeu:Zi:=by
 delta Zi lM bu nh vf
 exact fun k t n d0 tg it p a b c s w _ _ h=>aa (fun _=>⟨h.2,rfl,rfl,rfl,rfl,rfl,rfl,rfl,rfl,rfl⟩) fun _=>aa (fun _=>⟨h,rfl,rfl,rfl,rfl,rfl,rfl,rfl,rfl,rfl⟩) fun _=>aa (fun _=>⟨h,rfl,rfl,rfl,rfl,rfl,rfl,rfl,rfl,rfl⟩) fun _=>⟨h,rfl,rfl,rfl,rfl,rfl,rfl,rfl,rfl,rfl⟩
theorem aiG:W4:=by
 delta W4 lM bu nK i9 gg kI pO gz jW jX kb j5 jZ j2 j7 ls oR oL oT pB pL o8 oZ rA pp pg pi o9 pA pN pF rK pc pI pu pf o4 oS po pm rL N0 NO nh gv lw lG lr lP lF lI lg lp lL ZY aae UI Vi TP UD U7 UW
 rintro k t n d0 tg it p a b c d l s z m x _ _ ⟨hb,hn,hp⟩
 refine aa (fun h1=> ?_) fun h1=> ?_
 ·have h1:=au h1
  subst h1
  rw [Py,afS]
  exact ⟨⟨hb,hp⟩,aa (fun e=>aa (fun _=>⟨rfl,rfl,rfl,rfl,rfl,rfl,rfl,rfl,rfl,rfl,rfl,rfl,rfl⟩) fun e'=>eD e e') fun e=>aa (fun e'=>eD e' e) fun _=>⟨rfl,rfl,rfl,rfl,rfl,rfl,rfl,rfl,rfl,rfl,rfl,rfl,rfl,rfl⟩⟩
 have h1:=aw h1
 refine aa (fun h2=> ?_) fun h2=> ?_
 ·simp only [cZ,aQ] at h2
  obtain ⟨e1,e2⟩:=h2
  subst e1 e2
  rw [Pd,ajz]
  exact ⟨⟨(hn rfl).1,(hn rfl).2,hp⟩,aa (fun e=>aa (fun _=>⟨rfl,rfl,rfl,rfl,rfl,rfl,rfl,rfl,rfl,rfl,rfl,rfl,rfl⟩) fun e'=>eD e e') fun e=>aa (fun e'=>eD e' e) fun _=>⟨rfl,rfl,rfl,rfl,rfl,rfl,rfl,rfl,rfl,rfl,rfl,rfl,rfl,rfl⟩⟩
 simp only [atd,aT] at h2
 refine aa (fun h3=> ?_) fun h3=> ?_
 ·have h3:=au h3
  subst h3
  rw [O4 (by rcases h2 with h | h;exact absurd rfl h;exact h),abw]
  exact ⟨⟨(hn rfl).1,(hn rfl).2,hp⟩,aa (fun e=>aa (fun _=>⟨rfl,rfl,rfl,rfl,rfl,rfl,rfl,rfl,rfl,rfl,rfl,rfl,rfl⟩) fun e'=>eD e e') fun e=>aa (fun e'=>eD e' e) fun _=>⟨rfl,rfl,rfl,rfl,rfl,rfl,rfl,rfl,rfl,rfl,rfl,rfl,rfl,rfl⟩⟩
 ·have h3:=aw h3
  rw [OM h1 h3,ado]
  exact ⟨hp,aa (fun e=>aa (fun _=>⟨rfl,rfl,rfl,rfl,rfl,rfl,rfl,rfl,rfl,rfl,rfl,rfl,rfl⟩) fun e'=>eD e e') fun e=>aa (fun e'=>eD e' e) fun _=>⟨rfl,rfl,rfl,rfl,rfl,rfl,rfl,rfl,rfl,rfl,rfl,rfl,rfl,rfl⟩⟩
theorem ab7:XE:=by
 delta XE lM bu dh nh
 exact fun k t n d0 tg it p a b c d l s z m x w _ _ h=>aa (fun _=>⟨h.2,rfl,rfl,rfl,rfl,rfl,rfl,rfl,rfl,rfl,rfl,rfl,rfl,rfl,rfl⟩) fun _=>aa (fun _=>⟨h,rfl,rfl,rfl,rfl,rfl,rfl,rfl,rfl,rfl,rfl,rfl,rfl,rfl,rfl⟩) fun _=>aa (fun _=>⟨h,rfl,rfl,rfl,rfl,rfl,rfl,rfl,rfl,rfl,rfl,rfl,rfl,rfl,rfl⟩) fun _=>⟨h,rfl,rfl,rfl,rfl,rfl,rfl,rfl,rfl,rfl,rfl,rfl,rfl,rfl,rfl⟩
theorem aiM:(base.with PI).Ok:=ab Kr (ci (ai am Kr Tryz.func24 (by kernel_rfl) Tryz.call24 (by kernel_rfl) aiL) (ci (ai am Kr Tryz.func24 (by kernel_rfl) Tryz.call24 (by kernel_rfl) aeu) (ci (ai am Kr Tryz.func24 (by kernel_rfl) Tryz.call24 (by kernel_rfl) aiG) (ai am Kr Tryz.func24 (by kernel_rfl) Tryz.call24 (by kernel_rfl) ab7))))
end Go.Proofs.YteiecapbaeajdaaGreatDoor
namespace Go.Proofs.YteiecapbaeajdaaGreatDoor
open Go Go.Avc Go.Gr
set_option linter.unusedVariables false
noncomputable def VX:ac:=ak PI 25 (wR (PI 25))
theorem auV:(base.with VX).Ok:=ab aiM (Fq (aiM.spec 25))
def Va (l:LD):Prop:=∀ i,i<l.length→jf (opB l i)
def SD (l:LD):Nat→LD
 | 0=> []
 | i+1=>SD l i++ [[.int (opC l i 0),.int (opC l i 1),.int (opC l i 2),.str []]]
def ct6:Ct:= {ps:= [.bool,.rd eg,.rd JM],bs:= [],pre:=fun | [.b _,.r a,.r l] =>Va l | _=>False,res:=fun _=> .ret .bool [] [.b true]}
def ld (a l a' l':LD) (n i:Int) (it:LD) (cl:LD):Prop:=a'=a∧l'=l∧a.length≤6∧l.length≤6∧(cL (ar a)).2.2=0∧n=l.length∧0≤i∧i≤n∧it=dg (ar a)∧cl=SD l i.toNat
def mE:Int:=10000000
abbrev Nf (k:Nat):List (Nat×Pat):= [(1,.rd eg),(11,.ptr 0 0),(14,.own k),(55,.rd JM),(56,i64),(57,i64)]
abbrev M3:BPat:= .own 65 eg
noncomputable def ajh:List Dat→Ann
 | [.b _,.r a,.r l] =>⟨[],[],[(14,[la 125 (Nf 4) (me++ [M3]) kf jS,la 125 (Nf 5) (ss++ [M3]) kf jS,la 125 [] [] kf jS],fun
  | [_,_,_,_,_,_,_,_,_,_,_,_] => [
   la 125 (Nf 4) (me++ [M3]) (fun
   | [.r a',.r l',.i n,.i i,.li _,.r it,.i p,.i q1,.i q2,.i q3,.r q4,.r cl] =>ld a l a' l' n i it cl∧p=i∧bj (ar a) (ar cl)=true∧cg (mE*i) (q1,q2,q3,q4)
   | _=>False) (fun | [_,_,.i n,.i i,_,_,_,_,_,_,_,_] =>(n-i).toNat | _=>0),
   la 125 (Nf 5) (np++ [M3]) (fun
   | [.r a',.r l',.i n,.i i,.li _,.r it,.i p,.i _,.i _,.i _,.r _,.i w,.r cl] =>ld a l a' l' n i it cl∧az it p∧w≠0∧w≠11∧bj (ar a) (ar cl)=false
   | _=>False) (fun | [_,_,.i n,.i i,_,_,_,_,_,_,_,_,_] =>(n-i).toNat | _=>0)]
  | [_,_,_,_,_,_,_,_,_,_,_,_,_,_,_,_,_] => [
   la 125 (Nf 5) (ss++ [M3]) (fun
   | [.r a',.r l',.i n,.i i,.li _,.r it,.i p,.i q1,.i q2,.i q3,.i d,.i lk,.i s,.li z,.li m,.r x,.r cl] =>ld a l a' l' n i it cl∧p=i∧bj (ar a) (ar cl)=true∧bh (mE*i) (q1,q2,q3,(d,lk,s,z,m),x)
   | _=>False) (fun | [_,_,.i n,.i i,_,_,_,_,_,_,_,_,_,_,_,_,_] =>(n-i).toNat | _=>0),
   la 125 (Nf 6) (nd++ [M3]) (fun
   | [.r a',.r l',.i n,.i i,.li _,.r it,.i p,.i _,.i _,.i _,.i _,.i _,.i _,.li _,.li _,.r _,.i w,.r cl] =>ld a l a' l' n i it cl∧az it p∧w≠0∧w≠11∧bj (ar a) (ar cl)=false
   | _=>False) (fun | [_,_,.i n,.i i,_,_,_,_,_,_,_,_,_,_,_,_,_,_] =>(n-i).toNat | _=>0)]
  | _=> [la 125 [] [] (fun _=>False) jS])]⟩
 | _=> {cut:= [],loop:= []}
end Go.Proofs.YteiecapbaeajdaaGreatDoor
namespace Go.Proofs.YteiecapbaeajdaaGreatDoor
open Go Go.Avc Go.Proofs
set_option linter.unusedVariables false
set_option maxRecDepth 100000
noncomputable section
abbrev mi (a:LD):LD:=
 aj (cL (ar a)).fst
abbrev bY (a:Int)(b:LD):LD:=
 ((b.getD a.toNat []).getD 3 (.int 0)).toSl
abbrev yM (a:Int)(b:LD):Prop:=
 (!decide ((100:Int)<(↑(bY a b).length:Int)))=true→
 bX (bY a b)
abbrev cw (a:Int)(b:LD):Int:=
 ((b.getD a.toNat []).getD 0 (.int 0)).toInt
abbrev ba (a:Int)(b:LD):Int:=
 ((b.getD a.toNat []).getD 1 (.int 0)).toInt
abbrev cy (a:Int)(b:LD):Int:=
 ((b.getD a.toNat []).getD 2 (.int 0)).toInt
abbrev yE (a:Int)(b:LD):Bool:=
 decide ((100:Int)<(↑(bY a b).length:Int)) ||
 !fA (cw a b) (ba a b)
 (cy a b) (bY a b) ||
 decide (cw a b=2)&&decide ((100:Int)<cy a b)
abbrev yO (a:LD):Prop:=
 aR (a.length+1) 40
abbrev sj (a b c d e f g h:Int)(i j k:LD)(m o:List Int):Int:=
 (fC i
 (aV (cw a j) (ba a j))
 (ba a j) (cy a j) (bY a j) b
 (c,d,e,(f,g,h,m,o),k)).snd.snd.snd.snd
abbrev zI (a b c d e f g h:Int)(i j k:LD)(m o:List Int):Bool:=
 decide
 ((fC i
 (aV (cw a j) (ba a j))
 (ba a j) (cy a j) (bY a j) b
 (c,d,e,(f,g,h,m,o),k)).fst=
 (11:Int))
abbrev oM (a:List Int):Blk:=
 .cells (128:TypeId)
 [.ptr 1 0,.arrI 32 .u8 a,.iface (137:TypeId) (.agg [.ptr 2 0])]
abbrev dY:List CSh:=
 [.int .i64,.int .i64,.int .i64,.str]
abbrev oQ (a b c d e f g h:Int)(i j k:LD)(m o:List Int):Int:=
 (fC i
 (aV (cw a j) (ba a j))
 (ba a j) (cy a j) (bY a j) b
 (c,d,e,(f,g,h,m,o),k)).snd.snd.fst
abbrev uM (a b c d e f g h:Int)(i j k:LD)(m o:List Int):Blk:=
 .cells (300:TypeId)
 [.iface (259:TypeId) (.agg [.ptr 3 0]),.own 4,
 .int .i64
 (fC i
 (aV (cw a j) (ba a j))
 (ba a j) (cy a j) (bY a j) b
 (c,d,e,(f,g,h,m,o),k)).snd.snd.snd.fst.fst,
 .int .i64
 (fC i
 (aV (cw a j) (ba a j))
 (ba a j) (cy a j) (bY a j) b
 (c,d,e,(f,g,h,m,o),k)).snd.snd.snd.fst.snd.fst,
 .int .i64
 (fC i
 (aV (cw a j) (ba a j))
 (ba a j) (cy a j) (bY a j) b
 (c,d,e,(f,g,h,m,o),k)).snd.snd.snd.fst.snd.snd.fst]
abbrev jo (a b c d e f g h:Int)(i j k:LD)(m o:List Int):BG:=
 (fC i
 (aV (cw a j) (ba a j))
 (ba a j) (cy a j) (bY a j) b
 (c,d,e,(f,g,h,m,o),k)).snd.snd.snd.fst.snd.snd.snd.fst
abbrev vQ (a b c d e f g h:Int)(i j k:LD)(m o:List Int):Blk:=
 .cells (318:TypeId)
 [.int .u32 (jo a b c d e f g h i j k m o).fst,
 .int .i32 (jo a b c d e f g h i j k m o).snd.fst,
 .int .u32 (jo a b c d e f g h i j k m o).snd.snd.fst,
 .arrI 780 .u64 (jo a b c d e f g h i j k m o).snd.snd.snd.fst,
 .arrI 36 .u64 (jo a b c d e f g h i j k m o).snd.snd.snd.snd]
abbrev Gd (a b c d e f g h:Int)(i j k:LD)(m o:List Int):LD:=
 (fC i
 (aV (cw a j) (ba a j))
 (ba a j) (cy a j) (bY a j) b
 (c,d,e,(f,g,h,m,o),k)).snd.snd.snd.fst.snd.snd.snd.snd
abbrev vT (a b c d e f g h:Int)(i j k:LD)(m o:List Int):Blk:=
 .own (76:TypeId) [.int .u64,.int .u64,.int .u64,.int .u64]
 (Gd a b c d e f g h i j k m o)
abbrev As (a:Int)(b:LD):Blk:=
 .cells (62:Nat)
 [.int .i64 (cw a b),.int .i64 (ba a b),
 .int .i64 (cy a b),.rd [.int .u8] (bY a b)]
abbrev Bj (a:Int)(b:LD):Blk:=
 .own (65:Nat) dY
 [[.int (cw a b),.int (ba a b),
 .int (cy a b),.str []]]
abbrev jV (a:Int)(b c:LD):LD:=
 b++
 [[.int (cw a c),.int (ba a c),
 .int (cy a c),.str []]]
abbrev v6 (a:Int)(b c:LD):List Blk:=
 [.none,As a b,Bj a b,
 .own (65:Nat) dY (jV a c b)]
abbrev uJ:List Nat:=
 [0,1,2,3,4]
abbrev j8 (a:Int)(b c d:LD):Bool:=
 bj (ar b)
 (ar (jV a c d))
abbrev rt (a b:Int):Prop:=
 (a-(b+1)).toNat<(a-b).toNat
abbrev ux (a b:LD):Prop:=
 decide ((↑a.length:Int)=(↑b.length:Int))=true→True
abbrev uW (a b:LD):Bool:=
 decide ((↑a.length:Int)=(↑b.length:Int)) &&
 bj (ar b) (ar a)
abbrev FL (a:Int)(b c d:LD):Prop:=
 True∧
 bif decide (a=↑b.length) then
 lM c→
 lM d→
 ux c d∧(decide ((0:Int)=0)==uW c d)=true
 else
 lM c→
 lM d→
 ux c d∧(decide ((12:Int)=0)==uW c d)=true
abbrev GD (a b c:Int):Blk:=
 .cells (300:TypeId)
 [.iface (259:TypeId) (.agg [.ptr 3 0]),.own 4,.int .i64 a,.int .i64 b,
 .int .i64 c]
abbrev Ge (a b c:Int)(d e:List Int):Blk:=
 .cells (318:TypeId)
 [.int .u32 a,.int .i32 b,.int .u32 c,.arrI 780 .u64 d,
 .arrI 36 .u64 e]
abbrev GK (a b c d:Int)(e f g h i j:LD):Prop:=
 bif decide (a=11)||decide (a=11) then true=true
else
 True∧
 bif decide (a=0) !=j8 b e f g then false=true
 else
 iR (b+1)∧
 (ld h i e g c (b+1) j (jV b f g)∧
 az j d∧a≠0∧a≠11∧j8 b h f g=false)∧
 rt c b
abbrev Gs (a b:LD):Prop:=
 bif decide ((eN (ah (mi a))).snd.snd≠0)||true then false=true
else lM b→(False∧True)∧(False→False)
abbrev o6 (a b c d e:Int)(f g h:LD):Int:=
 (c5 f
 (aV (cw a g) (ba a g))
 (ba a g) (cy a g) (bY a g) b
 (c,d,e,h)).snd.snd.snd.snd
abbrev vM (a b c d e:Int)(f g h:LD):Bool:=
 decide
 ((c5 f
 (aV (cw a g) (ba a g))
 (ba a g) (cy a g) (bY a g) b (c,d,e,h)).fst=
 (11:Int))
abbrev o7 (a:List Int):Blk:=
 .cells (128:TypeId)
 [.ptr 1 0,.arrI 32 .u8 a,.iface (133:TypeId) (.agg [.ptr 2 0])]
abbrev oV (a b c d e:Int)(f g h:LD):Int:=
 (c5 f
 (aV (cw a g) (ba a g))
 (ba a g) (cy a g) (bY a g) b
 (c,d,e,h)).snd.snd.fst
abbrev lK (a b c d e:Int)(f g h:LD):Sp:=
 (c5 f
 (aV (cw a g) (ba a g))
 (ba a g) (cy a g) (bY a g) b
 (c,d,e,h)).snd.snd.snd.fst
abbrev uu (a b c d e:Int)(f g h:LD):Blk:=
 .cells (298:TypeId)
 [.iface (253:TypeId) (.agg []),.own 3,.int .i64 (lK a b c d e f g h).fst,
 .int .i64 (lK a b c d e f g h).snd.fst,
 .int .i64 (lK a b c d e f g h).snd.snd.fst]
abbrev vP (a b c d e:Int)(f g h:LD):Blk:=
 .own (5:TypeId) [.int .u8] (lK a b c d e f g h).snd.snd.snd
abbrev Gb (a b c d e:Int)(f g h i j:LD):Bool:=
 decide
 ((c5 f
 (aV (cw a g) (ba a g))
 (ba a g) (cy a g) (bY a g) b (c,d,e,h)).fst=
 (0:Int)) !=
 j8 a i j g
abbrev Fs (a b c:Int):Blk:=
 .cells (298:TypeId)
 [.iface (253:TypeId) (.agg []),.own 3,.int .i64 a,.int .i64 b,.int .i64 c]
def P6:Prop:=
 ∀ (a:Bool) (b c:LD),
 lM b→
 lM c→
 Va c→
 True∧
 (((bw false !true)=true→lM b)→
 (bw false (!true||decide ((6:Int)<↑b.length))=true→lM c)→
 bif !true||decide ((6:Int)<↑b.length)||decide ((6:Int)<↑c.length) then True∧true=true
 else
 qK b∧
 bif decide ((cL (ar b)).snd.snd≠0) then true=true
 else
 bif a then
 fk (mi b)∧
 bif decide ((eN (ah (mi b))).snd.snd=0) then
 lM c→
 ((ld b c b c ↑c.length (0:Int)
 (oF (mi b)) [] ∧
 (0:Int)=0∧
 bj (ar b) [] =true∧
 bh (mE*0)
 ((0:Int),2,0,
 ((0:Int),0,0,fl,jv),
 ve
 [cF
 (jp
 (List.map ae
 (sF (2:Int) (mi b))))]))∧
 True)∧
 (∀ (d e:LD) (f g:Int) (h:List Int) (i:LD) (j k m o p q r:Int) (s t:List Int)
 (u v:LD),
 lM d→
 lM e→
 h.length=32→
 lM v→
 ld b c d e f g i v∧
 j=g∧
 bj (ar b)
 (ar v)=
 true∧
 bh (mE*g) (k,m,o,(p,q,r,s,t),u)→
 bif decide (g<f) then
 bR g e∧
 g.toNat<e.length∧
 (lM (bY g e)→
 yM g e∧
 bif yE g e then true=true
 else
 yO v∧
 (bX (bY g e)∧
 Fp (cw g e)
 (cy g e)∧
 mM i j (k,m,o,(p,q,r,s,t),u))∧
 bif decide (sj g j k m o p q r i e u s t=0) then
 ((!zI g j k m o p q r i e u s t)=true→
 True∧
 j6
 (oM h::
 .cells (185:TypeId)
 [.rd dY i,
 .int .i64 (oQ g j k m o p q r i e u s t),
 .nilp] ::
 uM g j k m o p q r i e u s t::
 vQ g j k m o p q r i e u s t::
 vT g j k m o p q r i e u s t::
 v6 g e v)
 (cO (cx uJ (9:Nat))
 uJ
 [oM h,
 .cells (185:TypeId)
 [.rd dY i,
 .int .i64 (oQ g j k m o p q r i e u s t),
 .nilp],
 uM g j k m o p q r i e u s t,
 vQ g j k m o p q r i e u s t,
 vT g j k m o p q r i e u s t]))∧
 bif zI g j k m o p q r i e u s t||decide ((0:Int)=11) then
 true=true
 else
 True∧
 bif
 decide
 ((fC i
 (aV (cw g e)
 (ba g e))
 (ba g e) (cy g e)
 (bY g e) j (k,m,o,(p,q,r,s,t),u)).fst=
 (0:Int)) !=
 j8 g d v e then
 false=true
 else
 iR (g+1)∧
 (ld b c d e f (g+1) i
 (jV g v e)∧
 oQ g j k m o p q r i e u s t=g+1∧
 j8 g b v e=true∧
 bh
 (mE*(g+1))
 ((fC i
 (aV
 (cw g e)
 (ba g e))
 (ba g e)
 (cy g e)
 (bY g e) j
 (k,m,o,(p,q,r,s,t),u)).snd.snd.snd.fst.fst,
 (fC i
 (aV
 (cw g e)
 (ba g e))
 (ba g e)
 (cy g e)
 (bY g e) j
 (k,m,o,(p,q,r,s,t),u)).snd.snd.snd.fst.snd.fst,
 (fC i
 (aV
 (cw g e)
 (ba g e))
 (ba g e)
 (cy g e)
 (bY g e) j
 (k,m,o,(p,q,r,s,t),u)).snd.snd.snd.fst.snd.snd.fst,
 ((jo g j k m o p q r i e u s t).fst,
 (jo g j k m o p q r i e u s t).snd.fst,
 (jo g j k m o p q r i e u s t).snd.snd.fst,
 (jo g j k m o p q r i e u s t).snd.snd.snd.fst,
 (jo g j k m o p q r i e u s t).snd.snd.snd.snd),
 Gd g j k m o p q r i e u s t))∧
 rt f g
 else
 ((!zI g j k m o p q r i e u s t)=true→
 True∧
 j6
 [oM h,
 .cells (185:TypeId)
 [.rd dY i,
 .int .i64 (oQ g j k m o p q r i e u s t),
 .ptr (9:Nat) (0:Nat)],
 uM g j k m o p q r i e u s t,
 vQ g j k m o p q r i e u s t,
 vT g j k m o p q r i e u s t,.none,
 As g e,Bj g e,
 .own (65:Nat) dY
 (jV g v e),
 .cells (204:TypeId)
 [.int .i64 (sj g j k m o p q r i e u s t)]]
 (cO (cx [(0:Nat),(1:Nat),(2:Nat),(3:Nat),(4:Nat),(9:Nat)] (10:Nat))
 [(0:Nat),(1:Nat),(2:Nat),(3:Nat),(4:Nat),(9:Nat)]
 [oM h,
 .cells (185:TypeId)
 [.rd dY i,
 .int .i64 (oQ g j k m o p q r i e u s t),
 .ptr (5:Nat) (0:Nat)],
 uM g j k m o p q r i e u s t,
 vQ g j k m o p q r i e u s t,
 vT g j k m o p q r i e u s t,
 .cells (204:TypeId)
 [.int .i64
 (sj g j k m o p q r i e u s t)]]))∧
 bif
 zI g j k m o p q r i e u s t ||
 decide (sj g j k m o p q r i e u s t=11) then
 true=true
 else
 True∧
 bif
 decide
 ((fC i
 (aV (cw g e)
 (ba g e))
 (ba g e) (cy g e)
 (bY g e) j (k,m,o,(p,q,r,s,t),u)).fst=
 (0:Int)) !=
 j8 g d v e then
 false=true
 else
 iR (g+1)∧
 (ld b c d e f (g+1) i
 (jV g v e)∧
 az i
 (oQ g j k m o p q r i e u s t)∧
 sj g j k m o p q r i e u s t≠0∧
 sj g j k m o p q r i e u s t≠11∧
 j8 g b v e=false)∧
 rt f g)
 else FL j i v d)∧
 ∀ (d e:LD) (f g:Int) (h:List Int) (i:LD) (j k m o p q r:Int) (s t:List Int)
 (u:LD) (v:Int) (w:LD),
 lM d→
 lM e→
 h.length=32→
 lM w→
 ld b c d e f g i w∧
 az i j∧
 v≠0∧
 v≠11∧
 bj (ar b)
 (ar w)=
 false→
 bif decide (g<f) then
 bR g e∧
 g.toNat<e.length∧
 (lM (bY g e)→
 yM g e∧
 bif yE g e then true=true
 else
 yO w∧
 (az i j∧v≠0)∧
 ((!decide (v=11))=true→
 True∧
 j6
 (oM h::
 .cells (185:TypeId)
 [.rd dY i,.int .i64 j,
 .ptr (5:Nat) (0:Nat)] ::
 GD k m o::
 Ge p q r s t::
 .own (76:TypeId)
 [.int .u64,.int .u64,.int .u64,
 .int .u64]
 u::
 .cells (204:TypeId) [.int .i64 v] ::
 v6 g e w)
 (cO (cx [(0:Nat),(1:Nat),(2:Nat),(3:Nat),(4:Nat),(5:Nat)] (10:Nat))
 [(0:Nat),(1:Nat),(2:Nat),(3:Nat),(4:Nat),(5:Nat)]
 [oM h,
 .cells (185:TypeId)
 [.rd dY i,.int .i64 j,
 .ptr (5:Nat) (0:Nat)],
 GD k m o,Ge p q r s t,
 .own (76:TypeId)
 [.int .u64,.int .u64,.int .u64,
 .int .u64]
 u,
 .cells (204:TypeId) [.int .i64 v]]))∧
 GK v g f j d w e b c i)
 else
 True∧
 (lM w→
 lM d→
 ux w d∧
 (decide (v=0)==uW w d)=true)
 else Gs b c
 else
 fk (mi b)∧
 bif decide ((eN (ah (mi b))).snd.snd=0) then
 lM c→
 ((ld b c b c ↑c.length (0:Int)
 (oF (mi b)) [] ∧
 (0:Int)=0∧
 bj (ar b) [] =true∧
 cg (mE*0)
 ((0:Int),136,0,
 sa
 (List.map ae
 (sF (1:Int) (mi b)))))∧
 True)∧
 (∀ (d e:LD) (f g:Int) (h:List Int) (i:LD) (j k m o:Int) (p q:LD),
 lM d→
 lM e→
 h.length=32→
 lM q→
 ld b c d e f g i q∧
 j=g∧
 bj (ar b)
 (ar q)=
 true∧
 cg (mE*g) (k,m,o,p)→
 bif decide (g<f) then
 bR g e∧
 g.toNat<e.length∧
 (lM (bY g e)→
 yM g e∧
 bif yE g e then true=true
 else
 yO q∧
 (bX (bY g e)∧
 Fp (cw g e)
 (cy g e)∧
 mN i j (k,m,o,p))∧
 bif decide (o6 g j k m o i e p=0) then
 ((!vM g j k m o i e p)=true→
 True∧
 j6
 (o7 h::
 .cells (185:TypeId)
 [.rd dY i,
 .int .i64 (oV g j k m o i e p),
 .nilp] ::
 uu g j k m o i e p::
 vP g j k m o i e p::
 v6 g e q)
 (cO (cx [(0:Nat),(1:Nat),(2:Nat),(3:Nat)] (8:Nat))
 [(0:Nat),(1:Nat),(2:Nat),(3:Nat)]
 [o7 h,
 .cells (185:TypeId)
 [.rd dY i,
 .int .i64 (oV g j k m o i e p),
 .nilp],
 uu g j k m o i e p,
 vP g j k m o i e p]))∧
 bif vM g j k m o i e p||decide ((0:Int)=11) then true=true
 else
 True∧
 bif Gb g j k m o i e p d q then false=true
 else
 iR (g+1)∧
 (ld b c d e f (g+1) i
 (jV g q e)∧
 oV g j k m o i e p=g+1∧
 j8 g b q e=true∧
 cg
 (mE*(g+1))
 ((lK g j k m o i e p).fst,
 (lK g j k m o i e p).snd.fst,
 (lK g j k m o i e p).snd.snd.fst,
 (lK g j k m o i e p).snd.snd.snd))∧
 rt f g
 else
 ((!vM g j k m o i e p)=true→
 True∧
 j6
 [o7 h,
 .cells (185:TypeId)
 [.rd dY i,
 .int .i64 (oV g j k m o i e p),
 .ptr (8:Nat) (0:Nat)],
 uu g j k m o i e p,
 vP g j k m o i e p,.none,
 As g e,Bj g e,
 .own (65:Nat) dY
 (jV g q e),
 .cells (204:TypeId)
 [.int .i64 (o6 g j k m o i e p)]]
 (cO (cx [(0:Nat),(1:Nat),(2:Nat),(3:Nat),(8:Nat)] (9:Nat))
 [(0:Nat),(1:Nat),(2:Nat),(3:Nat),(8:Nat)]
 [o7 h,
 .cells (185:TypeId)
 [.rd dY i,
 .int .i64 (oV g j k m o i e p),
 .ptr (4:Nat) (0:Nat)],
 uu g j k m o i e p,
 vP g j k m o i e p,
 .cells (204:TypeId)
 [.int .i64 (o6 g j k m o i e p)]]))∧
 bif
 vM g j k m o i e p ||
 decide (o6 g j k m o i e p=11) then
 true=true
 else
 True∧
 bif Gb g j k m o i e p d q then false=true
 else
 iR (g+1)∧
 (ld b c d e f (g+1) i
 (jV g q e)∧
 az i
 (oV g j k m o i e p)∧
 o6 g j k m o i e p≠0∧
 o6 g j k m o i e p≠11∧
 j8 g b q e=false)∧
 rt f g)
 else FL j i q d)∧
 ∀ (d e:LD) (f g:Int) (h:List Int) (i:LD) (j k m o:Int) (p:LD) (q:Int)
 (r:LD),
 lM d→
 lM e→
 h.length=32→
 lM r→
 ld b c d e f g i r∧
 az i j∧
 q≠0∧
 q≠11∧
 bj (ar b)
 (ar r)=
 false→
 bif decide (g<f) then
 bR g e∧
 g.toNat<e.length∧
 (lM (bY g e)→
 yM g e∧
 bif yE g e then true=true
 else
 yO r∧
 (az i j∧q≠0)∧
 ((!decide (q=11))=true→
 True∧
 j6
 (o7 h::
 .cells (185:TypeId)
 [.rd dY i,.int .i64 j,
 .ptr (4:Nat) (0:Nat)] ::
 Fs k m o::
 .own (5:TypeId) [.int .u8] p::
 .cells (204:TypeId) [.int .i64 q] ::
 v6 g e r)
 (cO (cx uJ (9:Nat))
 uJ
 [o7 h,
 .cells (185:TypeId)
 [.rd dY i,.int .i64 j,
 .ptr (4:Nat) (0:Nat)],
 Fs k m o,
 .own (5:TypeId) [.int .u8] p,
 .cells (204:TypeId) [.int .i64 q]]))∧
 GK q g f j d r e b c i)
 else
 True∧
 (lM r→
 lM d→
 ux r d∧
 (decide (q=0)==uW r d)=true)
 else Gs b c)
theorem e6:VZ VX Tryz.f6 ct6 ajh=P6:=by kernel_rfl
end
end Go.Proofs.YteiecapbaeajdaaGreatDoor
namespace Go.Proofs.YteiecapbaeajdaaGreatDoor
open Go Go.Avc Go.Proofs Go.Gr
set_option linter.unusedVariables false
set_option linter.unusedSimpArgs false
set_option maxRecDepth 100000
theorem J2:∀ (l m:List It) (x:It),bj l (m++ [x])=(bj l m&&(match l[m.length]? with | some y=>mj y x | none=>false))
 | [],[],x=>rfl
 | y::l,[],x=>by
  show (mj y x&&bj l [])=(true&&mj y x)
  have:bj l [] =true:=by cases l <;>rfl
  rw [this,Bool.and_true,Bool.true_and]
 | [],z::m,x=>rfl
 | y::l,z::m,x=>by
  show (mj y z&&bj l (m++ [x]))=((mj y z&&bj l m)&&(match l[m.length]? with | some y=>mj y x | none=>false))
  rw [J2 l m x,Bool.and_assoc]
theorem TT {a cl:LD} {i:Nat} (k t n:Int) (h:cl.length=i):bj (ar a) (ar (cl++ [[.int k,.int t,.int n,.str []]]))=(bj (ar a) (ar cl)&&cm (dg (ar a)) (i:Int) k t n):=by
 have e:ar (cl++ [[.int k,.int t,.int n,.str []]])=ar cl++ [⟨k,t,n,[]⟩] :=by
  unfold ar
  rw [List.map_append]
  rfl
 have hl:(ar cl).length=i:=by unfold ar;rw [bp,h]
 rw [e,J2,hl]
 congr 1
 unfold cm
 rw [aA]
 by_cases hi:i<(ar a).length
 ·have hr:(dg (ar a)).length=(ar a).length:=by unfold dg;exact bp ..
  have hg:(dg (ar a)).getD i [] =Vq (ar a)[i] :=by
   unfold dg
   rw [ay,eW,cH hi]
   rfl
  rw [hg,cH hi,decide_eq_true (by omega),Bool.true_and]
  rfl
 ·have hr:(dg (ar a)).length=(ar a).length:=by unfold dg;exact bp ..
  rw [gd (by omega),decide_eq_false (by omega),Bool.false_and]
theorem Jh {k t n:Int} {d:LD} (h:fA k t n d=true):(k=1∧a9 t d=0∧cG t d=0∧aX t d=n∧1≤t∧t≤4)∨(k=2∧(t=1∨t=3))∨(k=3∧t=0∧n=1):=by
 obtain ⟨f1,f2,f3,f4,f5⟩:=B6 h
 unfold fA at h
 rw [cZ] at h
 have hc:=au h.1
 have h2:=h.2
 unfold cV at hc
 have hk:¬ (k<1∨3<k):=fun e=>by rw [if_pos e] at hc;cases hc
 rw [if_neg hk] at hc
 have ht:¬ ((k=1∧(t<1∨4<t))∨(k=2∧t≠1∧t≠3)∨(k=3∧t≠0)):=fun e=>by rw [if_pos e] at hc;cases hc
 rw [if_neg ht] at hc
 have hn:¬ (n<1∨1048576<n∨(k=3∧n≠1)):=fun e=>by rw [if_pos e] at hc;cases hc
 by_cases e:k=1
 ·subst e
  simp only [ne_eq,not_true_eq_false,decide_false,cond_false,cZ,aQ] at h2
  exact .inl ⟨rfl,h2.1,h2.2.2,h2.2.1,by omega,by omega⟩
 ·exact .inr (by omega)
theorem ad6 (x:Sp):(aC x).2.2.1=0∨(aC x).2.2.1=11:=by
 have key:∀ (f i:Nat) (x:Sp),(nn x f i).2.2.1=0∨(nn x f i).2.2.1=11:=by
  intro f
  induction f with
  | zero=>intro i x;exact .inr rfl
  | succ f ih=>
   intro i x
   rw [nn]
   split
   ·exact ih _ _
   ·exact .inl rfl
 unfold aC
 rw [al]
 exact key _ _ _
theorem Rs (x:Sp):∀ i,(dE x i).2.2.1=0∨(dE x i).2.2.1=11
 | 0=> .inl rfl
 | i+1=>by
  rw [dE]
  split
  ·exact Rs x i
  ·split
   ·exact ad6 _
   ·exact .inl rfl
theorem qD {b:Bool} (h:¬ b=false):b=true:=by cases b <;>simp_all
theorem avQ {it d:LD} {k t n:Int} (p:Int) (x:Sp) (h:fA k t n d=true):
  ((c5 it (aV k t) t n d p x).2.2.2.2=0→(c5 it (aV k t) t n d p x).1=0∧cm it p k t n=true∧(c5 it (aV k t) t n d p x).2.2.1=p+1)∧
  ((c5 it (aV k t) t n d p x).2.2.2.2≠0→(c5 it (aV k t) t n d p x).1=(c5 it (aV k t) t n d p x).2.2.2.2∧((c5 it (aV k t) t n d p x).1=11∨cm it p k t n=false)):=by
 rcases Jh h with ⟨rfl,h1,h2,h3,_⟩ | ⟨rfl,rfl | rfl⟩ | ⟨rfl,rfl,rfl⟩
 ·rw [Py,V6,bP,al,if_neg (by rw [h1];decide),h3]
  split
  ·rename_i g;exact ⟨fun e=>(by cases e),fun _=>⟨rfl,.inr g⟩⟩
  ·rename_i g;rw [if_neg (by rw [h2];decide)];exact ⟨fun _=>⟨rfl,qD g,rfl⟩,fun e=>absurd rfl e⟩
 ·rw [Pd,Y0,cP,al]
  split
  ·rename_i g;exact ⟨fun e=>(by cases e),fun _=>⟨rfl,.inr g⟩⟩
  ·rename_i g;exact ⟨fun _=>⟨rfl,qD g,rfl⟩,fun e=>absurd rfl e⟩
 ·rw [O4 (by decide),ZD,bQ,al]
  split
  ·rename_i g;exact ⟨fun e=>(by cases e),fun _=>⟨rfl,.inr g⟩⟩
  ·rename_i g
   split
   ·rename_i e
    refine ⟨fun e'=>absurd e' e,fun _=>⟨rfl,.inl ?_⟩⟩
    have:=Rs (d9 2 3 n [] x) n.toNat
    rw [← rV] at this
    rcases this with h | h
    ·exact absurd h e
    ·exact h
   ·exact ⟨fun _=>⟨rfl,qD g,rfl⟩,fun e=>absurd rfl e⟩
 ·rw [OM (by decide) (by decide),ZO,cW,al]
  split
  ·rename_i g;exact ⟨fun e=>(by cases e),fun _=>⟨rfl,.inr g⟩⟩
  ·rename_i g;exact ⟨fun _=>⟨rfl,qD g,rfl⟩,fun e=>absurd rfl e⟩
theorem at4 {it d:LD} {k t n:Int} (p:Int) (x:Sf) (h:fA k t n d=true):
  ((fC it (aV k t) t n d p x).2.2.2.2=0→(fC it (aV k t) t n d p x).1=0∧cm it p k t n=true∧(fC it (aV k t) t n d p x).2.2.1=p+1)∧
  ((fC it (aV k t) t n d p x).2.2.2.2≠0→(fC it (aV k t) t n d p x).1=(fC it (aV k t) t n d p x).2.2.2.2∧((fC it (aV k t) t n d p x).1=11∨cm it p k t n=false)):=by
 rcases Jh h with ⟨rfl,h1,h2,h3,_⟩ | ⟨rfl,rfl | rfl⟩ | ⟨rfl,rfl,rfl⟩
 ·rw [Py,afS,dK,al,if_neg (by rw [h1];decide),h3]
  split
  ·rename_i g;exact ⟨fun e=>(by cases e),fun _=>⟨rfl,.inr g⟩⟩
  ·rename_i g;rw [if_neg (by rw [h2];decide)];exact ⟨fun _=>⟨rfl,qD g,rfl⟩,fun e=>absurd rfl e⟩
 ·rw [Pd,ajz,fB,al]
  split
  ·rename_i g;exact ⟨fun e=>(by cases e),fun _=>⟨rfl,.inr g⟩⟩
  ·rename_i g;exact ⟨fun _=>⟨rfl,qD g,rfl⟩,fun e=>absurd rfl e⟩
 ·rw [O4 (by decide),abw,dD,al]
  split
  ·rename_i g;exact ⟨fun e=>(by cases e),fun _=>⟨rfl,.inr g⟩⟩
  ·rename_i g;exact ⟨fun _=>⟨rfl,qD g,rfl⟩,fun e=>absurd rfl e⟩
 ·rw [OM (by decide) (by decide),ado,gL,al]
  split
  ·rename_i g;exact ⟨fun e=>(by cases e),fun _=>⟨rfl,.inr g⟩⟩
  ·rename_i g;exact ⟨fun _=>⟨rfl,qD g,rfl⟩,fun e=>absurd rfl e⟩
theorem au2:cF [0,0,0,0] = [.int 0,.int 0,.int 0,.int 0] :=rfl
theorem TB (n:Nat):ia (List.replicate n [.int 0,.int 0,.int 0,.int 0]):=fun r hr=>by
 rw [List.eq_of_mem_replicate hr]
 exact ⟨[0,0,0,0],rfl,yF,au2.symm⟩
theorem Sz {l m:LD} (lo n:Nat) (hl:ia l) (hm:ia m):ia (gj l lo n m):=fun r hr=>by
 unfold gj at hr
 rcases List.mem_append.mp hr with h | h
 ·exact hl r (asx h)
 ·rcases List.mem_append.mp h with h | h
  ·exact hm r (asx h)
  ·exact hl r (List.mem_of_mem_drop h)
theorem adu {m:Int} {x:Sf} (h:bh m x):bh (m+1) (iW x):=by
 obtain ⟨h1,h2,h3,h4,h5,h6,h7,h8,h9⟩:=h
 rw [Rf]
 refine ⟨asw 0,by show (0:Int)≤2;decide,by show (0:Int)≤2;decide,asw 2,by show 0≤x.2.2.1+1;omega,by show x.2.2.1+1≤m+1;omega,Sd _,?_,Sz 0 2 (S2 h9) (TB 2)⟩
 show (gj (iF x.2.2.2.2) 0 2 _).length=3
 unfold gj
 have:=vu x.2.2.2.2
 simp only [ce,List.length_take,eH,List.length_replicate]
 omega
theorem anE {it d:LD} {k t n p m:Int} {x:Sf} (hb:bX d) (h0:0≤n) (h1:n≤1000) (hx:bh m x):bh (m+3000000) (fC it k t n d p x).2.2.2.1∧p≤(fC it k t n d p x).2.2.1∧(fC it k t n d p x).2.2.1≤p+1:=by
 have hm:bh (m+3000000) x:=bc (by omega) hx
 rw [fC,al]
 split
 ·rw [dK,al]
  split
  ·exact ⟨hm,asw _,by show p≤p+1;omega⟩
  ·split
   ·exact ⟨hm,asw _,by show p≤p+1;omega⟩
   ·split
    ·exact ⟨hm,by show p≤p+1;omega,asw _⟩
    ·exact ⟨bc (by omega) (ti 1 t (aX t d) hb hx),by show p≤p+1;omega,asw _⟩
 ·split
  ·rw [fB,al]
   split
   ·exact ⟨hm,asw _,by show p≤p+1;omega⟩
   ·refine ⟨?_,by show p≤p+1;omega,asw _⟩
    have hf:bG n (bI 2 1 n [] x)=mL n (bI 2 1 n [] x) ((n.toNat+30) / 31):=al _
    rw [hf]
    exact bc (by omega) (GC n (ti 2 1 n ko hx) h0 ((n.toNat+30) / 31)).1
  ·split
   ·show bh _ (dD it n p x).2.2.2.1∧p≤(dD it n p x).2.2.1∧(dD it n p x).2.2.1≤p+1
    rw [dD,al]
    split
    ·exact ⟨hm,asw _,by show p≤p+1;omega⟩
    ·refine ⟨?_,by show p≤p+1;omega,asw _⟩
     rw [rY]
     exact bc (by omega) (yQ (ti 2 3 n ko hx) n.toNat)
   ·split
    ·rw [gL,al]
     split
     ·exact ⟨hm,asw _,by show p≤p+1;omega⟩
     ·exact ⟨bc (by omega) (adu (ti 3 0 1 ko hx)),by show p≤p+1;omega,asw _⟩
    ·rw [fFi,al]
     split
     ·exact ⟨hm,asw _,by show p≤p+1;omega⟩
     ·exact ⟨hm,asw _,by show p≤p+1;omega⟩
theorem N9 (l:LD):∀ i,(SD l i).length=i
 | 0=>rfl
 | i+1=>by rw [SD,ce,N9 l i];rfl
theorem Ny {k t n:Int} {d:LD} (hB:jf d) (g:(decide (100<(d.length:Int))||!fA k t n d||decide (k=2)&&decide (100<n))=false):fA k t n d=true∧bX d∧0≤n∧n≤1000:=by
 simp only [ate,aT,Bool.not_eq_false',atd] at g
 obtain ⟨⟨g1,g2⟩,g3⟩:=g
 obtain ⟨f1,f2,f3,f4,f5⟩:=B6 g2
 refine ⟨g2,⟨hB,by omega⟩,by omega,?_⟩
 rcases Jh g2 with ⟨rfl,h1,h2,h3,h4,h5⟩ | ⟨rfl,_⟩ | ⟨rfl,rfl,rfl⟩
 ·have h6:=(f4 rfl).1
  have:n≤d.length:=by
   have ht:1≤aF t:=by
    have:t=1∨t=2∨t=3∨t=4:=by omega
    rcases this with rfl | rfl | rfl | rfl <;>decide
   rw [h6]
   have:=Int.mul_le_mul_of_nonneg_right ht (show 0≤n by omega)
   omega
  omega
 ·omega
 ·decide
theorem aur (t:LD):bh 0 (0,2,0,(0,0,0,fl,jv),ve [cF (jp t)]):=by
 refine ⟨asw 0,by show (0:Int)≤2;decide,by show (0:Int)≤2;decide,asw 2,asw 0,asw 0,.inl ⟨rfl,rfl,rfl,rfl⟩,?_,?_⟩
 ·rfl
 ·exact Sz 2 1 (TB 3) fun r hr=>by
   rw [List.mem_singleton] at hr
   exact ⟨jp t,(DW t).2,(DW t).1,hr⟩
theorem vc6:P6:=by
 delta P6 lM iR aR bR mi bY yM cw ba cy yE yO sj zI oM dY oQ uM jo vQ Gd vT As Bj jV v6 uJ j8 rt ux uW FL GD Ge GK Gs o6 vM o7 oV lK uu vP Gb Fs
 intro b a l _ _ hB
 refine ⟨trivial,fun _ _=>aa (fun _=>⟨trivial,rfl⟩) fun hc=> ?_⟩
 simp only [Bool.not_true,Bool.false_or,ate,aT] at hc
 have la:a.length≤6:=by omega
 have ll:l.length≤6:=by omega
 refine ⟨by show _≤100000000;omega,aa (fun _=>rfl) fun hs=> ?_⟩
 have hs:(cL (ar a)).2.2=0:=Decidable.not_not.mp (aw hs)
 have pa:=acZ hs
 have za:decide ((eN (ah (aj (cL (ar a)).1))).2.2=0)=true:=decide_eq_true (by rw [pa])
 have gd0:ld a l a l (l.length:Int) 0 (oF (aj (cL (ar a)).1)) [] :=⟨rfl,rfl,la,ll,hs,rfl,by omega,by omega,by unfold oF;rw [pa],rfl⟩
 have pr0:bj (ar a) [] =true:=by cases ar a <;>rfl
 have hw:∀ (n:Int) (m:Int),n+1≤m→0≤n→m≤6→(-9223372036854775808:Int)≤n+1∧n+1≤9223372036854775807:=fun n m h1 h2 h3=>⟨by omega,by omega⟩
 have gdn:∀ {a' l' it cl:LD} {n i:Int} {k t c:Int},ld a l a' l' n i it cl→i<n→((l'.getD i.toNat []).getD 0 (CD.int 0)).toInt=k→((l'.getD i.toNat []).getD 1 (CD.int 0)).toInt=t→((l'.getD i.toNat []).getD 2 (CD.int 0)).toInt=c→ld a l a' l' n (i+1) it (cl++ [[.int k,.int t,.int c,.str []]]):=by
  rintro a' l' it cl n i k t c ⟨e1,e2,e3,e4,e5,e6,e7,e8,e9,EG⟩ hi rfl rfl rfl
  refine ⟨e1,e2,e3,e4,e5,e6,by omega,by omega,e9,?_⟩
  subst e2
  rw [show (i+1).toNat=i.toNat+1 by omega,SD,← EG]
  rfl
 have cll:∀ {a' l' it cl:LD} {n i:Int},ld a l a' l' n i it cl→(cl.length:Int)=i∧0≤i∧i≤6∧it.length=a'.length∧a'=a∧it=dg (ar a)∧(n=l'.length∧n≤6):=by
  rintro a' l' it cl n i ⟨e1,e2,e3,e4,e5,e6,e7,e8,e9,EG⟩
  refine ⟨by rw [EG,N9];omega,e7,by omega,?_,e1,e9,by rw [e2];exact e6,by omega⟩
  rw [e9,e1]
  unfold dg ar
  rw [bp,bp]
 have phit:∀ {a' l' it cl:LD} {n i:Int} (k t c:Int),ld a l a' l' n i it cl→bj (ar a') (ar (cl++ [[.int k,.int t,.int c,.str []]]))=(bj (ar a) (ar cl)&&cm it i k t c):=by
  intro a' l' it cl n i k t c hg
  obtain ⟨c1,c2,c3,c4,c9,c6,c7⟩:=cll hg
  obtain ⟨j,rfl⟩:=Int.eq_ofNat_of_zero_le c2
  rw [c9,c6]
  exact TT k t c (by omega)
 have hBd:∀ {a' l' it cl:LD} {n i:Int},ld a l a' l' n i it cl→i<n→jf ((l'.getD i.toNat []).getD 3 (CD.int 0)).toSl:=by
  rintro a' l' it cl n i ⟨e1,e2,e3,e4,e5,e6,e7,e8,e9,EG⟩ hi
  rw [e2]
  exact hB i.toNat (by omega)
 have fin:∀ {a' l' it cl:LD} {n i:Int},ld a l a' l' n i it cl→bj (ar a) (ar cl)=true→∀ (w:Int),((i=it.length→w=0)∧(i≠it.length→w≠0))→(decide (w=0)==(decide ((cl.length:Int)=(a'.length:Int))&&bj (ar a') (ar cl)))=true:=by
  intro a' l' it cl n i hg hp w hw
  obtain ⟨c1,c2,c3,c4,c9,c6,c7⟩:=cll hg
  rw [c9,hp,Bool.and_true,← c9]
  by_cases h:i=it.length
  ·rw [decide_eq_true (hw.1 h),decide_eq_true (by omega)]
   rfl
  ·rw [decide_eq_false (hw.2 h),decide_eq_false (by omega)]
   rfl
 have fin2:∀ {a' l' it cl:LD} {n i:Int},ld a l a' l' n i it cl→bj (ar a) (ar cl)=false→∀ (w:Int),w≠0→(decide (w=0)==(decide ((cl.length:Int)=(a'.length:Int))&&bj (ar a') (ar cl)))=true:=by
  intro a' l' it cl n i hg hp w hw
  obtain ⟨c1,c2,c3,c4,c9,c6,c7⟩:=cll hg
  rw [c9,hp,Bool.and_false,decide_eq_false hw]
  rfl
 refine aa (fun _=>⟨IY _,jG za fun _=>⟨⟨⟨gd0,rfl,pr0,aur _⟩,trivial⟩,?_,?_⟩⟩) fun _=>⟨IY _,jG za fun _=>⟨⟨⟨gd0,rfl,pr0,ak6 _⟩,trivial⟩,?_,?_⟩⟩
 ·intro a' l' n i tg it p q1 q2 q3 d0 lk s z m x cl _ _ _ _ h
  obtain ⟨hg,rfl,hp,hs⟩:=h
  obtain ⟨c1,c2,c3,c4,c9,c6,c7⟩:=cll hg
  refine aa (fun e=> ?_) fun e=> ?_
  ·have e:=au e
   have hD:=hBd hg e
   have hgn:=fun k t c=> @gdn a' l' it cl n p k t c hg e
   have hph:=fun k t c=>phit k t c hg
   generalize ((l'.getD p.toNat []).getD 0 (CD.int 0)).toInt=k at *
   generalize ((l'.getD p.toNat []).getD 1 (CD.int 0)).toInt=t at *
   generalize ((l'.getD p.toNat []).getD 2 (CD.int 0)).toInt=c at *
   generalize ((l'.getD p.toNat []).getD 3 (CD.int 0)).toSl=d at *
   refine ⟨⟨c2,by omega⟩,by omega,fun _=>⟨fun g=>⟨hD,?_⟩,aa (fun _=>rfl) fun g=> ?_⟩⟩
   ·simp only [atf,aT] at g
    omega
   obtain ⟨r1,r2,r3,r4⟩:=Ny hD g
   have hsm:mE*p=10000000*p:=rfl
   have hsn:mE*(p+1)=10000000*(p+1):=rfl
   obtain ⟨s1,s2⟩:=at4 (it:=it) p (q1,q2,q3,(d0,lk,s,z,m),x) r1
   obtain ⟨o1,o2,o3⟩:=anE (it:=it) (k:=aV k t) (t:=t) (p:=p) r2 r3 r4 hs
   refine ⟨⟨by omega,by omega⟩,⟨r2,fun _=>⟨r3,r4⟩,⟨c2,by omega⟩,bc (by omega) hs⟩,aa (fun y=> ?_) fun y=> ?_⟩
   ·have y:=au y
    obtain ⟨u1,u2,u3⟩:=s1 y
    refine ⟨fun _=>⟨trivial,rfl,rfl,rfl,rfl,rfl,trivial⟩,aa (fun _=>rfl) fun _=>⟨trivial,?_⟩⟩
    rw [hph k t c,hp,u2,u1]
    refine cf rfl ⟨hw p n (by omega) c2 (by omega),⟨hgn k t c rfl rfl rfl,u3,?_,bc (by omega) o1⟩,by omega⟩
    rw [← c9,hph k t c,hp,u2]
    rfl
   ·have y:=aw y
    obtain ⟨u1,u2⟩:=s2 y
    refine ⟨fun _=>⟨trivial,rfl,rfl,rfl,rfl,rfl,rfl,trivial⟩,aa (fun _=>rfl) fun v=>⟨trivial,?_⟩⟩
    simp only [ate,aT] at v
    have u3:cm it p k t c=false:=by
     rcases u2 with h | h
     ·exact absurd h v.1
     ·exact h
    rw [hph k t c,hp,u3,u1,decide_eq_false y]
    refine cf rfl ⟨hw p n (by omega) c2 (by omega),⟨hgn k t c rfl rfl rfl,⟨by omega,by omega⟩,y,v.2,?_⟩,by omega⟩
    rw [← c9,hph k t c,hp,u3]
    rfl
  ·have e:=aw e
   refine ⟨trivial,aa (fun y _ _=>⟨fun _=>trivial,fin hg hp 0 ⟨fun _=>rfl,fun h=>absurd (au y) h⟩⟩) fun y _ _=>⟨fun _=>trivial,fin hg hp 12 ⟨fun h=>absurd h (aw y),fun _=>by decide⟩⟩⟩
 ·intro a' l' n i tg it p q1 q2 q3 d0 lk s z m x w cl _ _ _ _ h
  obtain ⟨hg,hq,hw0,hw1,hp⟩:=h
  obtain ⟨c1,c2,c3,c4,c9,c6,c7⟩:=cll hg
  refine aa (fun e=> ?_) fun e=> ?_
  ·have e:=au e
   have hD:=hBd hg e
   have hgn:=fun k t c=> @gdn a' l' it cl n i k t c hg e
   have hph:=fun k t c=>phit k t c hg
   generalize ((l'.getD i.toNat []).getD 0 (CD.int 0)).toInt=k at *
   generalize ((l'.getD i.toNat []).getD 1 (CD.int 0)).toInt=t at *
   generalize ((l'.getD i.toNat []).getD 2 (CD.int 0)).toInt=c at *
   generalize ((l'.getD i.toNat []).getD 3 (CD.int 0)).toSl=d at *
   refine ⟨⟨c2,by omega⟩,by omega,fun _=>⟨fun g=>⟨hD,?_⟩,aa (fun _=>rfl) fun g=> ?_⟩⟩
   ·simp only [atf,aT] at g
    omega
   refine ⟨⟨by omega,by omega⟩,⟨hq,hw0⟩,fun _=>⟨trivial,rfl,rfl,rfl,rfl,rfl,rfl,trivial⟩,aa (fun _=>rfl) fun _=>⟨trivial,?_⟩⟩
   rw [hph k t c,hp,decide_eq_false hw0]
   refine cf rfl ⟨hw i n (by omega) c2 (by omega),⟨hgn k t c rfl rfl rfl,hq,hw0,hw1,?_⟩,by omega⟩
   rw [← c9,hph k t c,hp]
   rfl
  ·exact ⟨trivial,fun _ _=>⟨fun _=>trivial,fin2 hg hp w hw0⟩⟩
 ·intro a' l' n i tg it p q1 q2 q3 x cl _ _ _ _ h
  obtain ⟨hg,rfl,hp,hs⟩:=h
  obtain ⟨c1,c2,c3,c4,c9,c6,c7⟩:=cll hg
  refine aa (fun e=> ?_) fun e=> ?_
  ·have e:=au e
   have hD:=hBd hg e
   have hgn:=fun k t c=> @gdn a' l' it cl n p k t c hg e
   have hph:=fun k t c=>phit k t c hg
   generalize ((l'.getD p.toNat []).getD 0 (CD.int 0)).toInt=k at *
   generalize ((l'.getD p.toNat []).getD 1 (CD.int 0)).toInt=t at *
   generalize ((l'.getD p.toNat []).getD 2 (CD.int 0)).toInt=c at *
   generalize ((l'.getD p.toNat []).getD 3 (CD.int 0)).toSl=d at *
   refine ⟨⟨c2,by omega⟩,by omega,fun _=>⟨fun g=>⟨hD,?_⟩,aa (fun _=>rfl) fun g=> ?_⟩⟩
   ·simp only [atf,aT] at g
    omega
   obtain ⟨r1,r2,r3,r4⟩:=Ny hD g
   have hsm:mE*p=10000000*p:=rfl
   have hsn:mE*(p+1)=10000000*(p+1):=rfl
   obtain ⟨s1,s2⟩:=avQ (it:=it) p (q1,q2,q3,x) r1
   obtain ⟨o1,o2,o3⟩:=akG (it:=it) (k:=aV k t) (t:=t) (p:=p) r2 r3 r4 hs
   refine ⟨⟨by omega,by omega⟩,⟨r2,fun _=>⟨r3,r4⟩,⟨c2,by omega⟩,aY (by omega) hs⟩,aa (fun y=> ?_) fun y=> ?_⟩
   ·have y:=au y
    obtain ⟨u1,u2,u3⟩:=s1 y
    refine ⟨fun _=>⟨trivial,rfl,rfl,rfl,rfl,trivial⟩,aa (fun _=>rfl) fun _=>⟨trivial,?_⟩⟩
    rw [hph k t c,hp,u2,u1]
    refine cf rfl ⟨hw p n (by omega) c2 (by omega),⟨hgn k t c rfl rfl rfl,u3,?_,aY (by omega) o1⟩,by omega⟩
    rw [← c9,hph k t c,hp,u2]
    rfl
   ·have y:=aw y
    obtain ⟨u1,u2⟩:=s2 y
    refine ⟨fun _=>⟨trivial,rfl,rfl,rfl,rfl,rfl,trivial⟩,aa (fun _=>rfl) fun v=>⟨trivial,?_⟩⟩
    simp only [ate,aT] at v
    have u3:cm it p k t c=false:=by
     rcases u2 with h | h
     ·exact absurd h v.1
     ·exact h
    rw [hph k t c,hp,u3,u1,decide_eq_false y]
    refine cf rfl ⟨hw p n (by omega) c2 (by omega),⟨hgn k t c rfl rfl rfl,⟨by omega,by omega⟩,y,v.2,?_⟩,by omega⟩
    rw [← c9,hph k t c,hp,u3]
    rfl
  ·have e:=aw e
   refine ⟨trivial,aa (fun y _ _=>⟨fun _=>trivial,fin hg hp 0 ⟨fun _=>rfl,fun h=>absurd (au y) h⟩⟩) fun y _ _=>⟨fun _=>trivial,fin hg hp 12 ⟨fun h=>absurd h (aw y),fun _=>by decide⟩⟩⟩
 ·intro a' l' n i tg it p q1 q2 q3 x w cl _ _ _ _ h
  obtain ⟨hg,hq,hw0,hw1,hp⟩:=h
  obtain ⟨c1,c2,c3,c4,c9,c6,c7⟩:=cll hg
  refine aa (fun e=> ?_) fun e=> ?_
  ·have e:=au e
   have hD:=hBd hg e
   have hgn:=fun k t c=> @gdn a' l' it cl n i k t c hg e
   have hph:=fun k t c=>phit k t c hg
   generalize ((l'.getD i.toNat []).getD 0 (CD.int 0)).toInt=k at *
   generalize ((l'.getD i.toNat []).getD 1 (CD.int 0)).toInt=t at *
   generalize ((l'.getD i.toNat []).getD 2 (CD.int 0)).toInt=c at *
   generalize ((l'.getD i.toNat []).getD 3 (CD.int 0)).toSl=d at *
   refine ⟨⟨c2,by omega⟩,by omega,fun _=>⟨fun g=>⟨hD,?_⟩,aa (fun _=>rfl) fun g=> ?_⟩⟩
   ·simp only [atf,aT] at g
    omega
   refine ⟨⟨by omega,by omega⟩,⟨hq,hw0⟩,fun _=>⟨trivial,rfl,rfl,rfl,rfl,rfl,trivial⟩,aa (fun _=>rfl) fun _=>⟨trivial,?_⟩⟩
   rw [hph k t c,hp,decide_eq_false hw0]
   refine cf rfl ⟨hw i n (by omega) c2 (by omega),⟨hgn k t c rfl rfl rfl,hq,hw0,hw1,?_⟩,by omega⟩
   rw [← c9,hph k t c,hp]
   rfl
  ·exact ⟨trivial,fun _ _=>⟨fun _=>trivial,fin2 hg hp w hw0⟩⟩
end Go.Proofs.YteiecapbaeajdaaGreatDoor
namespace Go.Proofs.YteiecapbaeajdaaGreatDoor
open Go Go.Avc
set_option linter.unusedVariables false
noncomputable section
theorem aar {Im:Nat→Prop} {w:World} {l:List (List CD)} {v:Value} (h:CRel Im w (.sl JM) (.sl l) v) (q:∀ row∈l,wfRow JM row):Va l:=fun i hi=>by
 obtain ⟨vs,hv⟩:=Hb h l[i] (atg hi)
 have hq:=q l[i] (atg hi)
 unfold opB
 have e:l.getD i [] =l[i] :=by rw [List.getD_eq_getElem?_getD,List.getElem?_eq_getElem hi];rfl
 rw [e]
 clear e
 generalize l[i] =row at *
 cases hv with
 | cons _ c0 _ _ r0 _ h0 hv=>
  cases hv with
  | cons _ c1 _ _ r1 _ h1 hv=>
   cases hv with
   | cons _ c2 _ _ r2 _ h2 hv=>
    cases hv with
    | cons _ c3 _ _ r3 _ h3 hv=>
     cases hv
     cases h3 with
     | sl0 e a cap hc=>exact (rfl:jf [])
     | sl _ d ad cap xs a1 a2 a3 a4 a5=>exact adA (.sl _ d ad cap xs a1 a2 a3 a4 a5) hq.2.2.2.1
end
end Go.Proofs.YteiecapbaeajdaaGreatDoor
