/-
 What the functions on items answer, in numbers and lists; their contracts.
-/
import Derived.Test.YteiecapbaeajdaaGreatDoorJ4
import GoSem.ClaimJoined
import Derived.Below
import Derived.Test.YteiecapbaeajdaaGreatDoorRows
import Derived.WalkKit
import Derived.ProofKit
import Derived.OpenShut
import Derived.ShutString
import Derived.ChangeOld
import Derived.LaidMore
import Derived.MakeChecks
import Derived.SizedLaws
import Derived.Stop.Joined
namespace Go.Proofs.YteiecapbaeajdaaGreatDoor
open Go.Avc
set_option linter.unusedVariables false
open Go Go.Avc Go.Proofs
set_option maxRecDepth 100000
set_option linter.unusedSimpArgs false
noncomputable section
def cR (a b c:Int) (l:List UInt8):Int:=
 if a<1∨3<a then 5
 else if (a=1∧(b<1∨4<b))∨(a=2∧b≠1∧b≠3)∨(a=3∧b≠0) then 6
 else if c<1∨1048576<c∨(a=3∧c≠1) then 7
 else if (255:Int)<l.length then 8 else 0
def gU (n:Int) (i:Nat):UInt8:=UInt8.ofNat (n / 256 ^ i%256).toNat
def ed (n:Int) (w:Nat):List UInt8:=(List.range w).map (gU n)
def xm (a b c:Int) (l:List UInt8):List UInt8:=ed a 1++ed b 1++ed c 4++ed l.length 2++l
def gW (l:LD):List Int:=l.map fun r=>(r.getD 0 .d0).toInt
def nQ:List Int→Int→Int
 | [],_=> -1
 | x::l,v=>if x=v then 0 else if nQ l v<0 then -1 else nQ l v+1
def fC (a:Int):List Int:=if a=1 then [1,2,3,4] else if a=2 then [1,3] else if a=3 then [0] else []
def ly (a:Int):Int:=if a=1∨a=2 then 1048576 else if a=3 then 1 else 0
def kT (l:List Int):LD:=l.map fun n=> [.int n]
abbrev i64:Pat:= .int .i64
abbrev tt:Pat:= .agg [i64,i64,i64,.str]
abbrev fX:List CSh:= [.int .u8]
abbrev MN:List CSh:= [.int .i64]
abbrev eR:List CSh:= [.int .i64,.int .i64,.int .i64,.str]
abbrev ag:Res:= .ret .skip [] []
def la (n:Nat) (slots:List (Nat×Pat)) (bs:List BPat) (R:List Dat→Prop) (m:List Dat→Nat):LA:=⟨n,pl n 0 slots,bs,R,m⟩
def arf:Ct:= {ps:= [tt],bs:= [],pre:=fun _=>True,res:=fun | [.i a,.i b,.i c,.s l] => .ret i64 [] [.i (cR a b c l)] | _=>ag}
def ahv:Ct:= {ps:= [.rd MN,i64],bs:= [],pre:=fun _=>True,res:=fun | [.r l,.i v] => .ret i64 [] [.i (nQ (gW l) v)] | _=>ag}
def N7 (l:LD) (v:Int) (l':LD) (v' n i:Int):Prop:=l'=l∧v'=v∧n=l.length∧0≤i∧i≤l.length∧v∉(gW l).take i.toNat
def aaq:List Dat→Ann
 | [.r l,.i v] => {cut:= [],loop:= [(2,[la 19 [(0,.rd MN),(1,i64),(7,i64),(8,i64)] [] (fun | [.r l',.i v',.i n,.i i] =>N7 l v l' v' n i | _=>False) (fun | [_,_,.i n,.i i] =>(n-i).toNat | _=>0)])]}
 | _=> {cut:= [],loop:= []}
def aho:Ct:= {ps:= [.rd MN,i64],bs:= [],pre:=fun _=>True,res:=fun | [.r l,.i v] => .ret .bool [] [.b (decide (v∈gW l))] | _=>ag}
def anh:Ct:= {ps:= [i64],bs:= [],pre:=fun _=>True,res:=fun | [.i a] => .ret (.tup [.own 0,i64]) [.own 3 MN] [.i (ly a),.r (kT (fC a))] | _=>ag}
def aqs:Ct:= {ps:= [tt],bs:= [],pre:=fun _=>True,res:=fun | [.i a,.i b,.i c,.s l] => .ret i64 [] [.i (cR a b c l)] | _=>ag}
def Dq (n w:Int) (l:LD):Prop:=0≤n∧0≤w∧w≤8∧l.length≤1000000
def aqQ:Ct:= {ps:= [.own 0,i64,i64],bs:= [.own 5 fX],pre:=fun | [.i n,.i w,.r l] =>Dq n w l | _=>False,res:=fun | [.i n,.i w,.r l] => .ret (.own 1) [.none,.own 5 fX] [.r (l++ah (ed n w.toNat))] | _=>ag}
def SO (n w:Int) (l:LD) (n' w' i:Int) (out:LD):Prop:=n'=n∧w'=w∧0≤i∧i≤w∧out=l++ah (ed n i.toNat)
def aiE:List Dat→Ann
 | [.i n,.i w,.r l] => {cut:= [],loop:= [(2,[la 22 [(0,.own 1),(1,i64),(8,i64),(9,i64)] [.none,.own 5 fX] (fun | [.i n',.i w',.i i,.r out] =>SO n w l n' w' i out | _=>False) (fun | [_,.i w',.i i,_] =>(w'-i).toNat | _=>0)])]}
 | _=> {cut:= [],loop:= []}
def kH (a b c:Int) (l:List UInt8):LD:=if cR a b c l=0 then ah (xm a b c l) else []
def arA:Ct:= {ps:= [tt],bs:= [],pre:=fun _=>True,res:=fun | [.i a,.i b,.i c,.s l] => .ret (.tup [.own 0,i64]) [.own 5 fX] [.i (cR a b c l),.r (kH a b c l)] | _=>ag}
abbrev uZ (a:List UInt8):Prop:=
 a.length≤9223372036854775807
abbrev GN (a b c:Int)(d:List UInt8):Prop:=
 uZ d→
 bif decide ((255:Int)<↑d.length) then 8=cR a b c d else 0=cR a b c d
def P48:Prop:=
 ∀ (a b c:Int) (d:List UInt8),
 uZ d→
 True→
 bif decide (a<(1:Int))||decide ((3:Int)<a) then 5=cR a b c d
 else
 bif
 decide (a=1)&&(decide (b<(1:Int))||decide ((4:Int)<b))||decide (a=2)&&decide (b≠1)&&decide (b≠3) ||
 decide (a=3)&&decide (b≠0) then
 6=cR a b c d
 else
 bif decide (c<(1:Int))||decide ((1048576:Int)<c)||decide (a=3)&&decide (c≠1) then
 7=cR a b c d
 else GN a b c d
def adY:af:=aj G8 48 (ap arf)
def ab4:Prop:=
 ∀ (a:LD) (b:Int),
 lM a→
 True→
 lM a→
 (N7 a b a b ↑a.length 0∧True)∧
 ∀ (c:LD) (d e f:Int),
 lM c→
 N7 a b c d e f→
 bif decide (f<e) then
 bR f c∧
 f.toNat<c.length∧
 bif decide (d=((c.getD f.toNat []).getD 0 (.int 0)).toInt) then
 f=nQ (gW a) b
 else
 iR (f+1)∧
 N7 a b c d e (f+1)∧(e-(f+1)).toNat<(e-f).toNat
 else (-1:Int)=nQ (gW a) b
def Tf:af:=aj adY 168 (ap ahv)
def abe:Prop:=
 ∀ (a:LD) (b:Int),
 lM a→
 True→
 True∧
 decide (0≤nQ (gW a) b)=decide (b∈gW a)
def SG:af:=aj Tf 128 (ap aho)
def arF:Prop:=
 ∀ (a:Int),
 True→
 bif decide (a=1) then
 1048576=ly a∧
 [[.int 1],[.int 2],[.int 3],[.int 4]] =
 kT (fC a)
 else
 bif decide (a=2) then
 1048576=ly a∧
 [[.int 1],[.int 3]] =kT (fC a)
 else
 bif decide (a=3) then
 1=ly a∧
 [[.int 0]] =kT (fC a)
 else 0=ly a∧ [] =kT (fC a)
def Vn:af:=aj SG 127 (ap anh)
def P77:Prop:=
 ∀ (a b c:Int) (d:List UInt8),
 uZ d→
 True→
 True∧
 (lM (kT (fC a))→
 bif decide ((↑(kT (fC a)).length:Int)=0) then
 5=cR a b c d
 else
 True∧
 bif !decide (b∈gW (kT (fC a))) then
 6=cR a b c d
 else
 bif decide (c<(1:Int))||decide (ly a<c) then 7=cR a b c d
 else GN a b c d)
def ab5:af:=aj Vn 77 (ap aqs)
def P78:Prop:=
 ∀ (a b:Int) (c:LD),
 lM c→
 Dq a b c→
 (SO a b c a b 0 c∧True)∧
 ∀ (d e f:Int) (g:LD),
 lM g→
 SO a b c d e f g→
 bif decide (f<e) then
 iR ((8:Int)*f)∧
 (0:Int)≤8*f∧
 aR (g.length+1) 1∧
 iR (f+1)∧
 SO a b c d e (f+1)
 (g++ [[.int (IntKind.u8.wrap (aW .i64 d ((8:Int)*f)))]])∧
 (e-(f+1)).toNat<(e-f).toNat
 else g=c++ah (ed a b.toNat)
def Yy:af:=aj ab5 78 (ap aqQ)
abbrev MZ (a b c:Int):LD:=
 [[.int (IntKind.u8.wrap a)],[.int (IntKind.u8.wrap b)]] ++ah (ed c 4)
def P40:Prop:=
 ∀ (a b c:Int) (d:List UInt8),
 uZ d→
 True→
 True∧
 bif decide (cR a b c d≠0) then
 cR a b c d=cR a b c d∧ [] =kH a b c d
 else
 Dq c 4 [[.int (IntKind.u8.wrap a)],[.int (IntKind.u8.wrap b)]] ∧
 Dq ↑d.length 2 (MZ a b c)∧
 aR (8+(ah d).length) 1∧
 0=cR a b c d∧
 MZ a b c++ah (ed ↑d.length 2)++
 ah d=
 kH a b c d
def aeM:af:=aj Yy 40 (ap arA)
theorem aa {b:Bool} {X Y:Prop} (h:b=true→X) (k:b=false→Y):bif b then X else Y:=by
 cases b with
 | true=>exact h rfl
 | false=>exact k rfl
theorem aqb:P48:=by
 delta P48 uZ GN
 intro a b c l hl _
 unfold cR
 refine aa (fun h=> ?_) fun h1=>aa (fun h=> ?_) fun h2=>aa (fun h=> ?_) fun h3 hl=>aa (fun h=> ?_) fun h4=> ?_
 all_goals simp only [Bool.or_eq_true,cV,aK,Bool.or_eq_false_iff,Bool.and_eq_false_iff,aT,ne_eq,Classical.not_not] at *
 all_goals repeat' split
 all_goals omega
theorem c48:(base.with adY).Ok:=ac LY (ai am LY Tryz.func48 (by kernel_rfl) Tryz.call48 (by kernel_rfl) aqb)
theorem FN:∀ {l:List Int} {v:Int},v∉l→nQ l v= -1
 | [],_,_=>rfl
 | x::l,v,h=>by
  have h1:x≠v:=fun e=>h (by simp [e])
  have h2:=FN (l:=l) (v:=v) fun e=>h (by simp [e])
  simp [nQ,h1,h2]
theorem Fo:∀ {l:List Int} {v:Int} {i:Nat},v∉l.take i→l[i]? =some v→nQ l v=i
 | [],_,_,_,h=>by simp at h
 | x::l,v,0,_,h=>by simp at h;simp [nQ,h]
 | x::l,v,i+1,h,h'=>by
  have h1:x≠v:=fun e=>h (by simp [e])
  have h2:=Fo (l:=l) (v:=v) (i:=i) (fun e=>h (by simp [e])) (by simpa using h')
  simp only [nQ,if_neg h1,h2]
  rw [if_neg (by omega)]
  omega
theorem Yf {l:List Int} {v:Int} :0≤nQ l v↔v∈l:=by
 induction l with
 | nil=>simp [nQ]
 | cons x l ih=>
  simp only [nQ,List.mem_cons]
  split
  ·rename_i h;simp [h]
  ·rename_i h
   have:v≠x:=fun e=>h e.symm
   rw [or_iff_right this,← ih]
   split <;>omega
theorem Np {l:LD} {i:Nat} (h:i<l.length):(gW l)[i]? =some ((l.getD i []).getD 0 .d0).toInt:=by
 simp [gW,h]
theorem Gl (l:LD):(gW l).length=l.length:=by simp [gW]
theorem ahi:ab4:=by
 delta ab4 lM iR bR
 intro l v hl _ _
 refine ⟨⟨⟨rfl,rfl,rfl,by omega,by omega,by simp⟩,trivial⟩,?_⟩
 rintro l' v' n i hl' ⟨rfl,rfl,rfl,h0,h1,h2⟩
 refine aa (fun h=> ?_) fun h=> ?_
 ·simp only [aK] at h
  have hlt:i.toNat<l'.length:=by omega
  have hg:=Np hlt
  refine ⟨⟨h0,h⟩,hlt,aa (fun he=> ?_) fun he=>⟨by omega,⟨rfl,rfl,rfl,by omega,by omega,?_⟩,by omega⟩⟩
  ·simp only [aK] at he
   rw [Fo h2 (by rw [hg,he])]
   omega
  ·simp only [aT] at he
   rw [show (i+1).toNat=i.toNat+1 from by omega,List.take_add_one,hg]
   simp only [Option.toList_some,List.mem_append,List.mem_singleton,not_or]
   exact ⟨h2,he⟩
 ·simp only [aT] at h
  rw [FN]
  rw [List.take_of_length_le (by rw [Gl];omega)] at h2
  exact h2
theorem agk:(base.with Tf).Ok:=ac c48 (ai aaq c48 Tryz.func168 (by kernel_rfl) Tryz.call168 (by kernel_rfl) ahi)
theorem alq:abe:=by
 delta abe lM
 exact fun l n _ _=>⟨trivial,by rw [decide_eq_decide];exact Yf⟩
theorem aft:(base.with SG).Ok:=ac agk (ai am agk Tryz.func128 (by kernel_rfl) Tryz.call128 (by kernel_rfl) alq)
theorem ai0:arF:=by
 intro a _
 refine aa (fun h=> ?_) fun h1=>aa (fun h=> ?_) fun h2=>aa (fun h=> ?_) fun h3=> ?_
 all_goals simp only [aK,aT] at *
 all_goals simp [ly,fC,kT, *]
theorem adt:(base.with Vn).Ok:=ac aft (ai am aft Tryz.func127 (by kernel_rfl) Tryz.call127 (by kernel_rfl) ai0)
theorem PQ (l:List Int):gW (kT l)=l:=by simp [gW,kT,CD.toInt,Function.comp_def]
theorem Jf (l:List Int):(kT l).length=l.length:=by simp [kT]
theorem aqv:P77:=by
 delta P77 lM uZ GN
 intro a b c l hl _
 refine ⟨trivial,fun _=> ?_⟩
 rw [PQ,Jf]
 have ht:a=1∨a=2∨a=3∨(a≠1∧a≠2∧a≠3):=by omega
 have e1:fC 1= [1,2,3,4] :=rfl
 have e2:fC 2= [1,3] :=rfl
 have e3:fC 3= [0] :=rfl
 have m1:ly 1=1048576:=rfl
 have m2:ly 2=1048576:=rfl
 have m3:ly 3=1:=rfl
 rcases ht with rfl | rfl | rfl | ⟨h1,h2,h3⟩
 ·rw [e1,m1]
  refine ⟨trivial,aa (fun h=> ?_) fun h1=>aa (fun h=> ?_) fun h2 hl=>aa (fun h=> ?_) fun h3=> ?_⟩
  all_goals simp only [Bool.not_eq_true',Bool.not_eq_false',aK,aT,Bool.or_eq_true,Bool.or_eq_false_iff,List.mem_cons,List.not_mem_nil,or_false] at *
  all_goals unfold cR
  all_goals repeat' split
  all_goals omega
 ·rw [e2,m2]
  refine ⟨trivial,aa (fun h=> ?_) fun h1=>aa (fun h=> ?_) fun h2 hl=>aa (fun h=> ?_) fun h3=> ?_⟩
  all_goals simp only [Bool.not_eq_true',Bool.not_eq_false',aK,aT,Bool.or_eq_true,Bool.or_eq_false_iff,List.mem_cons,List.not_mem_nil,or_false] at *
  all_goals unfold cR
  all_goals repeat' split
  all_goals omega
 ·rw [e3,m3]
  refine ⟨trivial,aa (fun h=> ?_) fun h1=>aa (fun h=> ?_) fun h2 hl=>aa (fun h=> ?_) fun h3=> ?_⟩
  all_goals simp only [Bool.not_eq_true',Bool.not_eq_false',aK,aT,Bool.or_eq_true,Bool.or_eq_false_iff,List.mem_cons,List.not_mem_nil,or_false] at *
  all_goals unfold cR
  all_goals repeat' split
  all_goals omega
 ·have e:fC a= [] :=by simp [fC,h1,h2,h3]
  rw [e]
  refine aa (fun h=> ?_) fun h=>by simp at h
  unfold cR
  rw [if_pos (by omega)]
theorem c77:(base.with ab5).Ok:=ac adt (ai am adt Tryz.func77 (by kernel_rfl) Tryz.call77 (by kernel_rfl) aqv)
theorem yU (m:Int):IntKind.u8.wrap m=m%256:=by
 simp [IntKind.wrap,IntKind.signed,IntKind.bits]
theorem dy (n:Int) (i:Nat):((gU n i).toNat:Int)=n / 256 ^ i%256:=by
 have h0:0≤n / 256 ^ i%256:=Int.emod_nonneg _ (by decide)
 have h1:n / 256 ^ i%256<256:=Int.emod_lt_of_pos _ (by decide)
 simp only [gU,UInt8.toNat_ofNat']
 omega
theorem Sn {n i:Int} (h0:0≤i) (h:i<8):IntKind.u8.wrap (aW .i64 n (8*i))=((gU n i.toNat).toNat:Int):=by
 rw [yU,dy]
 obtain ⟨k,rfl⟩:∃ k:Nat,i=k:=⟨i.toNat,by omega⟩
 unfold aW
 have e:min (8*(k:Int)).toNat (IntKind.bits .i64)=8*k:=by simp [IntKind.bits];omega
 rw [e,Int.fdiv_eq_ediv_of_nonneg _ (by exact Int.le_of_lt (Int.pow_pos (by decide))),Int.pow_mul,ax]
 rfl
theorem FY (n:Int) (i:Nat):ed n (i+1)=ed n i++ [gU n i] :=by simp [ed,List.range_succ]
theorem fY (a b:List UInt8):ah (a++b)=ah a++ah b:=by simp [ah]
theorem aA (a:List UInt8):(ah a).length=a.length:=by simp [ah]
theorem lC (n:Int) (w:Nat):(ed n w).length=w:=by simp [ed]
theorem cl (a:List UInt8):ab (ah a)=a:=by
 simp only [ab,ah,List.map_map]
 refine (List.map_congr_left fun x _=> ?_).trans (List.map_id a)
 simp [CD.toInt]
theorem aqZ:P78:=by
 delta P78 lM iR aR
 rintro n w l hl ⟨hn,hw0,hw8,hlen⟩
 refine ⟨⟨⟨rfl,rfl,by omega,hw0,by simp [ed,ah]⟩,trivial⟩,?_⟩
 rintro n' w' i out hout ⟨rfl,rfl,h0,h1,rfl⟩
 refine aa (fun h=> ?_) fun h=> ?_
 ·simp only [aK] at h
  have hb:i.toNat≤8:=by omega
  simp only [cx,aA,lC,List.length_cons,List.length_nil] at *
  refine ⟨by omega,by omega,by omega,by omega,⟨rfl,rfl,by omega,by omega,?_⟩,by omega⟩
  rw [Sn h0 (by omega),show (i+1).toNat=i.toNat+1 from by omega,FY,fY,dO]
  rfl
 ·simp only [aT] at h
  rw [show i=w' from by omega]
theorem c78:(base.with Yy).Ok:=ac c77 (ai aiE c77 Tryz.func78 (by kernel_rfl) Tryz.call78 (by kernel_rfl) aqZ)
theorem v7 {a b c:Int} {l:List UInt8} (h:cR a b c l=0):1≤a∧a≤3∧0≤b∧b≤4∧1≤c∧c≤1048576∧(a=3→c=1)∧(a=1→1≤b)∧(a=2→b=1∨b=3)∧(a=3→b=0)∧l.length≤255:=by
 unfold cR at h
 repeat' split at h
 all_goals omega
theorem HI {a:Int} (h0:0≤a) (h:a<256): [CD.int (IntKind.u8.wrap a)] = [CD.int ((gU a 0).toNat:Int)] :=by
 rw [yU,dy];simp
theorem aqH:P40:=by
 delta P40 aR uZ MZ
 intro a b c l hl hpre
 refine ⟨trivial,aa (fun h=> ?_) fun h=> ?_⟩
 ·simp only [ne_eq,decide_not,Bool.not_eq_true',aT] at h
  exact ⟨rfl,by rw [kH,if_neg h]⟩
 ·simp only [ne_eq,decide_not,Bool.not_eq_false',aK] at h
  obtain ⟨h1,h2,h3,h4,h5,h6,_,_,_,_,h7⟩:=v7 h
  simp only [cx,aA,lC,List.length_cons,List.length_nil,Dq] at *
  refine ⟨⟨by omega,by omega,by omega,by omega⟩,⟨by omega,by omega,by omega,by omega⟩,⟨by omega,by omega⟩,h.symm,?_⟩
  rw [kH,if_pos h,xm,HI (by omega) (by omega),HI (by omega) (by omega)]
  simp only [fY]
  rfl
theorem c40:(base.with aeM).Ok:=ac c78 (ai am c78 Tryz.func40 (by kernel_rfl) Tryz.call40 (by kernel_rfl) aqH)
structure It where
 k:Int
 t:Int
 c:Int
 l:List UInt8
 deriving DecidableEq
def jK (r:List CD):It:=⟨(r.getD 0 .d0).toInt,(r.getD 1 .d0).toInt,(r.getD 2 .d0).toInt,(r.getD 3 .d0).toStr⟩
def ajU (x:It):List CD:= [.int x.k,.int x.t,.int x.c,.str x.l]
def az (l:LD):List It:=l.map jK
def dW (l:List It):LD:=l.map ajU
def yL (a b c a' b' c':Int):Bool:=decide (a=a')&&(decide (b=b')&&decide (c=c'))
def bV:List UInt8→Nat
 | [] =>0
 | b::l=>b.toNat+256*bV l
def bP (l:LD):Prop:=l=ah (ab l)
def apI:It:=⟨0,0,0,[]⟩
def jg (b:List UInt8):It:=⟨bV (b.take 1),bV ((b.drop 1).take 1),bV ((b.drop 2).take 4),(b.drop 8).take (bV ((b.drop 6).take 2))⟩
def eM (b:List UInt8):Int:=
 if b.length<8∨b.length<8+bV ((b.drop 6).take 2) then 2 else cR (jg b).k (jg b).t (jg b).c (jg b).l
def dL (b:List UInt8):It:=if eM b=0 then jg b else apI
def jI (b:List UInt8):List UInt8:=if eM b=0 then b.drop (8+bV ((b.drop 6).take 2)) else []
def aix:Ct:= {ps:= [tt,tt],bs:= [],pre:=fun _=>True,res:=fun | [.i a,.i b,.i c,_,.i a',.i b',.i c',_] => .ret .bool [] [.b (yL a b c a' b' c')] | _=>ag}
def oS (n w:Int):Prop:=0≤n∧n≤1000000000∧0≤w∧w≤8
def ar0:Ct:= {ps:= [i64,i64],bs:= [],pre:=fun | [.i n,.i w] =>oS n w | _=>False,res:=fun | [.i n,.i w] => .ret (.own 0) [.own 5 fX] [.r (ah (ed n w.toNat))] | _=>ag}
def Vp (n w n' w' i:Int) (out:LD):Prop:=n'=n / 256 ^ i.toNat∧w'=w∧0≤i∧i≤w∧out=ah (ed n i.toNat)
def ah4:List Dat→Ann
 | [.i n,.i w] => {cut:= [],loop:= [(3,[la 22 [(0,i64),(1,i64),(5,.own 0),(6,i64)] [.own 5 fX] (fun | [.i n',.i w',.i i,.r out] =>Vp n w n' w' i out | _=>False) (fun | [_,.i w',.i i,_] =>(w'-i).toNat | _=>0)])]}
 | _=> {cut:= [],loop:= []}
def aqn:Ct:= {ps:= [tt],bs:= [],pre:=fun _=>True,res:=fun | [.i a,.i b,.i c,.s l] => .ret (.tup [.own 0,i64]) [.own 5 fX] [.i (cR a b c l),.r (kH a b c l)] | _=>ag}
def CW (l:LD):Prop:=bP l∧l.length≤7
def arn:Ct:= {ps:= [.rd fX],bs:= [],pre:=fun | [.r l] =>CW l | _=>False,res:=fun | [.r l] => .ret i64 [] [.i (bV (ab l))] | _=>ag}
def SS (l l':LD) (n i:Int):Prop:=l'=l∧-1≤i∧i<l.length∧n=bV ((ab l).drop (i+1).toNat)
def akM:List Dat→Ann
 | [.r l] => {cut:= [],loop:= [(3,[la 21 [(0,.rd fX),(3,i64),(4,i64)] [] (fun | [.r l',.i n,.i i] =>SS l l' n i | _=>False) (fun | [_,_,.i i] =>(i+1).toNat | _=>0)])]}
 | _=> {cut:= [],loop:= []}
def yH (l:LD):Prop:=l.length≤100000000
def aie:Ct:= {ps:= [.rd fX],bs:= [],pre:=fun | [.r l] =>yH l | _=>False,res:=fun | [.r l] => .ret (.own 0) [.own 5 fX] [.r l] | _=>ag}
abbrev BY:BPat:= .cells 295 [.rd fX,.bool]
def tX (n:Int):Prop:=0≤n
def ln (l:LD) (n:Int):LD:=if (l.length:Int)<n then [] else l.take n.toNat
def fM (l:LD) (n:Int):LD:=if (l.length:Int)<n then l else l.drop n.toNat
def p6 (l:LD) (n:Int) (sh:Bool):Bool:=decide ((l.length:Int)<n)||sh
def alU:Ct:= {ps:= [.ptr 0 0,i64],bs:= [BY],pre:=fun | [.i n,_,_] =>tX n | _=>False,res:=fun | [.i n,.r l,.b sh] => .ret (.rd fX) [BY] [.r (ln l n),.r (fM l n),.b (p6 l n sh)] | _=>ag}
def uL (w:Int) (l:LD):Prop:=0≤w∧w≤7∧bP l
def akJ:Ct:= {ps:= [.ptr 0 0,i64],bs:= [BY],pre:=fun | [.i w,.r l,_] =>uL w l | _=>False,res:=fun | [.i w,.r l,.b sh] => .ret i64 [BY] [.i (bV (ab (ln l w))),.r (fM l w),.b (p6 l w sh)] | _=>ag}
def NG (w:Int) (l:LD) (sh:Bool) (n:Int) (tk:LD) (m i:Int) (rest:LD) (sh':Bool):Prop:=tk=ln l w∧m=tk.length∧0≤i∧i≤m∧rest=fM l w∧sh'=p6 l w sh∧n=bV ((ab tk).take i.toNat)
def aeK:List Dat→Ann
 | [.i w,.r l,.b sh] => {cut:= [],loop:= [(3,[la 26 [(5,i64),(10,.rd fX),(11,i64),(12,i64)] [BY] (fun | [.i n,.r tk,.i m,.i i,.r rest,.b sh'] =>NG w l sh n tk m i rest sh' | _=>False) (fun | [_,_,.i m,.i i,_,_] =>(m-i).toNat | _=>0)])]}
 | _=> {cut:= [],loop:= []}
def bk (l:LD):Prop:=bP l∧l.length≤100000000
def amO:Ct:= {ps:= [.rd fX],bs:= [],pre:=fun | [.r l] =>bk l | _=>False,res:=fun | [.r l] => .ret (.tup [tt,.own 0,i64]) [.own 5 fX] [.i (dL (ab l)).k,.i (dL (ab l)).t,.i (dL (ab l)).c,.s (dL (ab l)).l,.i (eM (ab l)),.r (ah (jI (ab l)))] | _=>ag}
def aqk:Ct:= {ps:= [.rd fX],bs:= [],pre:=fun | [.r l] =>bk l | _=>False,res:=fun | [.r l] => .ret (.tup [tt,.rd fX,i64]) [] [.i (dL (ab l)).k,.i (dL (ab l)).t,.i (dL (ab l)).c,.s (dL (ab l)).l,.r (ah (jI (ab l))),.i (eM (ab l))] | _=>ag}
end
end Go.Proofs.YteiecapbaeajdaaGreatDoor
namespace Go.Avc
set_option linter.unusedVariables false
set_option linter.unusedSimpArgs false
mutual
def wfC:CSh→CD→Prop
 | .int k,.int n=>k.min≤n∧n≤k.max
 | .sl e,.sl l=>∀ row∈l,wfRow e row
 | _,_=>True
def wfRow:List CSh→List CD→Prop
 | [],_=>True
 | sh::e,row=>(match row with | cd::row=>wfC sh cd∧wfRow e row | [] =>True)
end
section
variable (P:Program)
def xc:List Field→Nat→Bool
 | [],_=>true
 | f::fs,o=>Nat.beq f.offset o&&xc fs (o+P.cellsOf f.type)
def nZ (f:TypeId→Option (List CSh)):List Field→Option (List CSh)
 | [] =>some []
 | fd::fs=>match f fd.type,nZ f fs with | some a,some b=>(bif Nat.beq a.length (P.cellsOf fd.type) then some (a++b) else none) | _,_=>none
def Cy:Nat→TypeId→Option (List CSh)
 | 0,_=>none
 | d+1,T=>match P.underlying T with
  | some (.int k)=>some [.int k]
  | some .bool=>some [.bool]
  | some .string=>some [.str]
  | some (.slice E)=>(match Cy d E with | some e=>(bif Nat.beq e.length (P.cellsOf E)&&!Nat.beq e.length 0 then some [.sl e] else none) | none=>none)
  | some (.struct fs)=>(match nZ P (Cy d) fs.toList with | some e=>(bif xc P fs.toList 0&&Nat.beq e.length (P.cellsOf T) then some e else none) | none=>none)
  | some (.array n E)=>(match Cy d E with | some e=>(bif Nat.beq e.length (P.cellsOf E)&&Nat.beq (n*e.length) (P.cellsOf T) then some (List.replicate n e).flatten else none) | none=>none)
  | _=>none
end
section
variable {P:Program} {W:World} {H:Type} {enc:TypeId×Value→H}
abbrev lV (W:World):Nat→Prop:=fun i=>i<W.heap.size
theorem BH {Im:Nat→Prop} {w:World} :∀ {e1 e2:List CSh} {r1 r2:List CD} {v1 v2:List Value},RowRel Im w e1 r1 v1→RowRel Im w e2 r2 v2→RowRel Im w (e1++e2) (r1++r2) (v1++v2):=by
 intro e1
 induction e1 with
 | nil=>intro e2 r1 r2 v1 v2 h k;cases h;exact k
 | cons sh e1 ih=>
  intro e2 r1 r2 v1 v2 h k
  cases h with
  | cons _ cd v _ row vs h1 h2=>exact .cons _ _ _ _ _ _ h1 (ih h2 k)
theorem sb:∀ {e1 e2:List CSh} {r1 r2:List CD},e1.length=r1.length→wfRow e1 r1→wfRow e2 r2→wfRow (e1++e2) (r1++r2)
 | [],e2,[],r2,_,_,k=>k
 | [],_,_::_,_,h,_,_=>by simp at h
 | _::_,_,[],_,h,_,_=>by simp at h
 | sh::e1,e2,cd::r1,r2,hl,h,k=>⟨h.1,sb (by simpa using hl) h.2 k⟩
theorem O3 {w:World} {a:Addr} {n:Nat} :∀ {cs:List Value},(List.range n).mapM (fun i=>w.cell? (a.add i))=some cs→cs.length=n∧∀ j x,cs[j]? =some x→w.cell? (a.add j)=some x:=by
 induction n with
 | zero=>intro cs h;simp at h;subst h;exact ⟨rfl,fun j x h=>by simp at h⟩
 | succ n ih=>
  intro cs h
  rw [List.range_succ,List.mapM_append] at h
  cases h1:(List.range n).mapM (fun i=>w.cell? (a.add i)) with
  | none=>rw [h1] at h;simp at h
  | some l=>
   rw [h1] at h
   cases h2:w.cell? (a.add n) with
   | none=>simp [h2] at h
   | some x=>
    simp [h2] at h
    subst h
    obtain ⟨k1,k2⟩:=ih h1
    refine ⟨by simp [k1],fun j y hy=> ?_⟩
    rcases Nat.lt_or_ge j l.length with hj | hj
    ·rw [List.getElem?_append_left hj] at hy;exact k2 j y hy
    ·rw [List.getElem?_append_right hj] at hy
     cases hz:j-l.length with
     | zero=>
      rw [hz] at hy
      simp at hy
      subst hy
      rw [show j=n from by omega];exact h2
     | succ m=>rw [hz] at hy;simp at hy
theorem L0 {w:World} {a:Addr} {x:Value} (h:w.cell? a=some x):a.block<w.heap.size:=by
 unfold World.cell? at h
 split at h
 ·rename_i heq
  exact (Array.getElem?_eq_some_iff.1 heq).1
 ·cases h
theorem Fl (a:Addr) (j:Nat):(a.add j).block=a.block:=by unfold Addr.add;split <;>rfl
def WE (P:Program) (W:World) (enc:TypeId×Value→H) (fuel:Nat):Prop:=∀ T cs d ps,DataW.trod enc P W 0 (fun _=>true) true fuel T cs=some (d,ps)→∀ D e,Cy P D T=some e→∃ row,RowRel (lV W) W e row cs∧wfRow e row
theorem CG {fuel D:Nat} (ih:WE P W enc fuel) {cs:List Value} :∀ {fs:List Field} {o:Nat} {e:List CSh} {xs:List (DataW H×List MemPlace)},xc P fs o=true→nZ P (Cy P D) fs=some e→
  fs.mapM (fun f=>DataW.trod enc P W 0 (fun _=>true) true fuel f.type ((cs.drop f.offset).take (P.cellsOf f.type)))=some xs→∃ row,RowRel (lV W) W e row ((cs.drop o).take e.length)∧wfRow e row
 | [],o,e,xs,h1,h2,h3=>by
  simp only [nZ,Option.some.injEq] at h2
  subst h2
  exact ⟨[],by simpa using RowRel.nil,trivial⟩
 | f::fs,o,e,xs,h1,h2,h3=>by
  simp only [xc,cV] at h1
  have ho:=aD.1 h1.1
  simp only [nZ] at h2
  split at h2
  ·rename_i a b ha hb
   cases hl:Nat.beq a.length (P.cellsOf f.type) with
   | false=>rw [hl] at h2;cases h2
   | true=>
    rw [hl] at h2
    cases h2
    have hal:=aD.1 hl
    rw [List.mapM_cons] at h3
    cases hx:DataW.trod enc P W 0 (fun _=>true) true fuel f.type ((cs.drop f.offset).take (P.cellsOf f.type)) with
    | none=>rw [hx] at h3;simp at h3
    | some x=>
     rw [hx] at h3
     cases hxs:fs.mapM (fun f=>DataW.trod enc P W 0 (fun _=>true) true fuel f.type ((cs.drop f.offset).take (P.cellsOf f.type))) with
     | none=>simp [hxs] at h3
     | some ys=>
      obtain ⟨r1,k1,k2⟩:=ih _ _ _ _ hx D a ha
      obtain ⟨r2,k3,k4⟩:=CG ih h1.2 hb hxs
      have hlen:=RowRel.length k1
      refine ⟨r1++r2,?_,sb hlen.2.symm k2 k4⟩
      have:=BH k1 k3
      rw [ho,← hal] at this
      have e1:(cs.drop o).take a.length++(cs.drop (o+a.length)).take b.length=(cs.drop o).take (a++b).length:=by
       rw [cx,List.take_add,List.drop_drop]
      rw [← e1];exact this
  ·cases h2
theorem FF {fuel D:Nat} (ih:WE P W enc fuel) {cs:List Value} {E:TypeId} {e:List CSh} (he:Cy P D E=some e) (hl:e.length=P.cellsOf E):∀ (n:Nat) {xs:List (DataW H×List MemPlace)},
  (List.range n).mapM (fun i=>DataW.trod enc P W 0 (fun _=>true) true fuel E ((cs.drop (i*P.cellsOf E)).take (P.cellsOf E)))=some xs→∃ row,RowRel (lV W) W (List.replicate n e).flatten row (cs.take (n*e.length))∧wfRow (List.replicate n e).flatten row
 | 0,xs,h=>⟨[],by simpa using RowRel.nil,trivial⟩
 | n+1,xs,h=>by
  rw [List.range_succ,List.mapM_append] at h
  cases h1:(List.range n).mapM (fun i=>DataW.trod enc P W 0 (fun _=>true) true fuel E ((cs.drop (i*P.cellsOf E)).take (P.cellsOf E))) with
  | none=>rw [h1] at h;simp at h
  | some l=>
   rw [h1] at h
   cases h2:DataW.trod enc P W 0 (fun _=>true) true fuel E ((cs.drop (n*P.cellsOf E)).take (P.cellsOf E)) with
   | none=>simp [h2] at h
   | some x=>
    obtain ⟨r1,k1,k2⟩:=FF ih he hl n h1
    obtain ⟨r2,k3,k4⟩:=ih _ _ _ _ h2 D e he
    have hlen:=RowRel.length k1
    have e0:(List.replicate (n+1) e).flatten=(List.replicate n e).flatten++e:=by
     rw [show n+1=n+1 from rfl,List.replicate_succ',List.flatten_append];simp
    refine ⟨r1++r2,?_,by rw [e0];exact sb hlen.2.symm k2 k4⟩
    rw [e0,Nat.succ_mul,List.take_add]
    rw [hl] at k1 ⊢
    exact BH k1 k3
theorem FG {fuel D:Nat} (ih:WE P W enc fuel) {a:Addr} {E:TypeId} {e:List CSh} (he:Cy P D E=some e) (hl:e.length=P.cellsOf E):∀ (n:Nat) {xs:List (DataW H×List MemPlace)},
  (List.range n).mapM (fun i=>(W.cells? 0 (a.add (i*P.cellsOf E)) (P.cellsOf E)).bind (DataW.trod enc P W 0 (fun _=>true) true fuel E))=some xs→
   ∃ rows vs,rows.length=n∧FlatRel (lV W) W e rows vs∧(∀ j x,vs[j]? =some x→W.cell? (a.add j)=some x)∧∀ row∈rows,wfRow e row
 | 0,xs,h=>⟨[],[],rfl,.nil _,fun j x h=>by simp at h,fun r h=>by simp at h⟩
 | n+1,xs,h=>by
  rw [List.range_succ,List.mapM_append] at h
  cases h1:(List.range n).mapM (fun i=>(W.cells? 0 (a.add (i*P.cellsOf E)) (P.cellsOf E)).bind (DataW.trod enc P W 0 (fun _=>true) true fuel E)) with
  | none=>rw [h1] at h;simp at h
  | some l=>
   rw [h1] at h
   cases h2:W.cells? 0 (a.add (n*P.cellsOf E)) (P.cellsOf E) with
   | none=>simp [h2] at h
   | some cs=>
    cases h3:DataW.trod enc P W 0 (fun _=>true) true fuel E cs with
    | none=>simp [h2,h3] at h
    | some x=>
     obtain ⟨rows,vs,k1,k2,k3,k4⟩:=FG ih he hl n h1
     obtain ⟨row,g1,g2⟩:=ih _ _ _ _ h3 D e he
     unfold World.cells? at h2
     rw [if_pos (Nat.zero_le _)] at h2
     obtain ⟨g3,g4⟩:=O3 h2
     have hvl:=FlatRel.length k2
     refine ⟨rows++ [row],vs++cs,by simp [k1],?_,fun j y hy=> ?_,fun r hr=> ?_⟩
     ·have:=FlatRel.append k2 (.cons e row cs [] [] g1 (.nil e))
      simpa using this
     ·rcases Nat.lt_or_ge j vs.length with hj | hj
      ·rw [List.getElem?_append_left hj] at hy;exact k3 j y hy
      ·rw [List.getElem?_append_right hj] at hy
       have hc:=g4 _ y hy
       have ha:a.spot=none:=by
        have hcs:0<cs.length:=by have:=(List.getElem?_eq_some_iff.1 hy).1;omega
        have h00:∀ (x:Value),W.cell? (a.add 0)=some x→a.spot=none:=fun x hx=>by
         have:=rB hx (.inl rfl)
         simpa [Addr.add] using this
        rcases Nat.eq_zero_or_pos n with hn | hn
        ·subst hn
         have:=g4 0 cs[0] (cJ hcs)
         rw [Nat.zero_mul] at this
         have e0:(a.add 0).add 0=a.add 0:=by simp [Addr.add]
         rw [e0] at this
         exact h00 _ this
        ·have hvp:0<vs.length:=by rw [hvl,k1];exact Nat.mul_pos hn (by omega)
         exact h00 _ (k3 0 vs[0] (cJ hvp))
       rw [add_add _ _ _ ha] at hc
       rw [show j=n*P.cellsOf E+(j-vs.length) from by rw [hvl,k1,hl] at *;omega]
       rw [hvl,k1,hl] at hc ⊢
       simpa using hc
     ·rcases List.mem_append.1 hr with hr | hr
      ·exact k4 r hr
      ·simp at hr;subst hr;exact g2
theorem J8:∀ fuel,WE P W enc fuel
 | 0=>fun T cs d ps h=>by simp [DataW.trod] at h
 | fuel+1=>fun T cs d ps h D e he=>by
  have ih:=J8 fuel
  cases D with
  | zero=>cases he
  | succ D=>
   unfold DataW.trod at h
   simp only [Cy] at he
   cases hu:P.underlying T with
   | none=>rw [hu] at he;cases he
   | some td=>
    rw [hu] at he h
    cases td with
    | bool=>
     cases he
     split at h <;>try cases h
     all_goals (rename_i heq;cases heq)
     exact ⟨[.bool _],.cons _ _ _ _ _ _ (.bool _) .nil,trivial,trivial⟩
    | int k=>
     cases he
     split at h <;>try cases h
     all_goals (rename_i heq;cases heq)
     split at h
     ·rename_i hk
      obtain ⟨rfl,hw⟩:=hk
      refine ⟨[.int _],.cons _ _ _ _ _ _ (.int _ _) .nil,?_,trivial⟩
      unfold Lit.wf at hw
      simpa [wfC] using hw
     ·cases h
    | string=>
     cases he
     split at h <;>try cases h
     all_goals (rename_i heq;cases heq)
     split at h
     ·rename_i s hs
      obtain ⟨⟨l⟩⟩:=s
      exact ⟨[.str l],.cons _ _ _ _ _ _ (.str l hs) .nil,trivial,trivial⟩
     ·cases h
    | slice E=>
     simp only at he h
     split at he
     ·rename_i e' he'
      cases hl:(Nat.beq e'.length (P.cellsOf E)&&!Nat.beq e'.length 0) with
      | false=>rw [hl] at he;cases he
      | true=>
       rw [hl] at he
       cases he
       simp only [cV,Bool.not_eq_true'] at hl
       have hl':=aD.1 hl.1
       have hl0:=eI.1 hl.2
       split at h <;>try cases h
       all_goals (rename_i heq;cases heq)
       ·exact ⟨[.sl []],.cons _ _ _ _ _ _ (.sl0 _ _ _ (Nat.zero_le _)) .nil,(fun r hr=>by simp at hr),trivial⟩
       ·rename_i a len cap
        split at h
        ·rename_i hc
         obtain ⟨_,hc1,hc2⟩:=hc
         cases hm:(List.range len).mapM (fun i=>(W.cells? 0 (a.add (i*P.cellsOf E)) (P.cellsOf E)).bind (DataW.trod enc P W 0 (fun _=>true) true fuel E)) with
         | none=>rw [hm] at h;simp at h
         | some xs=>
          obtain ⟨rows,vs,k1,k2,k3,k4⟩:=FG ih he' hl' len hm
          refine ⟨[.sl rows],.cons _ _ _ _ _ _ ?_ .nil,k4,trivial⟩
          rcases Nat.eq_zero_or_pos len with h0 | h0
          ·subst h0
           have:rows= [] :=List.length_eq_zero_iff.1 k1
           subst this
           exact .sl0 _ _ _ hc2
          ·subst k1
           refine .sl _ _ a cap vs hc1 hc2 ?_ k2 k3
           have hvl:=FlatRel.length k2
           have hpos:0<vs.length:=by rw [hvl];exact Nat.mul_pos h0 (by omega)
           have:=k3 0 vs[0] (cJ hpos)
           have:=L0 this
           rwa [Fl] at this
        ·cases h
     ·cases he
    | struct fs=>
     simp only at he h
     split at he
     ·rename_i e' he'
      cases hl:(xc P fs.toList 0&&Nat.beq e'.length (P.cellsOf T)) with
      | false=>rw [hl] at he;cases he
      | true=>
       rw [hl] at he
       cases he
       simp only [cV] at hl
       have hl':=aD.1 hl.2
       split at h
       ·rename_i hcl
        cases hm:fs.toList.mapM (fun f=>DataW.trod enc P W 0 (fun _=>true) true fuel f.type ((cs.drop f.offset).take (P.cellsOf f.type))) with
        | none=>rw [hm] at h;simp at h
        | some xs=>
         obtain ⟨row,k1,k2⟩:=CG ih hl.1 he' hm
         rw [List.drop_zero,hl',← hcl,List.take_length] at k1
         exact ⟨row,k1,k2⟩
       ·cases h
     ·cases he
    | array n E=>
     simp only at he h
     split at he
     ·rename_i e' he'
      cases hl:(Nat.beq e'.length (P.cellsOf E)&&Nat.beq (n*e'.length) (P.cellsOf T)) with
      | false=>rw [hl] at he;cases he
      | true=>
       rw [hl] at he
       cases he
       simp only [cV] at hl
       have hl1:=aD.1 hl.1
       have hl2:=aD.1 hl.2
       split at h
       ·rename_i hcl
        cases hm:(List.range n).mapM (fun i=>DataW.trod enc P W 0 (fun _=>true) true fuel E ((cs.drop (i*P.cellsOf E)).take (P.cellsOf E))) with
        | none=>rw [hm] at h;simp at h
        | some xs=>
         obtain ⟨row,k1,k2⟩:=FF ih he' hl1 n hm
         rw [hl2,← hcl,List.take_length] at k1
         exact ⟨row,k1,k2⟩
       ·cases h
     ·cases he
    | _=>cases he
theorem OI {Im:Nat→Prop} {w:World} {e:List CSh} :∀ {l:LD} {xs:List Value},FlatRel Im w e l xs→∀ row∈l,∃ vs,RowRel Im w e row vs:=by
 intro l
 induction l with
 | nil=>intro xs _ row h;cases h
 | cons r l ih=>
  intro xs h row hr
  cases h with
  | cons _ _ vs _ xs h1 h2=>
   rcases List.mem_cons.1 hr with rfl | hr
   ·exact ⟨vs,h1⟩
   ·exact ih h2 row hr
theorem QG {Im:Nat→Prop} {w:World} {e:List CSh} {l:LD} {v:Value} (h:CRel Im w (.sl e) (.sl l) v):∀ row∈l,∃ vs,RowRel Im w e row vs:=by
 cases h with
 | sl0=>intro row h;cases h
 | sl _ _ ad cap xs _ _ _ hf _=>exact OI hf
theorem Sg {T:TypeId} {e:List CSh} (D:Nat) (hr:Cy P D T=some [.sl e]) {v:Value} {d:DataW H} {ps:List MemPlace} (hv:∃ a n c,v= .slice a n c) (h:DataW.Trod enc P W 0 (fun _=>true) true T v d ps):
  ∃ l,CRel (lV W) W (.sl e) (.sl l) v∧∀ row∈l,wfRow e row:=by
 obtain ⟨a,n,c,rfl⟩:=hv
 obtain ⟨fuel,hf⟩:=h
 obtain ⟨row,h1,h2⟩:=J8 fuel _ _ _ _ hf D _ hr
 have h1':RowRel (lV W) W [.sl e] row [.slice a n c] :=h1
 cases h1' with
 | cons _ cd _ _ row vs k1 k2=>
  cases k1 with
  | sl0 e a cap h=>exact ⟨[],.sl0 _ _ _ h,fun row hr=>by cases hr⟩
  | sl e l ad _ xs q1 q2 q3 q4 q5=>exact ⟨l,.sl e l ad _ xs q1 q2 q3 q4 q5,h2.1⟩
theorem O6 {C:Ctx} {f:FuncId} {F:List SV→List Blk→CR} (hs:da C f F) {W:World} {svs:List SV} {vs:List Value} (hcall:(callFunc f vs.toArray).run C.P W= .ok (.enter f vs.toArray) W)
  (hv:VRels (lV W) (fun _=>none) W svs vs) (hg:Globs C (lV W) (fun _=>none) W) (hK:(F svs []).wp [] fun sv _=>sv= .bool true):
  Calls C.P f vs.toArray W fun e w'=>e= .returned (.bool true)∧RowKit.Below W.heap.size W w':=by
 have hm:Mem C ⟨W,lV W,fun _=>none,fun _=>False,[]⟩ [] (lV W) (fun _=>none) W:=
  ⟨(fun b v h=>by cases h),⟨fun i h=>h,(fun b v r _ h=>by cases h),(fun b b' v v' r _ _ h=>by cases h),fun b v r _ h=>by cases h⟩,
   ⟨rfl,rfl,rfl,Nat.le_refl _,fun _ _ _=>rfl,(fun b v h=>by cases h),fun _ h=>h,fun _ h=> .inl h⟩,hg⟩
 have h:=hs svs [] (fun sv _=>sv= .bool true) (fun _=>True) (CR.wp_mono (fun sv hp h=>⟨h,fun _ _ _=>trivial⟩) _ hK) _ _ _ W vs hm (fun _ _=>rfl) hv
 rcases h with ⟨_,h⟩ | ⟨v,h,_⟩
 ·refine Calls.mono h ?_
  rintro e w' ⟨v,sv,hp',Im',ι',rfl,rfl,hv,hm',_⟩
  have hv':v= .bool true:=hv
  subst hv'
  exact ⟨rfl,hm'.since.os,hm'.since.tape,hm'.since.output,hm'.since.size,fun k hk=>hm'.since.block k hk id⟩
 ·rw [hcall] at h;cases h
end
end Go.Avc
namespace Go.Proofs.YteiecapbaeajdaaGreatDoor
open Go Go.Avc Go.ChangeShapes Go.WideShapes Go.ChangeAt Go.RowKit
set_option linter.unusedVariables false
set_option linter.unusedSimpArgs false
theorem own:ownKnob Tryz.prog.godebug=none:=by kernel_rfl
theorem XM:laidOutB Tryz.prog=true:=by kernel_rfl
theorem Rk {H:Type} {enc:TypeId×Value→H} {P:Program} {W:World} {base:Nat} {sp:Nat→Bool} {held:Bool} {fuel:Nat} {T E:TypeId} {n:Nat} {k:IntKind} {cs:List Value} {x:DataW H×List MemPlace}
  (hT:P.underlying T=some (.array n E)) (hE:P.underlying E=some (.int k)) (hc:P.cellsOf E=1) (hc2:P.cellsOf T=n) (h:DataW.trod enc P W base sp held fuel T cs=some x):
  ∃ l:List Int,l.length=n∧cs=l.map (Value.int k)∧x.1= .agg (l.map fun i=> .lit (.int k i))∧∀ i∈l,(Lit.int k i).wf=true:=by
 obtain ⟨xs,m,rfl,rfl,hlen,hn,hel⟩:=DataW.trod_array hT h
 rw [hc2] at hlen
 have one:∀ i,i<n→∃ a:Int,cs[i]? =some (.int k a)∧(xs.map (·.1))[i]? =some (.lit (.int k a))∧(Lit.int k a).wf=true:=fun i hi=>by
  have h1:=hel i hi
  rw [hc,Nat.mul_one] at h1
  have hx:xs[i]? =some xs[i] :=List.getElem?_eq_getElem (by omega)
  rw [hx] at h1
  obtain ⟨a,e1,e2,e3⟩:=DataW.trod_int hE h1
  refine ⟨a,?_,?_,e3⟩
  ·have:((cs.drop i).take 1)[0]? =some (.int k a):=by rw [e1];rfl
   rwa [List.getElem?_take_of_lt (by omega),List.getElem?_drop,Nat.add_zero] at this
  ·rw [List.getElem?_map,hx]
   simp [e2]
 have hcs:∀ i,i<n→∃ a:Int,cs[i]? =some (.int k a):=fun i hi=>by obtain ⟨a,h,_⟩:=one i hi;exact ⟨a,h⟩
 let f:Value→Int:=fun v=>match v with | .int _ a=>a | _=>0
 have key:∀ i,i<n→cs[i]? =some (.int k ((cs.map f).getD i 0))∧(xs.map (·.1))[i]? =some (.lit (.int k ((cs.map f).getD i 0)))∧(Lit.int k ((cs.map f).getD i 0)).wf=true:=fun i hi=>by
  obtain ⟨a,h1,h2,h3⟩:=one i hi
  have:(cs.map f).getD i 0=a:=by
   rw [List.getD_eq_getElem?_getD,List.getElem?_map,h1];rfl
  rw [this]
  exact ⟨h1,h2,h3⟩
 have ll:(cs.map f).length=n:=by rw [List.length_map,hlen]
 refine ⟨cs.map f,ll,?_,?_,?_⟩
 ·apply List.ext_getElem (by simp)
  intro i h1 h2
  have:=(key i (by omega)).1
  rw [List.getElem?_eq_getElem h1,List.getD_eq_getElem?_getD,List.getElem?_eq_getElem (by rw [List.length_map];exact h1)] at this
  simpa using this
 ·show DataW.agg _=DataW.agg _
  congr 1
  apply List.ext_getElem (by simp [hn,hlen])
  intro i h1 h2
  have hi:i<n:=by rw [List.length_map] at h1;omega
  have:=(key i hi).2.1
  rw [List.getElem?_eq_getElem h1,List.getD_eq_getElem?_getD,List.getElem?_eq_getElem (by omega)] at this
  simpa using this
 ·intro a ha
  obtain ⟨i,hi,rfl⟩:=List.getElem_of_mem ha
  have:=(key i (by omega)).2.2
  rwa [List.getD_eq_getElem?_getD,List.getElem?_eq_getElem hi] at this
def B9:List (String×DataW Unit):= [("avouch/keccak.constants",Rows.laid_avouch_keccak_constants)]
theorem gRc:Tryz.prog.globalNamed "avouch/keccak.constants" =some 0:=by kernel_rfl
theorem tRc:(Tryz.prog.globals[0]?).map (·.type)=some 381:=by kernel_rfl
theorem XZ:Tryz.prog.cellsOf 381=24:=by kernel_rfl
theorem Yb:Tryz.prog.cellsOf 73=1:=by kernel_rfl
theorem FI {Im:Nat→Prop} {w:World} (k:IntKind):∀ l:List Int,FlatRel Im w [.int k] (l.map fun n=> [.int n]) (l.map (Value.int k))
 | [] => .nil _
 | n::l=> .cons _ _ [.int k n] _ _ (.cons _ _ _ _ _ _ (.int k n) .nil) (FI k l)
theorem SB:(Rows.laid_avouch_keccak_constants:DataW Unit)= .agg (FM.map fun i=> .lit (.int .u64 i)):=rfl
theorem Xw {k:IntKind} :∀ {l m:List Int},(DataW.agg (l.map fun i=>DataW.lit (H:=Unit) (.int k i))=DataW.agg (m.map fun i=>DataW.lit (.int k i)))→l=m:=by
 intro l m h
 injection h with h
 have:=congrArg (List.map fun d:DataW Unit=>match d with | .lit (.int _ i)=>i | _=>0) h
 rw [List.map_map,List.map_map] at this
 have e:((fun d:DataW Unit=>match d with | .lit (.int _ i)=>i | _=>0) ∘ fun i:Int=>DataW.lit (.int k i))=id:=by funext i;rfl
 rwa [e,List.map_id,List.map_id] at this
theorem W5 {W:World} (h:laidMetH Tryz.prog B9 W) (f:Nat→Option SV) (hf:∀ g sv,f g=some sv→gl g=some sv):∀ g sv,f g=some sv→VRel (lV W) (fun _=>none) W sv (.pointer (some ⟨g,0,none⟩)):=by
 rw [MakeChecks.laidMetH_plain _ _ _ (by kernel_rfl)] at h
 obtain ⟨ps,⟨g0,t0,cs0,f0,p0,q0,hg0,ht0,hv0,hd0,_⟩,_,_⟩:=h
 obtain rfl:=Option.some.inj (gRc.symm.trans hg0)
 obtain rfl:=Option.some.inj (tRc.symm.trans ht0)
 obtain ⟨l,hl,hcs,hx,_⟩:=Rk Tryz.underlying381 Tryz.underlying73 Yb XZ hd0
 rw [SB] at hx
 obtain rfl:=Xw hx.symm
 intro g sv hg
 have hg':=hf g sv hg
 unfold gl at hg'
 cases hb:Nat.beq g 0 with
 | false=>rw [hb] at hg';cases hg'
 | true=>
  rw [hb] at hg'
  cases hg'
  obtain rfl:=aD.1 hb
  have hcell:∀ j x,(FM.map (Value.int .u64))[j]? =some x→W.cell? ((⟨0,0,none⟩:Addr).add j)=some x:=fun j x hj=>by
   have:=World.var?_cell hg0 hv0 j
   rw [← Array.getElem?_toList,hcs,hj] at this
   have e:(⟨0,0,none⟩:Addr).add j=⟨0,j,none⟩:=by
    unfold Addr.add
    split
    ·rename_i h;subst h;rfl
    ·simp
   rw [e];exact this
  refine ⟨⟨0,0,none⟩,FM.map (Value.int .u64),rfl,?_,FI .u64 FM,hcell⟩
  have h0:=hcell 0 (.int .u64 1) rfl
  have:=L0 h0
  rwa [Fl] at this
theorem Sv (os:Os) (args:Array Value):laidMetH Tryz.prog B9 ((World.doorLaid Tryz.prog 400 os).forCall (fun _ _=>0) ⟨#[],args,[]⟩).memory:=by
 rw [MakeChecks.laidMetH_plain _ _ _ (by kernel_rfl)]
 exact laidMet_of_run' 8 (by kernel_rfl) (by kernel_rfl)
theorem aej {Im:Nat→Prop} {w:World} {l:List (List CD)} {v:Value} (h:CRel Im w (.sl fX) (.sl l) v) (q:∀ row∈l,wfRow fX row):bP l:=by
 have k:=QG h
 clear h
 unfold bP
 induction l with
 | nil=>rfl
 | cons r l ih=>
  obtain ⟨vs,hv⟩:=k r (List.mem_cons_self ..)
  have hq:=q r (List.mem_cons_self ..)
  cases hv with
  | cons _ cd v _ row vs h1 h2=>
   cases h2
   cases h1 with
   | int _ n=>
    have hn:(0:Int)≤n∧n≤255:=hq.1
    have e:(((UInt8.ofNat n.toNat).toNat:Nat):Int)=n:=by
     rw [UInt8.toNat_ofNat',Nat.mod_eq_of_lt (by omega)];omega
    show [CD.int n] ::l= [CD.int (((UInt8.ofNat n.toNat).toNat:Nat):Int)] ::ah (ab l)
    rw [e,← ih (fun r hr=>q r (List.mem_cons_of_mem _ hr)) fun r hr=>k r (List.mem_cons_of_mem _ hr)]
end Go.Proofs.YteiecapbaeajdaaGreatDoor
namespace Go.Proofs.YteiecapbaeajdaaGreatDoor
open Go Go.Avc Go.Proofs
set_option linter.unusedVariables false
set_option maxRecDepth 100000
set_option linter.unusedSimpArgs false
open Go.Avc
noncomputable section
def aqu:Prop:=
 ∀ (a b c:Int) (d:List UInt8) (e f g:Int) (h:List UInt8),
 d.length≤(9223372036854775807:Nat)→
 h.length≤(9223372036854775807:Nat)→
 True→(decide (a=e)&&(decide (b=f)&&(decide (c=g)&&(decide (([] :List UInt8)= [])&&true))))=yL a b c e f g
def VO:af:=aj aeM 175 (ap aix)
def P87:Prop:=
 ∀ (a b:Int),
 oS a b→
 (Vp a b a b 0 [] ∧True)∧
 ∀ (c d e:Int) (f:LD),
 lM f→
 Vp a b c d e f→
 bif decide (e<d) then
 (0≤c∧(0:Int)<(256:Int))∧
 aR (f.length+1) 1∧
 (0≤c∧(0:Int)<(256:Int)∧c≤IntKind.i64.max)∧
 iR (e+1)∧
 Vp a b (c / 256) d (e+1) (f++ [[.int (IntKind.u8.wrap (c%(256:Int)))]])∧
 (d-(e+1)).toNat<(d-e).toNat
 else f=ah (ed a b.toNat)
def ae2:af:=aj VO 87 (ap ar0)
def P47:Prop:=
 ∀ (a b c:Int) (d:List UInt8),
 d.length≤9223372036854775807→
 True→
 True∧
 bif decide (cR a b c d≠0) then
 cR a b c d=cR a b c d∧ [] =kH a b c d
 else
 oS a 1∧
 oS b 1∧
 (2≤140737488355328∧2≤9223372036854775807)∧
 oS c 4∧
 (6≤140737488355328∧6≤9223372036854775807)∧
 oS ↑d.length 2∧
 (8≤140737488355328∧8≤9223372036854775807)∧
 aR (8+(ah d).length) 1∧
 0=cR a b c d∧
 ah (ed a 1)++
 ah (ed b 1)++
 ah (ed c 4)++
 ah (ed ↑d.length 2)++
 ah d=
 kH a b c d
def acb:af:=aj ae2 47 (ap aqn)
abbrev cO (a:LD):Int:=
 ↑a.length
abbrev Dt (a:Int)(b:LD):Int:=
 IntKind.i64.wrap ((b.getD a.toNat []).getD 0 (.int 0)).toInt
def P79:Prop:=
 ∀ (a:LD),
 lM a→
 CW a→
 lM a→
 iR (cO a-(1:Int))∧
 (SS a a 0 (cO a-(1:Int))∧True)∧
 ∀ (b:LD) (c d:Int),
 lM b→
 SS a b c d→
 bif decide (0≤d) then
 iR (c*256)∧
 bR d b∧
 d.toNat<b.length∧
 iR (c*256+Dt d b)∧
 iR (d-(1:Int))∧
 SS a b (c*256+Dt d b) (d-(1:Int))∧
 (d-(1:Int)+1).toNat<(d+1).toNat
 else c=(↑(bV (ab a)):Int)
def afH:af:=aj acb 79 (ap arn)
def afb:Prop:=
 ∀ (a:LD),
 lM a→
 yH a→
 ∀ (b:Bool),(b=true→a= [])→bif b then [] =a else aR (0+a.length) 1∧ [] ++a=a
def V5:af:=aj afH 171 (ap aie)
def abL:Prop:=
 ∀ (a:Int) (b:LD) (c:Bool),
 lM b→
 tX a→
 lM b→
 bif decide (cO b<a) then
 ((0:Int)≤0∧(0:Int)≤0∧(0:Int)≤0∧0≤cO b)∧
 ((0:Int)≤0∧
 0≤cO b∧cO b≤cO b)∧
 List.drop 0 (List.take 0 b)=ln b a∧
 List.drop 0 (List.take (cO b).toNat b)=fM b a∧
 true=p6 b a c
 else
 ((0:Int)≤0∧0≤a∧a≤a∧a≤cO b)∧
 (0≤a∧a≤cO b∧cO b≤cO b)∧
 List.drop 0 (List.take a.toNat b)=ln b a∧
 List.drop a.toNat (List.take (cO b).toNat b)=fM b a∧
 c=p6 b a c
def UL:af:=aj V5 170 (ap alU)
def adE:Prop:=
 ∀ (a:Int) (b:LD) (c:Bool),
 lM b→
 uL a b→
 tX a∧
 (lM (ln b a)→
 (NG a b c 0 (ln b a) (↑(ln b a).length:Int)
 0 (fM b a) (p6 b a c)∧
 True)∧
 ∀ (d:Int) (e:LD) (f g:Int) (h:LD) (i:Bool),
 lM e→
 NG a b c d e f g h i→
 bif decide (g<f) then
 bR g e∧
 g.toNat<e.length∧
 iR ((8:Int)*g)∧
 (0:Int)≤8*g∧
 iR (g+1)∧
 NG a b c
 (iE .i64 d (de .i64 (Dt g e) ((8:Int)*g))) e f (g+1) h
 i∧
 (f-(g+1)).toNat<(f-g).toNat
 else
 d=(↑(bV (ab (ln b a))):Int)∧
 h=fM b a∧i=p6 b a c)
def WJ:af:=aj UL 169 (ap akJ)
abbrev qo (a:LD):LD:=
 fM (fM (fM a 1) 1) 4
abbrev wg (a:LD):Int:=
 (↑(bV (ab (ln (qo a) 2))):Int)
abbrev zr (a:LD):Prop:=
 0=(dL (ab a)).k
abbrev zD (a:LD):Prop:=
 0=(dL (ab a)).t
abbrev z8 (a:LD):Prop:=
 0=(dL (ab a)).c
abbrev zP (a:LD):Prop:=
 [] =(dL (ab a)).l
abbrev sF (a:LD):LD:=
 ah (jI (ab a))
abbrev NV (a:LD):Int:=
 cR (↑(bV (ab (ln a 1))):Int)
 (↑(bV (ab (ln (fM a 1) 1))):Int)
 (↑(bV
 (ab
 (ln (fM (fM a 1) 1) 4))):
 Int)
 (ab
 (ln (fM (qo a) 2)
 (wg a)))
def aaM:Prop:=
 ∀ (a:LD),
 lM a→
 bk a→
 uL 1 a∧
 uL 1 (fM a 1)∧
 uL 4 (fM (fM a 1) 1)∧
 uL 2 (qo a)∧
 tX (wg a)∧
 bif
 p6 (fM (qo a) 2)
 (wg a)
 (p6 (qo a) 2
 (p6 (fM (fM a 1) 1) 4
 (p6 (fM a 1) 1
 (p6 a 1 false)))) then
 zr a∧
 zD a∧
 z8 a∧
 zP a∧
 2=eM (ab a)∧ [] =sF a
 else
 True∧
 bif decide (NV a≠0) then
 zr a∧
 zD a∧
 z8 a∧
 zP a∧
 NV a=eM (ab a)∧
 [] =sF a
 else
 yH
 (fM (fM (qo a) 2)
 (wg a))∧
 (↑(bV (ab (ln a 1))):Int)=
 (dL (ab a)).k∧
 (↑(bV
 (ab (ln (fM a 1) 1))):
 Int)=
 (dL (ab a)).t∧
 (↑(bV
 (ab
 (ln
 (fM (fM a 1) 1) 4))):
 Int)=
 (dL (ab a)).c∧
 ab
 (ln (fM (qo a) 2)
 (wg a))=
 (dL (ab a)).l∧
 0=eM (ab a)∧
 fM (fM (qo a) 2)
 (wg a)=
 sF a
def V1:af:=aj WJ 129 (ap amO)
abbrev kD (a:LD):Int:=
 (8:Int)+(↑(bV (ab (List.drop 6 (List.take 8 a)))):Int)
abbrev Km (a:LD):Int:=
 IntKind.i64.wrap ((a.getD 0 []).getD 0 (.int 0)).toInt
abbrev HP (a:LD):Int:=
 IntKind.i64.wrap ((a.getD 1 []).getD 0 (.int 0)).toInt
abbrev Iw (a:LD):Int:=
 cR (Km a) (HP a)
 (↑(bV (ab (List.drop 2 (List.take 6 a)))):Int)
 (ab (List.drop 8 (List.take (kD a).toNat a)))
def P42:Prop:=
 ∀ (a:LD),
 lM a→
 bk a→
 lM a→
 (bw false (decide (cO a<(8:Int)))=true→lM a)→
 ((!decide (cO a<(8:Int)))=true→
 (0:Int)≤6∧(6:Int)≤8∧8≤cO a)∧
 ((!decide (cO a<(8:Int)))=true→CW (List.drop 6 (List.take 8 a)))∧
 ((!decide (cO a<(8:Int)))=true→iR (kD a))∧
 bif
 decide (cO a<(8:Int)) ||
 decide (cO a<kD a) then
 zr a∧
 zD a∧
 z8 a∧
 zP a∧
 [] =sF a∧2=eM (ab a)
 else
 ((0:Int)≤6∧(6:Int)≤8∧8≤cO a)∧
 CW (List.drop 6 (List.take 8 a))∧
 iR (kD a)∧
 bR 0 a∧
 0<a.length∧
 bR 1 a∧
 1<a.length∧
 ((0:Int)≤2∧(2:Int)≤6∧6≤cO a)∧
 CW (List.drop 2 (List.take 6 a))∧
 ((0:Int)≤8∧
 8≤kD a∧
 kD a≤cO a)∧
 True∧
 bif decide (Iw a≠0) then
 zr a∧
 zD a∧
 z8 a∧
 zP a∧
 [] =sF a∧
 Iw a=eM (ab a)
 else
 (0≤kD a∧
 kD a≤cO a∧
 cO a≤cO a)∧
 Km a=(dL (ab a)).k∧
 HP a=(dL (ab a)).t∧
 (↑(bV (ab (List.drop 2 (List.take 6 a)))):Int)=
 (dL (ab a)).c∧
 ab (List.drop 8 (List.take (kD a).toNat a))=
 (dL (ab a)).l∧
 List.drop (kD a).toNat
 (List.take (cO a).toNat a)=
 sF a∧
 0=eM (ab a)
def ad9:af:=aj V1 42 (ap aqk)
theorem alZ:aqu:=by
 intro a b c l a' b' c' l' _ _ _
 simp [yL]
theorem adO:(base.with VO).Ok:=ac c40 (ai am c40 Tryz.func175 (by kernel_rfl) Tryz.call175 (by kernel_rfl) alZ)
theorem XC:IntKind.i64.max=9223372036854775807:=by decide
theorem wrap_i64 {n:Int} (h0: -9223372036854775808≤n) (h:n≤9223372036854775807):IntKind.i64.wrap n=n:=L3 .i64 n rfl ⟨h0,h⟩
theorem acI {n:Int} (k:Nat) (h0:0≤n):0≤n / 256 ^ k∧n / 256 ^ k≤n:=by
 have hp:(0:Int)<256 ^ k:=Int.pow_pos (by decide)
 exact ⟨Int.ediv_nonneg h0 (Int.le_of_lt hp),Int.ediv_le_self _ h0⟩
theorem aqF:P87:=by
 delta P87 lM iR aR
 rintro n w ⟨hn,hn2,hw0,hw8⟩
 refine ⟨⟨⟨by simp,rfl,by omega,hw0,by simp [ed,ah]⟩,trivial⟩,?_⟩
 rintro n' w' i out hout ⟨rfl,rfl,h0,h1,rfl⟩
 have hd:=acI (n:=n) i.toNat hn
 refine aa (fun h=> ?_) fun h=> ?_
 ·simp only [aK] at h
  rw [XC]
  simp only [aA,lC,List.length_cons,List.length_nil]
  refine ⟨⟨by omega,by omega⟩,⟨by omega,by omega⟩,⟨by omega,by omega,by omega⟩,⟨by omega,by omega⟩,⟨?_,rfl,by omega,by omega,?_⟩,by omega⟩
  ·rw [show (i+1).toNat=i.toNat+1 from by omega,Int.ediv_ediv_of_nonneg (Int.le_of_lt (Int.pow_pos (by decide))),Int.pow_succ]
  ·rw [show (i+1).toNat=i.toNat+1 from by omega,FY,fY,yU,Int.emod_emod_of_dvd _ (Int.dvd_refl 256),← dy]
   rfl
 ·simp only [aT] at h
  rw [show i=w' from by omega]
theorem c87:(base.with ae2).Ok:=ac adO (ai ah4 adO Tryz.func87 (by kernel_rfl) Tryz.call87 (by kernel_rfl) aqF)
theorem aqO:P47:=by
 delta P47 aR
 intro a b c l hl _
 refine ⟨trivial,aa (fun h=> ?_) fun h=> ?_⟩
 ·simp only [ne_eq,decide_not,Bool.not_eq_true',aT] at h
  exact ⟨rfl,by rw [kH,if_neg h]⟩
 ·simp only [ne_eq,decide_not,Bool.not_eq_false',aK] at h
  obtain ⟨h1,h2,h3,h4,h5,h6,_,_,_,_,h7⟩:=v7 h
  simp only [cx,aA,lC,oS]
  refine ⟨⟨by omega,by omega,by omega,by omega⟩,⟨by omega,by omega,by omega,by omega⟩,⟨by omega,by omega⟩,⟨by omega,by omega,by omega,by omega⟩,⟨by omega,by omega⟩,⟨by omega,by omega,by omega,by omega⟩,⟨by omega,by omega⟩,⟨by omega,by omega⟩,h.symm,?_⟩
  rw [kH,if_pos h,xm]
  simp only [fY]
theorem c47:(base.with acb).Ok:=ac c87 (ai am c87 Tryz.func47 (by kernel_rfl) Tryz.call47 (by kernel_rfl) aqO)
theorem I1 (b:List UInt8):bV b<256 ^ b.length:=by
 induction b with
 | nil=>simp [bV]
 | cons x b ih=>
  have:=x.toNat_lt
  simp only [bV,List.length_cons,Nat.pow_succ]
  omega
theorem qC (b:List UInt8) {i:Nat} (h:i<b.length):(((ah b).getD i []).getD 0 (CD.int 0)).toInt=((b.getD i 0).toNat:Int):=by
 simp [ah,h,CD.toInt]
theorem F8 (b:List UInt8) (n:Nat):(ah b).drop n=ah (b.drop n):=by simp [ah]
theorem FO (b:List UInt8) (n:Nat):(ah b).take n=ah (b.take n):=by simp [ah]
theorem eZ (b:List UInt8):bP (ah b):=by unfold bP;rw [cl]
theorem pK {l:LD} (h:bP l):∃ b,l=ah b:=⟨_,h⟩
theorem tr (x:UInt8):IntKind.i64.wrap ((x.toNat:Int))=(x.toNat:Int):=by
 have:=x.toNat_lt
 exact wrap_i64 (by omega) (by omega)
theorem LK {n:Nat} (h:n≤6):256 ^ n≤281474976710656:=by
 have:=Nat.pow_le_pow_right (show 0<256 by decide) h
 simpa using this
theorem ET {b:List UInt8} {i:Nat} (h:i<b.length):b.getD i 0=b[i] :=by simp [h]
theorem asb:P79:=by
 delta P79 lM iR bR cO Dt
 rintro l hl ⟨hB,h7⟩ _
 obtain ⟨b,rfl⟩:=pK hB
 rw [aA] at *
 refine ⟨by omega,⟨⟨rfl,by omega,by rw [aA];omega,?_⟩,trivial⟩,?_⟩
 ·rw [cl,show ((b.length:Int)-1+1).toNat=b.length from by omega,List.drop_length];rfl
 rintro l' n i hl' ⟨rfl,h0,h1,h2⟩
 rw [aA] at *
 rw [cl] at *
 refine aa (fun h=> ?_) fun h=> ?_
 ·simp only [aK] at h
  have hlt:i.toNat<b.length:=by omega
  rw [qC b hlt,tr,ET hlt]
  have hx:=b[i.toNat].toNat_lt
  have hn:=I1 (b.drop (i+1).toNat)
  have hp:=LK (n:=(b.drop (i+1).toNat).length) (by rw [cj];omega)
  have hd:b.drop i.toNat=b[i.toNat] ::b.drop (i+1).toNat:=by
   rw [show (i+1).toNat=i.toNat+1 from by omega]
   exact List.drop_eq_getElem_cons hlt
  refine ⟨by omega,⟨by omega,by omega⟩,hlt,by omega,by omega,⟨rfl,by omega,by rw [aA];omega,?_⟩,by omega⟩
  rw [cl,show (i-1+1).toNat=i.toNat from by omega,hd,bV,h2]
  omega
 ·simp only [aT] at h
  rw [h2,show (i+1).toNat=0 from by omega,List.drop_zero]
theorem c79:(base.with afH).Ok:=ac c47 (ai akM c47 Tryz.func79 (by kernel_rfl) Tryz.call79 (by kernel_rfl) asb)
theorem aiG:afb:=by
 delta afb lM aR
 intro l hl hp β hβ
 unfold yH at hp
 refine aa (fun h=>(hβ h).symm) fun h=>⟨⟨by omega,by omega⟩,rfl⟩
theorem aec:(base.with V5).Ok:=ac c79 (ai am c79 Tryz.func171 (by kernel_rfl) Tryz.call171 (by kernel_rfl) aiG)
theorem ame:abL:=by
 delta abL lM cO
 intro n l b hl hp _
 unfold tX at hp
 refine aa (fun h=> ?_) fun h=> ?_
 ·simp only [aK] at h
  simp only [ln,fM,p6,if_pos h,decide_eq_true h]
  refine ⟨by omega,by omega,by simp,by simp,rfl⟩
 ·simp only [aT] at h
  simp only [ln,fM,p6,if_neg h,decide_eq_false h]
  refine ⟨by omega,by omega,by simp,by simp,rfl⟩
theorem abi:(base.with UL).Ok:=ac aec (ai am aec Tryz.func170 (by kernel_rfl) Tryz.call170 (by kernel_rfl) ame)
theorem Jp (i:Nat):((256 ^ i:Nat):Int)=(256:Int) ^ i:=by rw [Int.natCast_pow];rfl
theorem Di {a x i:Nat} (ha:a<256 ^ i) (hx:x<256) (hi:i<7):iE .i64 (a:Int) (de .i64 (x:Int) (8*(i:Int)))=((a+x*256 ^ i:Nat):Int):=by
 have hp:=LK (n:=i) (by omega)
 have hxp:x*256 ^ i≤255*281474976710656:=Nat.mul_le_mul (by omega) hp
 have e1:de .i64 (x:Int) (8*(i:Int))=((x*256 ^ i:Nat):Int):=by
  unfold de
  have:min (8*(i:Int)).toNat (IntKind.bits .i64)=8*i:=by
   show min (8*(i:Int)).toNat 64=8*i
   omega
  rw [this,Int.pow_mul,show (2:Int) ^ 8=256 from by decide,← Jp,← Int.natCast_mul]
  exact wrap_i64 (by omega) (by omega)
 rw [e1]
 unfold iE
 have e3:(BitVec.ofInt (IntKind.bits .i64) (a:Int) |||BitVec.ofInt (IntKind.bits .i64) ((x*256 ^ i:Nat):Int)).toNat=a+x*256 ^ i:=by
  rw [BitVec.ofInt_natCast,BitVec.ofInt_natCast,BitVec.toNat_or,BitVec.toNat_ofNat,BitVec.toNat_ofNat]
  rw [show 2 ^ IntKind.bits .i64=18446744073709551616 from by decide,Nat.mod_eq_of_lt (by omega),Nat.mod_eq_of_lt (by omega)]
  have h8:256 ^ i=2 ^ (8*i):=by rw [Nat.pow_mul]
  rw [h8] at ha ⊢
  rw [Nat.or_comm,← Nat.shiftLeft_eq,← Nat.shiftLeft_add_eq_or_of_lt ha]
  omega
 rw [e3]
 exact wrap_i64 (by omega) (by omega)
theorem Ry (b:List UInt8) (x:UInt8):bV (b++ [x])=bV b+x.toNat*256 ^ b.length:=by
 induction b with
 | nil=>simp [bV]
 | cons y b ih=>simp only [List.cons_append,bV,ih,List.length_cons,Nat.pow_succ];rw [Nat.mul_add,Nat.add_assoc,Nat.mul_left_comm,Nat.mul_comm 256 (256 ^ b.length)]
def oh (b:List UInt8) (n:Int):List UInt8:=if (b.length:Int)<n then [] else b.take n.toNat
def fJ (b:List UInt8) (n:Int):List UInt8:=if (b.length:Int)<n then b else b.drop n.toNat
theorem AO (b:List UInt8) (n:Int):ln (ah b) n=ah (oh b n):=by
 unfold ln oh
 rw [aA]
 split
 ·rfl
 ·rw [FO]
theorem Rz (b:List UInt8) (n:Int):fM (ah b) n=ah (fJ b n):=by
 unfold fM fJ
 rw [aA]
 split
 ·rfl
 ·rw [F8]
theorem Xc (b:List UInt8) (n:Int) (h:0≤n):(oh b n).length≤n.toNat:=by
 unfold oh
 split
 ·simp
 ·rw [List.length_take];omega
theorem ajz:adE:=by
 delta adE lM iR bR Dt
 rintro n l sh hl ⟨h0,h7,hB⟩
 obtain ⟨b,rfl⟩:=pK hB
 refine ⟨h0,fun _=>⟨⟨⟨rfl,rfl,by omega,by omega,rfl,rfl,by simp [bV]⟩,trivial⟩,?_⟩⟩
 rintro n' tk m i rest sh' htk ⟨rfl,rfl,h0',h1,rfl,rfl,h2⟩
 rw [AO,aA] at *
 rw [cl] at *
 have hle:=Xc b n h0
 generalize ht:oh b n=t at *
 refine aa (fun h=> ?_) fun h=> ?_
 ·simp only [aK] at h
  have hlt:i.toNat<t.length:=by omega
  rw [qC t hlt,tr,ET hlt]
  have hx:=t[i.toNat].toNat_lt
  have hn:=I1 (t.take i.toNat)
  rw [List.length_take,Nat.min_eq_left (by omega)] at hn
  have e:=Di hn hx (by omega)
  rw [h2,show (8:Int)*i=8*((i.toNat:Nat):Int) from by omega,e]
  refine ⟨⟨by omega,by omega⟩,hlt,by omega,by omega,by omega,⟨by rw [AO,ht],by rw [aA],by omega,by omega,rfl,rfl,?_⟩,by omega⟩
  rw [cl,show (i+1).toNat=i.toNat+1 from by omega,List.take_add_one,cJ hlt]
  simp only [Option.toList_some]
  rw [Ry,List.length_take,Nat.min_eq_left (by omega)]
 ·simp only [aT] at h
  refine ⟨?_,rfl,rfl⟩
  rw [h2,List.take_of_length_le (by omega)]
theorem aaw:(base.with WJ).Ok:=ac abi (ai aeK abi Tryz.func169 (by kernel_rfl) Tryz.call169 (by kernel_rfl) ajz)
def mM (b:List UInt8) (n:Int) (sh:Bool):Bool:=decide ((b.length:Int)<n)||sh
theorem R2 (b:List UInt8) (n:Int) (sh:Bool):p6 (ah b) n sh=mM b n sh:=by unfold p6 mM;rw [aA]
theorem tf (b:List UInt8) (n:Int):mM b n true=true:=by simp [mM]
theorem md {b:List UInt8} {n:Nat} (h:n≤b.length):fJ b n=b.drop n:=by
 unfold fJ;rw [if_neg (by omega)];simp
theorem uh {b:List UInt8} {n:Nat} (h:n≤b.length):oh b n=b.take n:=by
 unfold oh;rw [if_neg (by omega)];simp
theorem y4 {b:List UInt8} {n:Int} {sh:Bool} (h:(b.length:Int)<n):mM b n sh=true:=by simp [mM,h]
theorem zJ {b:List UInt8} {n:Int} {sh:Bool} (h:n≤(b.length:Int)):mM b n sh=sh:=by
 unfold mM;rw [decide_eq_false (by omega)];rfl
def Ce (b:List UInt8):Bool:=
 mM (fJ (fJ (fJ (fJ b 1) 1) 4) 2) (bV (oh (fJ (fJ (fJ b 1) 1) 4) 2):Int) (mM (fJ (fJ (fJ b 1) 1) 4) 2 (mM (fJ (fJ b 1) 1) 4 (mM (fJ b 1) 1 (mM b 1 false))))
theorem J4 {b:List UInt8} (h:8≤b.length):fJ b 1=b.drop 1∧fJ (b.drop 1) 1=b.drop 2∧fJ (b.drop 2) 4=b.drop 6∧fJ (b.drop 6) 2=b.drop 8∧
  oh b 1=b.take 1∧oh (b.drop 1) 1=(b.drop 1).take 1∧oh (b.drop 2) 4=(b.drop 2).take 4∧oh (b.drop 6) 2=(b.drop 6).take 2:=by
 have d1:=md (b:=b) (n:=1) (by omega)
 have d2:=md (b:=b.drop 1) (n:=1) (by rw [cj];omega)
 have d3:=md (b:=b.drop 2) (n:=4) (by rw [cj];omega)
 have d4:=md (b:=b.drop 6) (n:=2) (by rw [cj];omega)
 have r1:=uh (b:=b) (n:=1) (by omega)
 have r2:=uh (b:=b.drop 1) (n:=1) (by rw [cj];omega)
 have r3:=uh (b:=b.drop 2) (n:=4) (by rw [cj];omega)
 have r4:=uh (b:=b.drop 6) (n:=2) (by rw [cj];omega)
 simp only [List.drop_drop] at d1 d2 d3 d4
 exact ⟨d1,d2,d3,d4,r1,r2,r3,r4⟩
theorem FJ (b:List UInt8):Ce b=decide (b.length<8∨b.length<8+bV ((b.drop 6).take 2)):=by
 unfold Ce
 rcases Nat.lt_or_ge b.length 8 with h | h
 ·rw [decide_eq_true (.inl h)]
  rcases Nat.lt_or_ge b.length 1 with h1 | h1
  ·rw [y4 (b:=b) (by omega)];simp only [tf]
  have d1:fJ b 1=b.drop 1:=md (b:=b) (n:=1) (by omega)
  rw [d1]
  rcases Nat.lt_or_ge b.length 2 with h2 | h2
  ·rw [y4 (b:=b.drop 1) (by rw [cj];omega)];simp only [tf]
  have d2:fJ (b.drop 1) 1=b.drop 2:=by
   have:=md (b:=b.drop 1) (n:=1) (by rw [cj];omega)
   rw [List.drop_drop] at this
   exact this
  rw [d2]
  rcases Nat.lt_or_ge b.length 6 with h3 | h3
  ·rw [y4 (b:=b.drop 2) (by rw [cj];omega)];simp only [tf]
  have d3:fJ (b.drop 2) 4=b.drop 6:=by
   have:=md (b:=b.drop 2) (n:=4) (by rw [cj];omega)
   rw [List.drop_drop] at this
   exact this
  rw [d3,y4 (b:=b.drop 6) (by rw [cj];omega)]
  simp only [tf]
 ·obtain ⟨d1,d2,d3,d4,r1,r2,r3,r4⟩:=J4 h
  rw [d1,d2,d3,d4,r4,zJ (b:=b) (by omega),zJ (b:=b.drop 1) (by rw [cj];omega),zJ (b:=b.drop 2) (by rw [cj];omega),zJ (b:=b.drop 6) (by rw [cj];omega)]
  unfold mM
  rw [Bool.or_false,decide_eq_decide,cj]
  omega
theorem ahM:aaM:=by
 delta aaM lM qo wg zr zD z8 zP sF NV
 rintro l hl ⟨hB,hlen⟩
 obtain ⟨b,rfl⟩:=pK hB
 simp only [Rz,AO,R2,cl,aA] at *
 refine ⟨⟨by omega,by omega,eZ _⟩,⟨by omega,by omega,eZ _⟩,⟨by omega,by omega,eZ _⟩,⟨by omega,by omega,eZ _⟩,by unfold tX;omega,aa (fun h=> ?_) fun h=>⟨trivial,?_⟩⟩
 ·have hs:Ce b=true:=h
  rw [FJ,aK] at hs
  have he:eM b=2:=by unfold eM;rw [if_pos hs]
  unfold dL jI
  rw [he,if_neg (by decide),if_neg (by decide)]
  exact ⟨rfl,rfl,rfl,rfl,rfl,rfl⟩
 ·have hs:Ce b=false:=h
  rw [FJ,aT] at hs
  have h8:8≤b.length:=by omega
  obtain ⟨d1,d2,d3,d4,r1,r2,r3,r4⟩:=J4 h8
  rw [d1,d2,d3,d4,r1,r2,r3,r4]
  have r5:oh (b.drop 8) (bV ((b.drop 6).take 2):Int)=(b.drop 8).take (bV ((b.drop 6).take 2)):=uh (by rw [cj];omega)
  have d5:fJ (b.drop 8) (bV ((b.drop 6).take 2):Int)=b.drop (8+bV ((b.drop 6).take 2)):=by
   rw [md (by rw [cj];omega),List.drop_drop]
  rw [r5,d5]
  have he:eM b=cR (bV (b.take 1)) (bV ((b.drop 1).take 1)) (bV ((b.drop 2).take 4)) ((b.drop 8).take (bV ((b.drop 6).take 2))):=by
   unfold eM;rw [if_neg hs];rfl
  refine aa (fun h=> ?_) fun h=> ?_
  ·simp only [ne_eq,decide_not,Bool.not_eq_true',aT] at h
   unfold dL jI
   rw [he,if_neg h,if_neg h]
   exact ⟨rfl,rfl,rfl,rfl,rfl,rfl⟩
  ·simp only [ne_eq,decide_not,Bool.not_eq_false',aK] at h
   unfold dL jI
   rw [he,if_pos h,if_pos h]
   refine ⟨?_,rfl,rfl,rfl,rfl,h.symm,rfl⟩
   unfold yH
   rw [aA,cj];omega
theorem YA:(base.with V1).Ok:=ac aaw (ai am aaw Tryz.func129 (by kernel_rfl) Tryz.call129 (by kernel_rfl) ahM)
theorem vA (b:List UInt8) (i j:Nat):(b.take (i+j)).drop i=(b.drop i).take j:=by
 rw [List.drop_take];congr 1;omega
theorem Ld {b:List UInt8} {i:Nat} (h:i<b.length):bV ((b.drop i).take 1)=(b.getD i 0).toNat:=by
 rw [List.drop_eq_getElem_cons h,List.take_succ_cons,List.take_zero,ET h]
 simp only [bV]
 omega
theorem aq1:P42:=by
 delta P42 lM iR bR cO zr zD z8 zP sF kD Km HP Iw
 rintro l hl ⟨hB,hlen⟩ _ _
 obtain ⟨b,rfl⟩:=pK hB
 have e6:(b.take 8).drop 6=(b.drop 6).take 2:=vA b 6 2
 have e2:(b.take 6).drop 2=(b.drop 2).take 4:=vA b 2 4
 simp only [FO,F8,cl,aA,e6,e2] at *
 have hm:=I1 ((b.drop 6).take 2)
 have hm2:bV ((b.drop 6).take 2)<65536:=by
  refine Nat.lt_of_lt_of_le hm ?_
  have:=Nat.pow_le_pow_right (show 0<256 by decide) (show ((b.drop 6).take 2).length≤2 by rw [List.length_take];omega)
  simpa using this
 refine ⟨fun h=> ?_,fun h=>⟨eZ _,by rw [aA,List.length_take];omega⟩,fun h=>by omega,aa (fun h=> ?_) fun h=> ?_⟩
 ·simp only [Bool.not_eq_true',aT] at h;omega
 ·simp only [Bool.or_eq_true,aK] at h
  have he:eM b=2:=by unfold eM;rw [if_pos (by omega)]
  unfold dL jI
  rw [he,if_neg (by decide),if_neg (by decide)]
  exact ⟨rfl,rfl,rfl,rfl,rfl,rfl⟩
 ·simp only [Bool.or_eq_false_iff,aT] at h
  have h8:8≤b.length:=by omega
  have hs:¬ (b.length<8∨b.length<8+bV ((b.drop 6).take 2)):=by omega
  have e8:((8:Int)+(bV ((b.drop 6).take 2):Int)).toNat=8+bV ((b.drop 6).take 2):=by omega
  have g0:=qC b (i:=0) (by omega)
  have g1:=qC b (i:=1) (by omega)
  have n0:=Ld (b:=b) (i:=0) (by omega)
  have n1:=Ld (b:=b) (i:=1) (by omega)
  rw [List.drop_zero] at n0
  rw [g0,g1,tr,tr,e8,vA,← n0,← n1]
  have he:eM b=cR (bV (b.take 1)) (bV ((b.drop 1).take 1)) (bV ((b.drop 2).take 4)) ((b.drop 8).take (bV ((b.drop 6).take 2))):=by
   unfold eM;rw [if_neg hs];rfl
  refine ⟨by omega,⟨eZ _,by rw [aA,List.length_take];omega⟩,by omega,by omega,by omega,by omega,by omega,by omega,⟨eZ _,by rw [aA,List.length_take];omega⟩,by omega,trivial,aa (fun h=> ?_) fun h=> ?_⟩
  ·simp only [ne_eq,decide_not,Bool.not_eq_true',aT] at h
   unfold dL jI
   rw [he,if_neg h,if_neg h]
   exact ⟨rfl,rfl,rfl,rfl,rfl,rfl⟩
  ·simp only [ne_eq,decide_not,Bool.not_eq_false',aK] at h
   unfold dL jI
   rw [he,if_pos h,if_pos h]
   refine ⟨by omega,rfl,rfl,rfl,rfl,?_,h.symm⟩
   rw [ax,List.take_length]
theorem c42:(base.with ad9).Ok:=ac YA (ai am YA Tryz.func42 (by kernel_rfl) Tryz.call42 (by kernel_rfl) aq1)
theorem vj (n i:Nat):(gU (n:Int) i).toNat=n / 256 ^ i%256:=by
 have:=dy (n:Int) i
 rw [← Jp] at this
 have h2:((n:Int) / ((256 ^ i:Nat):Int)%256)=((n / 256 ^ i%256:Nat):Int):=by
  rw [Int.natCast_emod,Int.natCast_ediv];rfl
 rw [h2] at this
 exact Int.ofNat.inj this
theorem PD (n w:Nat):ed (n:Int) (w+1)=gU (n:Int) 0::ed ((n / 256:Nat):Int) w:=by
 simp only [ed,List.range_succ_eq_map,List.map_cons,List.map_map]
 congr 1
 refine List.map_congr_left fun i _=> ?_
 apply UInt8.toNat_inj.1
 simp only [Function.comp_apply]
 rw [vj,vj,Nat.div_div_eq_div_mul,Nat.pow_succ,Nat.mul_comm]
theorem vv (b:List UInt8):ed (bV b:Int) b.length=b:=by
 induction b with
 | nil=>rfl
 | cons x b ih=>
  have hx:=x.toNat_lt
  rw [List.length_cons,PD]
  congr 1
  ·apply UInt8.toNat_inj.1
   rw [vj,bV];omega
  ·rw [show bV (x::b) / 256=bV b from by rw [bV];omega,ih]
theorem XO {b:List UInt8} (h:eM b=0):cR (jg b).k (jg b).t (jg b).c (jg b).l=0∧xm (jg b).k (jg b).t (jg b).c (jg b).l++b.drop (8+bV ((b.drop 6).take 2))=b:=by
 unfold eM at h
 split at h
 ·cases h
 ·rename_i hs
  refine ⟨h,?_⟩
  have t1:(b.take 1).length=1:=by rw [List.length_take];omega
  have t2:((b.drop 1).take 1).length=1:=by rw [List.length_take,cj];omega
  have t3:((b.drop 2).take 4).length=4:=by rw [List.length_take,cj];omega
  have t4:((b.drop 6).take 2).length=2:=by rw [List.length_take,cj];omega
  have t5:((b.drop 8).take (bV ((b.drop 6).take 2))).length=bV ((b.drop 6).take 2):=by rw [List.length_take,cj];omega
  have n1:=vv (b.take 1)
  have n2:=vv ((b.drop 1).take 1)
  have n3:=vv ((b.drop 2).take 4)
  have n4:=vv ((b.drop 6).take 2)
  rw [t1] at n1;rw [t2] at n2;rw [t3] at n3;rw [t4] at n4
  simp only [xm,jg,t5]
  rw [n1,n2,n3,n4]
  have d1:b.drop 1=(b.drop 1).take 1++b.drop 2:=by
   have:=(List.take_append_drop 1 (b.drop 1)).symm;rwa [List.drop_drop] at this
  have d2:b.drop 2=(b.drop 2).take 4++b.drop 6:=by
   have:=(List.take_append_drop 4 (b.drop 2)).symm;rwa [List.drop_drop] at this
  have d3:b.drop 6=(b.drop 6).take 2++b.drop 8:=by
   have:=(List.take_append_drop 2 (b.drop 6)).symm;rwa [List.drop_drop] at this
  have d4:b.drop 8=(b.drop 8).take (bV ((b.drop 6).take 2))++b.drop (8+bV ((b.drop 6).take 2)):=by
   have:=(List.take_append_drop (bV ((b.drop 6).take 2)) (b.drop 8)).symm;rwa [List.drop_drop] at this
  simp only [dO]
  rw [← d4,← d3,← d2,← d1,List.take_append_drop]
theorem Xm {a b c:Int} {l:List UInt8} (h:cR a b c l=0):kH a b c l=ah (xm a b c l):=if_pos h
def jX:Nat→List It→List UInt8→List It×Int×Int
 | 0,acc,b=>if b.length=0 then (acc,-1,0) else ([],acc.length,9)
 | n+1,acc,b=>if b.length=0 then (acc,-1,0) else if eM b=0 then jX n (acc++ [jg b]) (jI b) else ([],acc.length,eM b)
def bJ (b:List UInt8):List It×Int×Int:=jX 1024 [] b
def sj (x:It):List UInt8:=xm x.k x.t x.c x.l
def jR (x:It):Int:=cR x.k x.t x.c x.l
def mN:Nat→List UInt8→List It→List UInt8×Int×Int
 | _,acc,[] =>(acc,-1,0)
 | i,acc,x::l=>if i=1024 then ([],i,9) else if jR x=0 then mN (i+1) (acc++sj x) l else ([],i,jR x)
def bZ (l:List It):List UInt8×Int×Int:=mN 0 [] l
def arj:Ct:= {ps:= [.rd fX],bs:= [],pre:=fun | [.r l] =>bk l | _=>False,res:=fun | [.r l] => .ret (.tup [.own 0,i64,i64]) [.own 116 eR] [.i (bJ (ab l)).2.1,.i (bJ (ab l)).2.2,.r (dW (bJ (ab l)).1)] | _=>ag}
def Ta (l l':LD) (i:Int) (acc:LD):Prop:=bk l'∧0≤i∧i≤1024∧i=acc.length∧acc=dW (az acc)∧bJ (ab l)=jX (1024-acc.length) (az acc) (ab l')
def anc:List Dat→Ann
 | [.r l] => {cut:= [],loop:= [(3,[la 34 [(0,.rd fX),(5,.own 0),(6,i64)] [.own 116 eR] (fun | [.r l',.i i,.r acc] =>Ta l l' i acc | _=>False) (fun | [_,.i i,_] =>(1025-i).toNat | _=>0)])]}
 | _=> {cut:= [],loop:= []}
def apY:Ct:= {ps:= [.rd fX],bs:= [],pre:=fun | [.r l] =>bk l | _=>False,res:=fun | [.r l] => .ret (.tup [.own 0,i64,i64]) [.own 65 eR] [.i (bJ (ab l)).2.1,.i (bJ (ab l)).2.2,.r (dW (bJ (ab l)).1)] | _=>ag}
def WT (l l' acc:LD):Prop:=bk l'∧acc.length≤1024∧acc=dW (az acc)∧bJ (ab l)=jX (1024-acc.length) (az acc) (ab l')
def aht:List Dat→Ann
 | [.r l] => {cut:= [],loop:= [(2,[la 35 [(0,.rd fX),(5,.own 0)] [.own 65 eR] (fun | [.r l',.r acc] =>WT l l' acc | _=>False) (fun | [_,.r acc] =>1025-acc.length | _=>0)])]}
 | _=> {cut:= [],loop:= []}
def ls (l:LD):Prop:=l.length≤100000000
def apE:Ct:= {ps:= [.rd eR],bs:= [],pre:=fun | [.r l] =>ls l | _=>False,res:=fun | [.r l] => .ret (.tup [.own 0,i64,i64]) [.own 5 fX] [.i (bZ (az l)).2.1,.i (bZ (az l)).2.2,.r (ah (bZ (az l)).1)] | _=>ag}
def Fr (l acc l':LD) (n i:Int):Prop:=l'=l∧n=l.length∧0≤i∧i≤n∧i≤1024∧acc.length≤263*i∧bP acc∧bZ (az l)=mN i.toNat (ab acc) ((az l).drop i.toNat)
def al1:List Dat→Ann
 | [.r l] => {cut:= [],loop:= [(3,[la 34 [(5,.own 0),(10,.rd eR),(11,i64),(12,i64)] [.own 5 fX] (fun | [.r l',.i n,.i i,.r acc] =>Fr l acc l' n i | _=>False) (fun | [_,.i n,.i i,_] =>(n-i).toNat | _=>0)])]}
 | _=> {cut:= [],loop:= []}
def apJ:Ct:= {ps:= [.rd eR],bs:= [],pre:=fun | [.r l] =>ls l | _=>False,res:=fun | [.r l] => .ret (.tup [.own 0,i64,i64]) [.own 5 fX] [.i (bZ (az l)).2.1,.i (bZ (az l)).2.2,.r (ah (bZ (az l)).1)] | _=>ag}
def ahb:List Dat→Ann
 | [.r l] => {cut:= [],loop:= [(3,[la 35 [(0,.rd eR),(5,.own 0),(6,i64)] [.own 5 fX] (fun | [.r l',.i i,.r acc] =>Fr l acc l' l.length i | _=>False) (fun | [.r l',.i i,_] =>(l'.length-i).toNat | _=>0)])]}
 | _=> {cut:= [],loop:= []}
abbrev iF (a:LD):Int:=
 ↑a.length
abbrev sP (a:LD):Int:=
 (bJ (ab a)).snd.fst
abbrev v6 (a:LD):Int:=
 (bJ (ab a)).snd.snd
abbrev GX (a b:LD):Prop:=
 eM (ab a)=v6 b∧
 [] =dW (bJ (ab b)).fst
abbrev DB (a b:LD):LD:=
 a++
 [[.int (dL (ab b)).k,.int (dL (ab b)).t,
 .int (dL (ab b)).c,.str (dL (ab b)).l]]
def P80:Prop:=
 ∀ (a:LD),
 lM a→
 bk a→
 (Ta a a 0 [] ∧True)∧
 ∀ (b:LD) (c:Int) (d:LD),
 lM b→
 lM d→
 Ta a b c d→
 lM b→
 bif decide ((0:Int)<iF b) then
 bif decide (c=1024) then
 c=sP a∧
 9=v6 a∧
 [] =dW (bJ (ab a)).fst
 else
 bk b∧
 bif decide (eM (ab b)≠0) then
 c=sP a∧GX b a
 else
 aR (d.length+1) 40∧
 iR (c+1)∧
 Ta a (ah (jI (ab b))) (c+1)
 (DB d b)∧
 ((1025:Int)-(c+1)).toNat<((1025:Int)-c).toNat
 else
 (-1:Int)=sP a∧
 0=v6 a∧
 d=dW (bJ (ab a)).fst
def afr:af:=aj ad9 80 (ap arj)
def P20:Prop:=
 ∀ (a:LD),
 lM a→
 bk a→
 (WT a a [] ∧True)∧
 ∀ (b c:LD),
 lM b→
 lM c→
 WT a b c→
 lM b→
 bif decide ((0:Int)<iF b) then
 lM c→
 bif decide (iF c=1024) then
 lM c→
 iF c=sP a∧
 9=v6 a∧
 [] =dW (bJ (ab a)).fst
 else
 bk b∧
 bif decide (eM (ab b)≠0) then
 lM c→
 iF c=sP a∧GX b a
 else
 aR (c.length+1) (40:Nat)∧
 WT a (ah (jI (ab b)))
 (DB c b)∧
 Nat.sub (1025:Nat) (DB c b).length<Nat.sub (1025:Nat) c.length
 else
 (-1:Int)=sP a∧
 0=v6 a∧
 c=dW (bJ (ab a)).fst
def Zg:af:=aj afr 20 (ap apY)
abbrev sU (a:Int)(b:LD):Int:=
 ((b.getD a.toNat []).getD 0 (.int 0)).toInt
abbrev sG (a:Int)(b:LD):Int:=
 ((b.getD a.toNat []).getD 1 (.int 0)).toInt
abbrev so (a:Int)(b:LD):Int:=
 ((b.getD a.toNat []).getD 2 (.int 0)).toInt
abbrev sf (a:Int)(b:LD):List UInt8:=
 ((b.getD a.toNat []).getD 3 (.int 0)).toStr
abbrev UW (a:Int)(b:LD):Prop:=
 (iF b-(a+1)).toNat<(iF b-a).toNat
abbrev Dw (a:Int)(b:LD):Prop:=
 a=(bZ (az b)).snd.fst∧
 9=(bZ (az b)).snd.snd∧
 [] =ah (bZ (az b)).fst
abbrev B5 (a:Int)(b c:LD):Prop:=
 a=(bZ (az b)).snd.fst∧
 cR (sU a c) (sG a c)
 (so a c) (sf a c)=
 (bZ (az b)).snd.snd∧
 [] =ah (bZ (az b)).fst
abbrev Cc (a:Int)(b c:LD):Prop:=
 aR
 (b.length+
 (kH (sU a c) (sG a c)
 (so a c) (sf a c)).length)
 1
abbrev BL (a b:LD):Prop:=
 (-1:Int)=(bZ (az a)).snd.fst∧
 0=(bZ (az a)).snd.snd∧
 b=ah (bZ (az a)).fst
def P17:Prop:=
 ∀ (a:LD),
 lM a→
 ls a→
 lM a→
 (Fr a [] a (iF a) 0∧True)∧
 ∀ (b:LD) (c d:Int) (e:LD),
 lM b→
 lM e→
 Fr a e b c d→
 bif decide (d<c) then
 bR d b∧
 d.toNat<b.length∧
 bif decide (d=1024) then Dw d a
 else
 True∧
 bif
 decide
 (cR (sU d b) (sG d b)
 (so d b) (sf d b)≠
 (0:Int)) then
 B5 d a b
 else
 Cc d e b∧
 iR (d+1)∧
 Fr a
 (e++
 kH (sU d b) (sG d b)
 (so d b) (sf d b))
 b c (d+1)∧
 (c-(d+1)).toNat<(c-d).toNat
 else BL a e
def ZB:af:=aj Zg 17 (ap apE)
def P22:Prop:=
 ∀ (a:LD),
 lM a→
 ls a→
 (Fr a [] a (iF a) 0∧True)∧
 ∀ (b:LD) (c:Int) (d:LD),
 lM b→
 lM d→
 Fr a d b (iF a) c→
 lM b→
 bif decide (c<iF b) then
 bif decide (c=1024) then Dw c a
 else
 bR c b∧
 c.toNat<b.length∧
 True∧
 bif
 decide
 (cR (sU c b) (sG c b)
 (so c b) (sf c b)≠
 (0:Int)) then
 B5 c a b
 else
 Cc c d b∧
 iR (c+1)∧
 Fr a
 (d++
 kH (sU c b) (sG c b)
 (so c b) (sf c b))
 b (iF a) (c+1)∧
 UW c b
 else BL a d
def YR:af:=aj ZB 22 (ap apJ)
def Ho (l:List It):List UInt8:=(l.map sj).flatten
theorem FZ (x:It) (l:List It):Ho (x::l)=sj x++Ho l:=rfl
theorem Qf {x:It} (h:jR x=0):(sj x).length≤263:=by
 obtain ⟨_,_,_,_,_,_,_,_,_,_,h7⟩:=v7 h
 unfold sj xm
 simp only [cx,lC]
 omega
theorem SD {b:List UInt8} (h:eM b=0):jR (jg b)=0∧sj (jg b)++jI b=b:=by
 obtain ⟨k1,k2⟩:=XO h
 refine ⟨k1,?_⟩
 unfold jI
 rw [if_pos h]
 exact k2
theorem LP:∀ (n:Nat) (acc:List It) (b:List UInt8),(jX n acc b).2.2=0→∃ m,jX n acc b=(acc++m,-1,0)∧m.length≤n∧(∀ x∈m,jR x=0)∧Ho m=b
 | 0,acc,b,h=>by
  unfold jX at h ⊢
  by_cases hb:b.length=0
  ·rw [if_pos hb]
   exact ⟨[],by simp,Nat.le_refl _,(fun x hx=>by cases hx),(List.length_eq_zero_iff.1 hb).symm⟩
  ·rw [if_neg hb] at h;cases h
 | n+1,acc,b,h=>by
  unfold jX at h ⊢
  by_cases hb:b.length=0
  ·rw [if_pos hb]
   exact ⟨[],by simp,Nat.zero_le _,(fun x hx=>by cases hx),(List.length_eq_zero_iff.1 hb).symm⟩
  ·rw [if_neg hb] at h ⊢
   by_cases hd:eM b=0
   ·rw [if_pos hd] at h ⊢
    obtain ⟨m,h1,h2,h3,h4⟩:=LP n _ _ h
    obtain ⟨k1,k2⟩:=SD hd
    refine ⟨jg b::m,by rw [h1];simp,by simp only [List.length_cons];omega,fun x hx=> ?_,?_⟩
    ·rcases List.mem_cons.1 hx with rfl | hx
     ·exact k1
     ·exact h3 x hx
    ·rw [FZ,h4,k2]
   ·rw [if_neg hd] at h;exact absurd h hd
theorem Jb:∀ (l:List It) (i:Nat) (acc:List UInt8),i≤1024→(∀ x∈l,jR x=0)→mN i acc l=if i+l.length≤1024 then (acc++Ho l,-1,0) else ([],1024,9)
 | [],i,acc,hi,h=>by rw [if_pos (by simpa using hi)];simp [mN,Ho]
 | x::l,i,acc,hi,h=>by
  unfold mN
  by_cases h1:i=1024
  ·rw [if_pos h1,if_neg (by simp only [List.length_cons];omega),h1];rfl
  ·rw [if_neg h1,if_pos (h x (List.mem_cons_self ..)),Jb l _ _ (by omega) fun y hy=>h y (List.mem_cons_of_mem _ hy)]
   by_cases hm:i+1+l.length≤1024
   ·rw [if_pos hm,if_pos (by simp only [List.length_cons];omega),FZ];simp
   ·rw [if_neg hm,if_neg (by simp only [List.length_cons];omega)]
theorem WZ {b:List UInt8} (h:(bJ b).2.2=0):bZ (bJ b).1=(b,-1,0):=by
 obtain ⟨m,h1,h2,h3,h4⟩:=LP 1024 [] b h
 unfold bJ bZ
 rw [h1,List.nil_append,Jb m 0 [] (by omega) h3,if_pos (by omega),List.nil_append,h4]
theorem Rs (l:List It):az (dW l)=l:=by
 unfold az dW
 rw [List.map_map]
 exact (List.map_congr_left fun x _=>rfl).trans (List.map_id _)
theorem wL (l:List It):(dW l).length=l.length:=bA ..
theorem iP (l:LD):(az l).length=l.length:=bA ..
theorem A6 {l:LD} {i:Nat} (h:i<l.length):(az l).drop i=jK (l.getD i [])::(az l).drop (i+1):=by
 have h':i<(az l).length:=by rw [iP];exact h
 rw [List.drop_eq_getElem_cons h']
 congr 1
 simp [az,h]
theorem La {b:List UInt8} (h:eM b=0):dL b=jg b:=if_pos h
theorem ap9:P80:=by
 delta P80 lM iR aR iF sP v6 GX DB
 intro l hl hp
 refine ⟨⟨⟨hp,by omega,by omega,by simp,rfl,rfl⟩,trivial⟩,?_⟩
 rintro l' n acc hl' hacc ⟨hp2,h0,h1,h2,h3,h4⟩ _
 obtain ⟨b,rfl⟩:=pK hp2.1
 rw [cl] at h4 ⊢
 rw [aA] at *
 refine aa (fun h=> ?_) fun h=> ?_
 ·simp only [aK] at h
  have hb:b.length≠0:=by omega
  refine aa (fun h5=> ?_) fun h5=> ?_
  ·simp only [aK] at h5
   rw [h4,show 1024-acc.length=0 from by omega,jX,if_neg hb]
   exact ⟨by rw [iP];exact h2,rfl,rfl⟩
  ·simp only [aT] at h5
   obtain ⟨k,hk⟩:∃ k,1024-acc.length=k+1:=⟨1023-acc.length,by omega⟩
   rw [hk,jX,if_neg hb] at h4
   refine ⟨hp2,aa (fun h6=> ?_) fun h6=> ?_⟩
   ·simp only [ne_eq,decide_not,Bool.not_eq_true',aT] at h6
    rw [h4,if_neg h6]
    exact ⟨by rw [iP];exact h2,rfl,rfl⟩
   ·simp only [ne_eq,decide_not,Bool.not_eq_false',aK] at h6
    rw [if_pos h6] at h4
    have hl2:=hp2.2
    rw [aA] at hl2
    have hd:(jI b).length≤b.length:=by unfold jI;rw [if_pos h6,cj];omega
    refine ⟨⟨by first | omega | (simp only [List.length_cons,List.length_nil];omega),by first | omega | (simp only [List.length_cons,List.length_nil];omega)⟩,⟨by omega,by omega⟩,⟨⟨eZ _,by rw [aA];omega⟩,by omega,by omega,by simp only [cx,List.length_cons,List.length_nil];omega,?_,?_⟩,by omega⟩
    ·conv=>lhs;rw [h3]
     simp only [az,dW,List.map_append,List.map_cons,List.map_nil]
     rfl
    ·rw [h4,cl,cx,List.length_cons,List.length_nil,show 1024-(acc.length+(0+1))=k from by omega,← La h6]
     simp only [az,List.map_append,List.map_cons,List.map_nil]
     rfl
 ·simp only [aT] at h
  have hb:b.length=0:=by omega
  have e:bJ (ab l)=(az acc,-1,0):=by
   rw [h4]
   cases 1024-acc.length <;>rw [jX,if_pos hb]
  rw [e]
  exact ⟨rfl,rfl,h3⟩
theorem c80:(base.with afr).Ok:=ac c42 (ai anc c42 Tryz.func80 (by kernel_rfl) Tryz.call80 (by kernel_rfl) ap9)
theorem aqT:P20:=by
 delta P20 lM aR iF sP v6 GX DB
 intro l hl hp
 refine ⟨⟨⟨hp,by simp,rfl,rfl⟩,trivial⟩,?_⟩
 rintro l' acc hl' hacc ⟨hp2,h1,h3,h4⟩ _
 obtain ⟨b,rfl⟩:=pK hp2.1
 rw [cl] at h4 ⊢
 rw [aA] at *
 refine aa (fun h _=> ?_) fun h=> ?_
 ·simp only [aK] at h
  have hb:b.length≠0:=by omega
  refine aa (fun h5 _=> ?_) fun h5=> ?_
  ·simp only [aK] at h5
   rw [h4,show 1024-acc.length=0 from by omega,jX,if_neg hb]
   exact ⟨by rw [iP],rfl,rfl⟩
  ·simp only [aT] at h5
   obtain ⟨k,hk⟩:∃ k,1024-acc.length=k+1:=⟨1023-acc.length,by omega⟩
   rw [hk,jX,if_neg hb] at h4
   refine ⟨hp2,aa (fun h6 _=> ?_) fun h6=> ?_⟩
   ·simp only [ne_eq,decide_not,Bool.not_eq_true',aT] at h6
    rw [h4,if_neg h6]
    exact ⟨by rw [iP],rfl,rfl⟩
   ·simp only [ne_eq,decide_not,Bool.not_eq_false',aK] at h6
    rw [if_pos h6] at h4
    have hl2:=hp2.2
    rw [aA] at hl2
    have hd:(jI b).length≤b.length:=by unfold jI;rw [if_pos h6,cj];omega
    refine ⟨⟨by first | omega | (simp only [List.length_cons,List.length_nil];omega),by first | omega | (simp only [List.length_cons,List.length_nil];omega)⟩,⟨⟨eZ _,by rw [aA];omega⟩,by simp only [cx,List.length_cons,List.length_nil];omega,?_,?_⟩,?_⟩
    ·conv=>lhs;rw [h3]
     simp only [az,dW,List.map_append,List.map_cons,List.map_nil]
     rfl
    ·rw [h4,cl,cx,List.length_cons,List.length_nil,show 1024-(acc.length+(0+1))=k from by omega,← La h6]
     simp only [az,List.map_append,List.map_cons,List.map_nil]
     rfl
    ·simp only [cx,List.length_cons,List.length_nil]
     show 1025-(acc.length+(0+1))<1025-acc.length
     omega
 ·simp only [aT] at h
  have hb:b.length=0:=by omega
  have e:bJ (ab l)=(az acc,-1,0):=by
   rw [h4]
   cases 1024-acc.length <;>rw [jX,if_pos hb]
  rw [e]
  exact ⟨rfl,rfl,h3⟩
theorem c20:(base.with Zg).Ok:=ac c80 (ai aht c80 Tryz.func20 (by kernel_rfl) Tryz.call20 (by kernel_rfl) aqT)
theorem IZ {l:LD} {i:Nat} {acc:List UInt8} (h:bZ (az l)=mN i acc ((az l).drop i)) (hi:l.length≤i):bZ (az l)=(acc,-1,0):=by
 rw [h,List.drop_eq_nil_of_le (by rw [iP];exact hi)]
 cases i <;>rfl
theorem IH {l:LD} {acc:List UInt8} {i:Nat} (h:bZ (az l)=mN i acc ((az l).drop i)) (hi:i<l.length) (h2:i=1024):bZ (az l)=([],1024,9):=by
 rw [h,A6 hi,mN,if_pos h2,h2];rfl
theorem Lp {l:LD} {acc:List UInt8} {i:Nat} (h:bZ (az l)=mN i acc ((az l).drop i)) (hi:i<l.length) (h2:i≠1024) (h3:jR (jK (l.getD i []))≠0):bZ (az l)=([],(i:Int),jR (jK (l.getD i []))):=by
 rw [h,A6 hi,mN,if_neg h2,if_neg h3]
theorem Ic {l:LD} {acc:List UInt8} {i:Nat} (h:bZ (az l)=mN i acc ((az l).drop i)) (hi:i<l.length) (h2:i≠1024) (h3:jR (jK (l.getD i []))=0):bZ (az l)=mN (i+1) (acc++sj (jK (l.getD i []))) ((az l).drop (i+1)):=by
 rw [h,A6 hi,mN,if_neg h2,if_pos h3]
theorem LR {x:It} (h:jR x=0):kH x.k x.t x.c x.l=ah (sj x):=Xm h
theorem ar8:P17:=by
 delta P17 lM iR aR bR iF sU sG so sf Dw B5 Cc BL
 intro l hl hp _
 unfold ls at hp
 refine ⟨⟨⟨rfl,rfl,by omega,by omega,by omega,by simp,rfl,rfl⟩,trivial⟩,?_⟩
 rintro l' n i acc hl' hacc ⟨rfl,rfl,h1,h2,h3,h4,h5,h6⟩
 obtain ⟨a,rfl⟩:=pK h5
 rw [cl] at h6
 rw [aA] at *
 refine aa (fun h=> ?_) fun h=> ?_
 ·simp only [aK] at h
  have hlt:i.toNat<l'.length:=by omega
  refine ⟨⟨by omega,by omega⟩,hlt,aa (fun h7=> ?_) fun h7=>⟨trivial,aa (fun h8=> ?_) fun h8=> ?_⟩⟩
  ·simp only [aK] at h7
   rw [IH h6 hlt (by omega)]
   exact ⟨h7,rfl,rfl⟩
  ·simp only [aT] at h7
   have h8':jR (jK (l'.getD i.toNat []))≠0:=av h8
   rw [Lp h6 hlt (by omega) h8']
   exact ⟨by show i=(i.toNat:Int);omega,rfl,rfl⟩
  ·simp only [aT] at h7
   have h8':jR (jK (l'.getD i.toNat []))=0:=Decidable.not_not.1 (au h8)
   have e:=LR h8'
   have k1:=Qf h8'
   change kH ((l'.getD i.toNat []).getD 0 (CD.int 0)).toInt ((l'.getD i.toNat []).getD 1 (CD.int 0)).toInt ((l'.getD i.toNat []).getD 2 (CD.int 0)).toInt ((l'.getD i.toNat []).getD 3 (CD.int 0)).toStr=_ at e
   rw [e,aA]
   refine ⟨⟨by omega,by omega⟩,⟨by omega,by omega⟩,⟨rfl,rfl,by omega,by omega,by omega,?_,?_,?_⟩,by omega⟩
   ·rw [cx,aA,aA];omega
   ·rw [← fY];exact eZ _
   ·rw [← fY,cl,show (i+1).toNat=i.toNat+1 from by omega,Ic h6 hlt (by omega) h8']
 ·simp only [aT] at h
  rw [IZ h6 (by omega)]
  exact ⟨rfl,rfl,rfl⟩
theorem c17:(base.with ZB).Ok:=ac c20 (ai al1 c20 Tryz.func17 (by kernel_rfl) Tryz.call17 (by kernel_rfl) ar8)
theorem apT:P22:=by
 delta P22 lM iR aR bR iF sU sG so sf UW Dw B5 Cc BL
 intro l hl hp
 unfold ls at hp
 refine ⟨⟨⟨rfl,rfl,by omega,by omega,by omega,by simp,rfl,rfl⟩,trivial⟩,?_⟩
 rintro l' i acc hl' hacc ⟨rfl,h0,h1,h2,h3,h4,h5,h6⟩ _
 obtain ⟨a,rfl⟩:=pK h5
 rw [cl] at h6
 rw [aA] at *
 refine aa (fun h=> ?_) fun h=> ?_
 ·simp only [aK] at h
  have hlt:i.toNat<l'.length:=by omega
  refine aa (fun h7=> ?_) fun h7=>⟨⟨by omega,by omega⟩,hlt,trivial,aa (fun h8=> ?_) fun h8=> ?_⟩
  ·simp only [aK] at h7
   rw [IH h6 hlt (by omega)]
   exact ⟨h7,rfl,rfl⟩
  ·simp only [aT] at h7
   have h8':jR (jK (l'.getD i.toNat []))≠0:=av h8
   rw [Lp h6 hlt (by omega) h8']
   exact ⟨by show i=(i.toNat:Int);omega,rfl,rfl⟩
  ·simp only [aT] at h7
   have h8':jR (jK (l'.getD i.toNat []))=0:=Decidable.not_not.1 (au h8)
   have e:=LR h8'
   have k1:=Qf h8'
   change kH ((l'.getD i.toNat []).getD 0 (CD.int 0)).toInt ((l'.getD i.toNat []).getD 1 (CD.int 0)).toInt ((l'.getD i.toNat []).getD 2 (CD.int 0)).toInt ((l'.getD i.toNat []).getD 3 (CD.int 0)).toStr=_ at e
   rw [e,aA]
   refine ⟨⟨by omega,by omega⟩,⟨by omega,by omega⟩,⟨rfl,rfl,by omega,by omega,by omega,?_,?_,?_⟩,by omega⟩
   ·rw [cx,aA,aA];omega
   ·rw [← fY];exact eZ _
   ·rw [← fY,cl,show (i+1).toNat=i.toNat+1 from by omega,Ic h6 hlt (by omega) h8']
 ·simp only [aT] at h
  rw [IZ h6 (by omega)]
  exact ⟨rfl,rfl,rfl⟩
theorem c22:(base.with YR).Ok:=ac c17 (ai ahb c17 Tryz.func22 (by kernel_rfl) Tryz.call22 (by kernel_rfl) apT)
theorem L5 (b:List UInt8):(bJ b).1.length≤1024:=by
 suffices h:∀ n acc b,acc.length+n≤1024→(jX n acc b).1.length≤1024 from h 1024 [] b (by simp)
 intro n
 induction n with
 | zero=>intro acc b h;unfold jX;split <;>simp_all
 | succ n ih=>
  intro acc b h
  unfold jX
  split
  ·show acc.length≤_;omega
  ·split
   ·exact ih _ _ (by simp only [cx,List.length_cons,List.length_nil];omega)
   ·exact Nat.zero_le _
abbrev gA:BPat:= .cells 185 [.rd eR,i64,.nilp]
abbrev gB:BPat:= .cells 185 [.rd eR,i64,.ptr 1 0]
abbrev eB:BPat:= .cells 204 [i64]
def apF:Ct:= {ps:= [.rd fX],bs:= [],pre:=fun | [.r l] =>bk l | _=>False,res:=fun
 | [.r l] => .ite (decide ((bJ (ab l)).2.2=0)) (.ret (.tup [.ptr 0 0,i64,i64]) [gA] [.i (-1),.i 0,.r (dW (bJ (ab l)).1),.i 0]) (.ret (.tup [.nilp,i64,i64]) [] [.i (bJ (ab l)).2.1,.i (bJ (ab l)).2.2])
 | _=>ag}
def ahr:Ct:= {ps:= [.ptr 0 0,i64],bs:= [gA],pre:=fun _=>True,res:=fun
 | [.i e,.r l,.i n] => .ite (decide (e=0)) (.ret i64 [gA] [.i 0,.r l,.i n]) (.ret i64 [gB,eB] [.i e,.r l,.i n,.i e])
 | _=>ag}
def alN:Ct:= {ps:= [.ptr 0 0,i64],bs:= [gB,eB],pre:=fun _=>True,res:=fun
 | [.i _,.r l,.i n,.i w] => .ret i64 [gB,eB] [.i w,.r l,.i n,.i w]
 | _=>ag}
def alc:Ct:= {ps:= [.ptr 0 0,.bool,i64],bs:= [gA],pre:=fun | [.b _,.i e,.r _,.i _] =>e≠0 | _=>False,res:=fun
 | [.b ok,.i e,.r l,.i n] => .ite ok (.ret i64 [gA] [.i 0,.r l,.i n]) (.ret i64 [gB,eB] [.i e,.r l,.i n,.i e])
 | _=>ag}
def amR:Ct:= {ps:= [.ptr 0 0,.bool,i64],bs:= [gB,eB],pre:=fun _=>True,res:=fun
 | [.b _,.i _,.r l,.i n,.i w] => .ret i64 [gB,eB] [.i w,.r l,.i n,.i w]
 | _=>ag}
def ci (l:LD) (n a b c:Int):Bool:=decide (n<l.length)&&yL (jK (l.getD n.toNat [])).k (jK (l.getD n.toNat [])).t (jK (l.getD n.toNat [])).c a b c
def br (l:LD) (n:Int):Prop:=0≤n∧n≤1000000
def Z5:Ct:= {ps:= [.ptr 0 0,i64,i64,i64],bs:= [gA],pre:=fun | [.i _,.i _,.i _,.r l,.i n] =>br l n | _=>False,res:=fun
 | [.i a,.i b,.i c,.r l,.i n] => .ite (ci l n a b c) (.ret i64 [gA] [.i 0,.r l,.i (n+1)]) (.ret i64 [gB,eB] [.i 10,.r l,.i n,.i 10])
 | _=>ag}
def aey:Ct:= {ps:= [.ptr 0 0,i64,i64,i64],bs:= [gB,eB],pre:=fun | [.i _,.i _,.i _,.r l,.i n,.i w] =>br l n∧w≠0 | _=>False,res:=fun
 | [.i _,.i _,.i _,.r l,.i n,.i w] => .ret i64 [gB,eB] [.i w,.r l,.i n,.i w]
 | _=>ag}
def akl:Ct:= {ps:= [.ptr 0 0],bs:= [gA],pre:=fun _=>True,res:=fun
 | [.r l,.i n] => .ite (decide (n=l.length)) (.ret i64 [gA] [.i 0,.r l,.i n]) (.ret i64 [gB,eB] [.i 12,.r l,.i n,.i 12])
 | _=>ag}
def amA:Ct:= {ps:= [.ptr 0 0],bs:= [gB,eB],pre:=fun _=>True,res:=fun
 | [.r l,.i n,.i w] => .ret i64 [gB,eB] [.i w,.r l,.i n,.i w]
 | _=>ag}
abbrev yZ (a:LD):Int:=
 (bJ (ab a)).snd.snd
abbrev Oc (a:LD):Int:=
 (bJ (ab a)).snd.fst
abbrev MX (a:LD):LD:=
 dW (bJ (ab a)).fst
def P43:Prop:=
 ∀ (a:LD),
 lM a→
 bk a→
 bk a∧
 bif decide (yZ a≠0) then
 bif decide (yZ a=0) then
 Miss 2 eS
 else
 Oc a=Oc a∧
 yZ a=yZ a
 else
 bif decide (yZ a=0) then
 (-1:Int)=(-1:Int)∧(0:Int)=0∧MX a=MX a∧(0:Int)=0
 else
 Miss 2 eS
def agh:af:=aj YR 43 (ap apF)
abbrev DT (a:LD):SV:=
 .rd [.int .i64,.int .i64,.int .i64,.str] a
abbrev MD (a:Int)(b:LD):Blk:=
 .cells (185:TypeId) [DT b,.int .i64 a,.ptr 1 0]
abbrev vG (a:Int)(b:LD):Prop:=
 Miss 2 eS
def aaU:Prop:=
 ∀ (a:Int) (b:LD) (c:Int),
 lM b→
 True→
 bif true&&decide (a≠0) then
 bif decide (a=0) then
 Miss 2 eS
 else a=a∧b=b∧c=c∧a=a
 else bif decide (a=0) then (0:Int)=0∧b=b∧c=c else vG c b
def ael:Prop:=
 ∀ (n:Int) (a:LD) (b c:Int),lM a→True→c=c∧a=a∧b=b∧c=c
def acw:af:=aj agh 55 (nF ahr (ap alN))
def ada:Prop:=
 ∀ (a:Bool) (b:Int) (c:LD) (d:Int),
 lM c→
 b≠0→
 bif a then True∧bif a then (0:Int)=0∧c=c∧d=d else vG d c
 else
 True∧
 bif decide (b=0) then bif a then (0:Int)=0∧c=c∧d=d else vG d c
 else
 bif a then
 Miss 2 eS
 else b=b∧c=c∧d=d∧b=b
def YQ:Prop:=
 ∀ (a:Bool) (n:Int) (b:LD) (c d:Int),
 lM b→True→bif a then True∧d=d∧b=b∧c=c∧d=d else True∧d=d∧b=b∧c=c∧d=d
def aaI:af:=aj acw 94 (nF alc (ap amR))
def Wl:Prop:=
 ∀ (a b c:Int) (d:LD) (e:Int),
 lM d→
 br d e→
 (decide (e<↑d.length)=true→bR e d)∧
 (decide (e<↑d.length)=true→e.toNat<d.length)∧
 (decide (e<↑d.length)=true→True)∧
 (10:Int)≠0∧
 bif
 decide (e<↑d.length) &&
 yL ((d.getD e.toNat []).getD (0:Nat) (.int 0)).toInt
 ((d.getD e.toNat []).getD (1:Nat) (.int 0)).toInt ((d.getD e.toNat []).getD (2:Nat) (.int 0)).toInt a b c then
 iR (e+1)∧
 bif ci d e a b c then (0:Int)=0∧d=d∧e+1=e+1
 else
 Miss 2 eS
 else
 bif ci d e a b c then
 Miss 2 eS
 else (10:Int)=10∧d=d∧e=e∧(10:Int)=10
def UH:Prop:=
 ∀ (n n n:Int) (a:LD) (b c:Int),
 lM a→
 br a b∧c≠0→
 (decide (b<↑a.length)=true→bR b a)∧
 (decide (b<↑a.length)=true→b.toNat<a.length)∧
 (decide (b<↑a.length)=true→True)∧
 True∧
 bif decide (c=0) then iR (b+1)∧c=c∧a=a∧b+1=b∧c=c else c=c∧a=a∧b=b∧c=c
def Vv:af:=aj aaI 137 (nF Z5 (ap aey))
def ZE:Prop:=
 ∀ (a:LD) (b:Int),
 lM a→
 True→
 (12:Int)≠(0:Int)∧
 bif decide (b=↑a.length) then bif decide (b=↑a.length) then 0=(0:Int)∧a=a∧b=b else vG b a
 else
 bif decide (b=↑a.length) then
 Miss 2 eS
 else 12=(12:Int)∧a=a∧b=b∧(12:Int)=(12:Int)
def ag1:Prop:=
 ∀ (a:LD) (b c:Int),lM a→True→True∧c=c∧a=a∧b=b∧c=c
def aai:af:=aj Vv 57 (nF akl (ap amA))
theorem arG:P43:=by
 delta P43 lM yZ Oc MX
 intro l hl hp
 refine ⟨hp,aa (fun h=> ?_) fun h=> ?_⟩
 ·have h:=av h
  rw [decide_eq_false h]
  exact ⟨rfl,rfl⟩
 ·have h:(bJ (ab l)).2.2=0:=Decidable.not_not.1 (au h)
  rw [decide_eq_true h]
  exact ⟨rfl,rfl,rfl,rfl⟩
theorem c43:(base.with agh).Ok:=ac c22 (ai am c22 Tryz.func43 (by kernel_rfl) Tryz.call43 (by kernel_rfl) arG)
theorem ajt:aaU:=by
 delta aaU lM DT MD vG
 intro n l k hl _
 refine aa (fun h=>aa (fun h2=> ?_) fun _=>⟨rfl,rfl,rfl,rfl⟩) fun h=>aa (fun _=>⟨rfl,rfl,rfl⟩) fun h2=> ?_
 ·simp only [Bool.true_and,ne_eq,decide_not,Bool.not_eq_true',aT,aK] at h h2
  exact absurd h2 h
 ·simp only [Bool.true_and,ne_eq,decide_not,Bool.not_eq_false',aT,aK] at h h2
  exact absurd h h2
theorem ahA:ael:=by
 delta ael lM
 exact fun _ _ _ _ _ _=>⟨rfl,rfl,rfl,rfl⟩
theorem c55:(base.with acw).Ok:=ac c43 (ju (ai am c43 Tryz.func55 (by kernel_rfl) Tryz.call55 (by kernel_rfl) ajt) (ai am c43 Tryz.func55 (by kernel_rfl) Tryz.call55 (by kernel_rfl) ahA))
theorem ahX:ada:=by
 delta ada lM DT MD vG
 intro b n l k hl hn
 refine aa (fun hb=>⟨trivial,aa (fun _=>⟨rfl,rfl,rfl⟩) fun h=> ?_⟩) fun hb=>⟨trivial,aa (fun h=>absurd (av h) hn) fun _=>aa (fun h=> ?_) fun _=>⟨rfl,rfl,rfl,rfl⟩⟩
 ·rw [hb] at h;cases h
 ·rw [hb] at h;cases h
theorem alm:YQ:=by
 delta YQ lM
 exact fun _ _ _ _ _ _ _=>aa (fun _=>⟨trivial,rfl,rfl,rfl,rfl⟩) fun _=>⟨trivial,rfl,rfl,rfl,rfl⟩
theorem c94:(base.with aaI).Ok:=ac c55 (ju (ai am c55 Tryz.func94 (by kernel_rfl) Tryz.call94 (by kernel_rfl) ahX) (ai am c55 Tryz.func94 (by kernel_rfl) Tryz.call94 (by kernel_rfl) alm))
theorem Zy:Wl:=by
 delta Wl lM iR bR DT
 intro a b c l n hl hp
 obtain ⟨h0,h1⟩:=hp
 refine ⟨fun h=>⟨h0,av h⟩,fun h=>by have:=av h;omega,fun _=>trivial,by decide,aa (fun h=>⟨⟨by omega,by omega⟩,aa (fun _=>⟨rfl,rfl,rfl⟩) fun h2=> ?_⟩) fun h=>aa (fun h2=> ?_) fun _=>⟨rfl,rfl,rfl,rfl⟩⟩
 ·have h':ci l n a b c=true:=h
  rw [h'] at h2;cases h2
 ·have h':ci l n a b c=false:=h
  rw [h'] at h2;cases h2
theorem aex:UH:=by
 delta UH lM iR bR
 intro a b c l n w hl hp
 obtain ⟨⟨h0,h1⟩,hw⟩:=hp
 exact ⟨fun h=>⟨h0,av h⟩,fun h=>by have:=av h;omega,fun _=>trivial,trivial,aa (fun h=>absurd (av h) hw) fun _=>⟨rfl,rfl,rfl,rfl⟩⟩
theorem Rw:(base.with Vv).Ok:=ac c94 (ju (ai am c94 Tryz.func137 (by kernel_rfl) Tryz.call137 (by kernel_rfl) Zy) (ai am c94 Tryz.func137 (by kernel_rfl) Tryz.call137 (by kernel_rfl) aex))
theorem aib:ZE:=by
 delta ZE lM DT MD vG
 intro l n hl _
 refine ⟨by decide,aa (fun h=>aa (fun _=>⟨rfl,rfl,rfl⟩) fun h2=> ?_) fun h=>aa (fun h2=> ?_) fun _=>⟨rfl,rfl,rfl,rfl⟩⟩
 ·rw [h] at h2;cases h2
 ·rw [h] at h2;cases h2
theorem aj1:ag1:=by
 delta ag1 lM
 exact fun _ _ _ _ _=>⟨trivial,rfl,rfl,rfl,rfl⟩
theorem c57:(base.with aai).Ok:=ac Rw (ju (ai am Rw Tryz.func57 (by kernel_rfl) Tryz.call57 (by kernel_rfl) aib) (ai am Rw Tryz.func57 (by kernel_rfl) Tryz.call57 (by kernel_rfl) aj1))
abbrev u64:Pat:= .int .u64
abbrev SU:Pat:= .arrI 25 .u64
abbrev st:Pat:= .agg [SU]
def xr (a b:Int):Int:=u5 .u64 a b
def ny (x s:Int):Int:=iE .u64 (de .u64 x s) (aW .u64 x (64-s))
def iT (s:List Int):Nat→List Int
 | 0=>List.replicate 5 0
 | i+1=>(iT s i).set (i%5) (xr ((iT s i).getD (i%5) 0) (s.getD i 0))
def sJ (c s:List Int):Nat→List Int
 | 0=>s
 | i+1=>(sJ c s i).set i (xr ((sJ c s i).getD i 0) (xr (c.getD ((i%5+4)%5) 0) (ny (c.getD ((i%5+1)%5) 0) 1)))
def fR (s:List Int):List Int:=sJ (iT s 25) s 25
def bB:Nat→Nat×Nat
 | 0=>(1,0)
 | i+1=>((bB i).2,(2*(bB i).1+3*(bB i).2)%5)
def sq (s:List Int):Nat→List Int
 | 0=>(List.replicate 25 0).set 0 (s.getD 0 0)
 | i+1=>(sq s i).set ((bB i).2+5*((2*(bB i).1+3*(bB i).2)%5)) (ny (s.getD ((bB i).1+5*(bB i).2) 0) (((i+1)*(i+2) / 2:Nat)%64:Nat))
def iI (s:List Int):List Int:=sq s 24
def xR (s:List Int):Nat→List Int
 | 0=>s
 | i+1=>(xR s i).set i (xr ((xR s i).getD i 0) (kS .u64 (s.getD (i-i%5+(i+2)%5) 0) (s.getD (i-i%5+(i+1)%5) 0)))
def rY (s:List Int):List Int:=xR s 25
def oG (r:Int):Int:=if r<0∨24≤r then 0 else FM.getD r.toNat 0
def round (s:List Int) (r:Int):List Int:=(rY (iI (fR s))).set 0 (xr ((rY (iI (fR s))).getD 0 0) (oG r))
def eP (s:List Int):Nat→List Int
 | 0=>s
 | i+1=>round (eP s i) i
def fP:List Int→List Int:=Classical.choose (⟨fun s=>eP s 24,rfl⟩:∃ f:List Int→List Int,f=fun s=>eP s 24)
theorem zL (s:List Int):fP s=eP s 24:=congrFun (Classical.choose_spec (⟨fun s=>eP s 24,rfl⟩:∃ f:List Int→List Int,f=fun s=>eP s 24)) s
def alH:Ct:= {ps:= [u64,i64],bs:= [],pre:=fun | [.i _,.i k] =>0≤k∧k≤1000 | _=>False,res:=fun | [.i x,.i k] => .ret u64 [] [.i (ny x (k%64))] | _=>ag}
def ahs:Ct:= {ps:= [i64],bs:= [],pre:=fun _=>True,res:=fun | [.i r] => .ret u64 [] [.i (oG r)] | _=>ag}
abbrev wO:BPat:= .cells 212 [SU]
def aj7:Ct:= {ps:= [st],bs:= [],pre:=fun _=>True,res:=fun | [.li s] => .ret st [] [.li (fR s)] | _=>ag}
def YJ:List Dat→Ann
 | [.li s] => {cut:= [],loop:= [
  (3,[la 45 [(1,.ptr 0 0),(2,.ptr 1 0),(3,.ptr 2 0),(8,st),(9,i64)] [wO,wO,.cells 337 [.arrI 5 .u64]] (fun | [.li s',.i i,.li s'',.li z,.li c] =>s'=s∧s''=s∧0≤i∧i≤25∧c=iT s i.toNat | _=>False) (fun | [_,.i i,_,_,_] =>(25-i).toNat | _=>0)]),
  (8,[la 45 [(1,.ptr 0 0),(2,.ptr 1 0),(3,.ptr 2 0),(21,i64)] [wO,wO,.cells 337 [.arrI 5 .u64]] (fun | [.i i,.li t,.li z,.li c] =>0≤i∧i≤25∧c=iT s 25∧t=sJ c s i.toNat | _=>False) (fun | [.i i,_,_,_] =>(25-i).toNat | _=>0)])]}
 | _=> {cut:= [],loop:= []}
def aiI:Ct:= {ps:= [st],bs:= [],pre:=fun _=>True,res:=fun | [.li s] => .ret st [] [.li (iI s)] | _=>ag}
def adk:List Dat→Ann
 | [.li s] => {cut:= [],loop:= [
  (4,[la 42 [(1,.ptr 0 0),(2,.ptr 1 0),(3,.ptr 2 0),(4,i64),(5,i64),(11,i64)] [wO,wO,wO] (fun | [.i x,.i y,.i i,.li s',.li z,.li t] =>s'=s∧0≤i∧i≤24∧x=(bB i.toNat).1∧y=(bB i.toNat).2∧t=sq s i.toNat | _=>False) (fun | [_,_,.i i,_,_,_] =>(24-i).toNat | _=>0)])]}
 | _=> {cut:= [],loop:= []}
def akx:Ct:= {ps:= [st],bs:= [],pre:=fun _=>True,res:=fun | [.li s] => .ret st [] [.li (rY s)] | _=>ag}
def acP:List Dat→Ann
 | [.li s] => {cut:= [],loop:= [
  (3,[la 36 [(1,.ptr 0 0),(2,.ptr 1 0),(3,.ptr 2 0),(7,i64)] [wO,wO,wO] (fun | [.i i,.li s',.li z,.li t] =>s'=s∧0≤i∧i≤25∧t=xR s i.toNat | _=>False) (fun | [.i i,_,_,_] =>(25-i).toNat | _=>0)])]}
 | _=> {cut:= [],loop:= []}
def ahT:Ct:= {ps:= [st,i64],bs:= [],pre:=fun _=>True,res:=fun | [.li s,.i r] => .ret st [] [.li (round s r)] | _=>ag}
def am5:Ct:= {ps:= [st],bs:= [],pre:=fun _=>True,res:=fun | [.li s] => .ret st [] [.li (fP s)] | _=>ag}
def Zf:List Dat→Ann
 | [.li s] => {cut:= [],loop:= [
  (2,[la 12 [(1,.ptr 0 0),(2,.ptr 1 0),(4,i64)] [wO,wO] (fun | [.i i,.li t,.li z] =>0≤i∧i≤24∧t=eP s i.toNat | _=>False) (fun | [.i i,_,_] =>(24-i).toNat | _=>0)])]}
 | _=> {cut:= [],loop:= []}
def ar6:Prop:=
 ∀ (a b:Int),
 0≤b∧b≤1000→
 0≤dN .u64 (IntKind.u64.wrap b) 63∧
 0≤IntKind.u64.wrap ((64:Int)-dN .u64 (IntKind.u64.wrap b) 63)∧
 iE .u64 (de .u64 a (dN .u64 (IntKind.u64.wrap b) 63))
 (aW .u64 a (IntKind.u64.wrap ((64:Int)-dN .u64 (IntKind.u64.wrap b) 63)))=
 ny a (b%(64:Int))
def Vb:af:=aj aai 238 (ap alH)
def aqp:Prop:=
 ∀ (a:Int),
 True→
 bif decide (a<(0:Int))||decide (24≤a) then 0=oG a
 else
 (0≤a∧a<(↑(24:Nat):Int)∧(0:Nat)+a.toNat<(24:Nat))∧
 (0:Nat)+a.toNat<(24:Nat)∧
 (([[CD.int 1],[CD.int 32898],[CD.int 9223372036854808714],[CD.int 9223372039002292224],
 [CD.int 32907],[CD.int 2147483649],[CD.int 9223372039002292353],[CD.int 9223372036854808585],
 [CD.int 138],[CD.int 136],[CD.int 2147516425],[CD.int 2147483658],
 [CD.int 2147516555],[CD.int 9223372036854775947],[CD.int 9223372036854808713],
 [CD.int 9223372036854808579],[CD.int 9223372036854808578],[CD.int 9223372036854775936],
 [CD.int 32778],[CD.int 9223372039002259466],[CD.int 9223372039002292353],
 [CD.int 9223372036854808704],[CD.int 2147483649],[CD.int 9223372039002292232]].getD
 ((0:Nat)+a.toNat) []).getD
 0 (CD.int 0)).toInt=
 oG a
def V4:af:=aj Vb 214 (ap ahs)
abbrev eE (a:List Int):Prop:=
 a.length=25
abbrev C0 (a:Int):Prop:=
 ((25:Int)-(a+1)).toNat<((25:Int)-a).toNat
def ZH:Prop:=
 ∀ (a:List Int),
 eE a→
 True→
 ((a=a∧
 a=a∧
 (0:Int)≤0∧(0:Int)≤25∧ [0,0,0,0,0] =iT a 0)∧
 True)∧
 ∀ (b:List Int) (c:Int) (d e f:List Int),
 eE b→
 eE d→
 eE e→
 f.length=5→
 b=a∧d=a∧0≤c∧c≤25∧f=iT a c.toNat→
 bif decide (c<(25:Int)) then
 (0≤c∧c<(↑(25:Nat):Int)∧c.toNat*1<(25:Nat))∧
 (0≤c∧(0:Int)<(5:Int))∧
 (0≤c%(5:Int)∧c%(5:Int)<(↑(5:Nat):Int))∧
 (c%(5:Int)).toNat*1<(5:Nat)∧
 (0≤c%(5:Int)∧c%(5:Int)<(↑(5:Nat):Int))∧
 (c%(5:Int)).toNat*1<(5:Nat)∧
 iR (c+1)∧
 (b=a∧
 d=a∧
 0≤c+1∧
 c+1≤25∧
 f.set ((c%(5:Int)).toNat*1)
 (u5 .u64 (f.getD ((c%(5:Int)).toNat*1) 0) (b.getD (c.toNat*1) 0))=
 iT a (c+1).toNat)∧
 C0 c
 else
 (((0:Int)≤0∧
 (0:Int)≤25∧f=iT a 25∧d=sJ f a 0)∧
 True)∧
 ∀ (g:Int) (h i j:List Int),
 eE h→
 eE i→
 j.length=5→
 0≤g∧
 g≤25∧j=iT a 25∧h=sJ j a g.toNat→
 bif decide (g<(25:Int)) then
 (0≤g∧(0:Int)<(5:Int))∧
 (0≤g∧g<(↑(25:Nat):Int))∧
 g.toNat*1<(25:Nat)∧
 iR (g%(5:Int)+4)∧
 (0≤g%(5:Int)+4∧(0:Int)<(5:Int))∧
 (0≤(g%(5:Int)+4)%(5:Int)∧(g%(5:Int)+4)%(5:Int)<(↑(5:Nat):Int))∧
 ((g%(5:Int)+4)%(5:Int)).toNat*1<(5:Nat)∧
 iR (g%(5:Int)+1)∧
 (0≤g%(5:Int)+1∧(0:Int)<(5:Int))∧
 (0≤(g%(5:Int)+1)%(5:Int)∧(g%(5:Int)+1)%(5:Int)<(↑(5:Nat):Int))∧
 ((g%(5:Int)+1)%(5:Int)).toNat*1<(5:Nat)∧
 ((0:Int)≤1∧(1:Int)≤1000)∧
 (0≤g∧g<(↑(25:Nat):Int))∧
 g.toNat*1<(25:Nat)∧
 iR (g+1)∧
 (0≤g+1∧
 g+1≤25∧
 j=iT a 25∧
 h.set (g.toNat*1)
 (u5 .u64 (h.getD (g.toNat*1) 0)
 (u5 .u64
 (j.getD (((g%(5:Int)+4)%(5:Int)).toNat*1) 0)
 (ny
 (j.getD (((g%(5:Int)+1)%(5:Int)).toNat*1) 0)
 ((1:Int)%(64:Int)))))=
 sJ j a (g+1).toNat)∧
 C0 g
 else h=fR a
def Th:af:=aj V4 211 (ap aj7)
def aeC:Prop:=
 ∀ (a:List Int),
 eE a→
 True→
 ((0:Int)≤0∧(0:Int)<(↑(25:Nat):Int))∧
 (0:Nat)<(25:Nat)∧
 ((a=a∧
 (0:Int)≤0∧
 (0:Int)≤24∧
 1=(↑(1:Nat):Int)∧
 0=(↑(0:Nat):Int)∧
 [0,0,0,0,0,0,0,0,0,0,0,0,0,0,
 (0:Int),0,0,0,0,0,0,0,0,0,0].set
 0 (a.getD 0 0)=
 sq a 0)∧
 True)∧
 ∀ (b c d:Int) (e f g:List Int),
 eE e→
 eE f→
 eE g→
 e=a∧
 0≤d∧
 d≤24∧
 b=(↑(bB d.toNat).fst:Int)∧
 c=(↑(bB d.toNat).snd:Int)∧g=sq a d.toNat→
 bif decide (d<(24:Int)) then
 iR ((2:Int)*b)∧
 iR ((3:Int)*c)∧
 iR ((2:Int)*b+3*c)∧
 ((0:Int)≤2*b+3*c∧(0:Int)<(5:Int))∧
 iR ((5:Int)*(((2:Int)*b+3*c)%(5:Int)))∧
 iR (c+5*(((2:Int)*b+3*c)%(5:Int)))∧
 iR ((5:Int)*c)∧
 iR (b+5*c)∧
 (0≤b+5*c∧b+5*c<(↑(25:Nat):Int))∧
 (b+5*c).toNat*1<(25:Nat)∧
 iR (d+1)∧
 iR (d+2)∧
 iR ((d+1)*(d+2))∧
 (0≤(d+1)*(d+2)∧(0:Int)<(2:Int)∧(d+1)*(d+2)≤IntKind.i64.max)∧
 (0≤(d+1)*(d+2) / 2∧(d+1)*(d+2) / 2≤1000)∧
 (0≤c+5*(((2:Int)*b+3*c)%(5:Int))∧
 c+5*(((2:Int)*b+3*c)%(5:Int))<(↑(25:Nat):Int))∧
 (c+5*(((2:Int)*b+3*c)%(5:Int))).toNat*1<(25:Nat)∧
 iR (d+1)∧
 (e=a∧
 0≤d+1∧
 d+1≤24∧
 c=(↑(bB (d+1).toNat).fst:Int)∧
 ((2:Int)*b+3*c)%(5:Int)=
 (↑(bB (d+1).toNat).snd:Int)∧
 g.set ((c+5*(((2:Int)*b+3*c)%(5:Int))).toNat*1)
 (ny (e.getD ((b+5*c).toNat*1) 0)
 ((d+1)*(d+2) / 2%(64:Int)))=
 sq a (d+1).toNat)∧
 ((24:Int)-(d+1)).toNat<((24:Int)-d).toNat
 else g=iI a
def S5:af:=aj Th 212 (ap aiI)
def ag8:Prop:=
 ∀ (a:List Int),
 eE a→
 True→
 ((a=a∧(0:Int)≤0∧(0:Int)≤25∧a=xR a 0)∧True)∧
 ∀ (b:Int) (c d e:List Int),
 eE c→
 eE d→
 eE e→
 c=a∧0≤b∧b≤25∧e=xR a b.toNat→
 bif decide (b<(25:Int)) then
 (0≤b∧(0:Int)<(5:Int))∧
 iR (b-b%(5:Int))∧
 (0≤b∧b<(↑(25:Nat):Int))∧
 b.toNat*1<(25:Nat)∧
 iR (b+2)∧
 (0≤b+2∧(0:Int)<(5:Int))∧
 iR (b-b%(5:Int)+(b+2)%(5:Int))∧
 (0≤b-b%(5:Int)+(b+2)%(5:Int)∧b-b%(5:Int)+(b+2)%(5:Int)<(↑(25:Nat):Int))∧
 (b-b%(5:Int)+(b+2)%(5:Int)).toNat*1<(25:Nat)∧
 iR (b+1)∧
 (0≤b+1∧(0:Int)<(5:Int))∧
 iR (b-b%(5:Int)+(b+1)%(5:Int))∧
 (0≤b-b%(5:Int)+(b+1)%(5:Int)∧b-b%(5:Int)+(b+1)%(5:Int)<(↑(25:Nat):Int))∧
 (b-b%(5:Int)+(b+1)%(5:Int)).toNat*1<(25:Nat)∧
 (0≤b∧b<(↑(25:Nat):Int))∧
 b.toNat*1<(25:Nat)∧
 iR (b+1)∧
 (c=a∧
 0≤b+1∧
 b+1≤25∧
 e.set (b.toNat*1)
 (u5 .u64 (e.getD (b.toNat*1) 0)
 (kS .u64
 (c.getD ((b-b%(5:Int)+(b+2)%(5:Int)).toNat*1) 0)
 (c.getD ((b-b%(5:Int)+(b+1)%(5:Int)).toNat*1) 0)))=
 xR a (b+1).toNat)∧
 C0 b
 else e=rY a
def VH:af:=aj S5 213 (ap akx)
def Zd:Prop:=
 ∀ (a:List Int) (b:Int),
 eE a→
 True→
 True∧
 True∧
 True∧
 ((0:Int)≤0∧(0:Int)<(↑(25:Nat):Int))∧
 (0:Nat)<(25:Nat)∧
 True∧
 ((0:Int)≤0∧(0:Int)<(↑(25:Nat):Int))∧
 (0:Nat)<(25:Nat)∧
 (rY (iI (fR a))).set 0
 (u5 .u64
 ((rY (iI (fR a))).getD 0
 0)
 (oG b))=
 round a b
def SM:af:=aj VH 187 (ap ahT)
def acO:Prop:=
 ∀ (a:List Int),
 eE a→
 True→
 (((0:Int)≤0∧(0:Int)≤24∧a=eP a 0)∧True)∧
 ∀ (b:Int) (c d:List Int),
 eE c→
 eE d→
 0≤b∧b≤24∧c=eP a b.toNat→
 bif decide (b<(24:Int)) then
 True∧
 iR (b+1)∧
 (0≤b+1∧
 b+1≤24∧round c b=eP a (b+1).toNat)∧
 ((24:Int)-(b+1)).toNat<((24:Int)-b).toNat
 else c=fP a
def TM:af:=aj SM 147 (ap am5)
theorem dZ (l:List Int) (i j:Nat) (x:Int) (hj:j<l.length):(l.set i x).getD j 0=if i=j then x else l.getD j 0:=by
 rw [aw,aw,List.getElem?_set]
 by_cases h:i=j
 ·subst h;simp [hj]
 ·simp [h]
theorem Kq (c s:List Int):∀ n,(sJ c s n).length=s.length
 | 0=>rfl
 | n+1=>by rw [sJ,dc,Kq c s n]
theorem HO (c s:List Int):∀ n j,j<s.length→(sJ c s n).getD j 0=if j<n then xr (s.getD j 0) (xr (c.getD ((j%5+4)%5) 0) (ny (c.getD ((j%5+1)%5) 0) 1)) else s.getD j 0
 | 0,j,h=>by rw [if_neg (by omega)];rfl
 | n+1,j,h=>by
  rw [sJ,dZ _ _ _ _ (by rw [Kq];exact h)]
  by_cases e:n=j
  ·subst e
   rw [if_pos rfl,if_pos (by omega),HO c s n n h,if_neg (by omega)]
  ·rw [if_neg e,HO c s n j h]
   by_cases e2:j<n
   ·rw [if_pos e2,if_pos (by omega)]
   ·rw [if_neg e2,if_neg (by omega)]
theorem JO (s:List Int):∀ n,(xR s n).length=s.length
 | 0=>rfl
 | n+1=>by rw [xR,dc,JO s n]
theorem Kh (s:List Int):∀ n j,j<s.length→(xR s n).getD j 0=if j<n then xr (s.getD j 0) (kS .u64 (s.getD (j-j%5+(j+2)%5) 0) (s.getD (j-j%5+(j+1)%5) 0)) else s.getD j 0
 | 0,j,h=>by rw [if_neg (by omega)];rfl
 | n+1,j,h=>by
  rw [xR,dZ _ _ _ _ (by rw [JO];exact h)]
  by_cases e:n=j
  ·subst e
   rw [if_pos rfl,if_pos (by omega),Kh s n n h,if_neg (by omega)]
  ·rw [if_neg e,Kh s n j h]
   by_cases e2:j<n
   ·rw [if_pos e2,if_pos (by omega)]
   ·rw [if_neg e2,if_neg (by omega)]
theorem K3 (s:List Int) (x:Nat) (h:x<5):(iT s 25).getD x 0=xr (xr (xr (xr (xr 0 (s.getD x 0)) (s.getD (x+5) 0)) (s.getD (x+10) 0)) (s.getD (x+15) 0)) (s.getD (x+20) 0):=by
 match x,h with
 | 0,_=>simp [iT]
 | 1,_=>simp [iT]
 | 2,_=>simp [iT]
 | 3,_=>simp [iT]
 | 4,_=>simp [iT]
theorem Hj {l:List Int} {n:Nat} {f:Nat→Int} (hl:l.length=n) (h:∀ j,j<n→l.getD j 0=f j):l=(List.range n).map f:=by
 apply List.ext_getElem
 ·simp [hl]
 ·intro i h1 h2
  have:=h i (by omega)
  rw [aw,cJ h1] at this
  simpa using this
def FX (s:List Int) (x:Nat):Int:=xr (xr (xr (xr (xr 0 (s.getD x 0)) (s.getD (x+5) 0)) (s.getD (x+10) 0)) (s.getD (x+15) 0)) (s.getD (x+20) 0)
theorem Ay {s:List Int} (hs:s.length=25):fR s=(List.range 25).map fun j=>xr (s.getD j 0) (xr (FX s ((j%5+4)%5)) (ny (FX s ((j%5+1)%5)) 1)):=by
 refine Hj (by unfold fR;rw [Kq,hs]) fun j hj=> ?_
 unfold fR
 rw [HO _ _ _ _ (by omega),if_pos hj,K3 _ _ (by omega),K3 _ _ (by omega)]
 rfl
theorem xW {s:List Int} (hs:s.length=25):rY s=(List.range 25).map fun j=>xr (s.getD j 0) (kS .u64 (s.getD (j-j%5+(j+2)%5) 0) (s.getD (j-j%5+(j+1)%5) 0)):=by
 refine Hj (by unfold rY;rw [JO,hs]) fun j hj=> ?_
 unfold rY
 rw [Kh _ _ _ (by omega),if_pos hj]
theorem wrap_u64 {n:Int} (h0:0≤n) (h:n≤18446744073709551615):IntKind.u64.wrap n=n:=by
 unfold IntKind.wrap
 simp [IntKind.signed,IntKind.bits]
 omega
theorem ahx {k:Nat} (h:k≤1000):dN .u64 (k:Int) 63=((k%64:Nat):Int):=by
 unfold dN
 rw [BitVec.ofInt_natCast,show (63:Int)=((63:Nat):Int) from rfl,BitVec.ofInt_natCast,BitVec.toNat_and,BitVec.toNat_ofNat,BitVec.toNat_ofNat,show 2 ^ IntKind.bits .u64=18446744073709551616 from by decide,Nat.mod_eq_of_lt (by omega),Nat.mod_eq_of_lt (by omega)]
 have:=Nat.and_two_pow_sub_one_eq_mod k 6
 rw [show (2:Nat) ^ 6-1=63 from by decide,show (2:Nat) ^ 6=64 from by decide] at this
 rw [this]
 exact wrap_u64 (by omega) (by omega)
theorem ahQ:ar6:=by
 rintro x k ⟨h0,h1⟩
 obtain ⟨i,rfl⟩:∃ i:Nat,k=i:=⟨k.toNat,by omega⟩
 rw [wrap_u64 (by omega) (by omega),ahx (by omega),wrap_u64 (by omega) (by omega)]
 exact ⟨by omega,by omega,rfl⟩
theorem aaW:(base.with Vb).Ok:=ac c57 (ai am c57 Tryz.func238 (by kernel_rfl) Tryz.call238 (by kernel_rfl) ahQ)
theorem alD:aqp:=by
 intro n _
 refine aa (fun h=> ?_) fun h=> ?_
 ·simp only [Bool.or_eq_true,aK] at h
  unfold oG
  rw [if_pos h]
 ·simp only [Bool.or_eq_false_iff,aT] at h
  refine ⟨⟨by omega,by omega,by omega⟩,by omega,?_⟩
  unfold oG
  rw [if_neg (by omega),Nat.zero_add]
  obtain ⟨i,rfl⟩:∃ i:Nat,n=i:=⟨n.toNat,by omega⟩
  rw [ax]
  have hi:i<24:=by omega
  clear h
  revert i
  decide
theorem aee:(base.with V4).Ok:=ac aaW (ai am aaW Tryz.func214 (by kernel_rfl) Tryz.call214 (by kernel_rfl) alD)
theorem ak2:ZH:=by
 delta ZH iR eE C0
 intro s hs _
 refine ⟨⟨⟨rfl,rfl,by omega,by omega,rfl⟩,trivial⟩,?_⟩
 rintro s' n s'' z c _ _ _ _ ⟨rfl,rfl,h0,h1,rfl⟩
 obtain ⟨i,rfl⟩:∃ i:Nat,n=i:=⟨n.toNat,by omega⟩
 refine aa (fun h=> ?_) fun h=> ?_
 ·simp only [aK] at h
  simp only [Nat.mul_one,ax]
  have e:((i:Int)%5).toNat=i%5:=by omega
  rw [e]
  refine ⟨⟨by omega,by omega,by omega⟩,⟨by omega,by omega⟩,⟨by omega,by omega⟩,by omega,⟨by omega,by omega⟩,by omega,⟨by omega,by omega⟩,⟨by trivial,by trivial,by omega,by omega,?_⟩,by omega⟩
  rw [show ((i:Int)+1).toNat=i+1 from by omega]
  rfl
 ·simp only [aT] at h
  have hi:i=25:=by omega
  subst hi
  rw [show ((25:Nat):Int).toNat=25 from rfl]
  have z0:∀ c:List Int,sJ c s'' 0=s'':=fun c=>by rw [sJ]
  refine ⟨⟨⟨by omega,by omega,Eq.refl (iT s'' 25),(z0 _).symm⟩,trivial⟩,?_⟩
  have fin:∀ c t,c=iT s'' 25→t=sJ c s'' 25→t=fR s'':=fun c t h1 h2=>by rw [h2,h1];rfl
  generalize iT s'' 25=cc at *
  rintro n t z c _ _ _ ⟨h0,h1,ec,et⟩
  subst ec et
  obtain ⟨i,rfl⟩:∃ i:Nat,n=i:=⟨n.toNat,by omega⟩
  refine aa (fun h=> ?_) fun h=> ?_
  ·simp only [aK] at h
   simp only [Nat.mul_one,ax]
   have e1:(((i:Int)%5+4)%5).toNat=(i%5+4)%5:=by omega
   have e2:(((i:Int)%5+1)%5).toNat=(i%5+1)%5:=by omega
   rw [e1,e2]
   refine ⟨⟨by omega,by omega⟩,⟨by omega,by omega⟩,by omega,⟨by omega,by omega⟩,⟨by omega,by omega⟩,⟨by omega,by omega⟩,by omega,⟨by omega,by omega⟩,⟨by omega,by omega⟩,⟨by omega,by omega⟩,by omega,⟨by omega,by omega⟩,⟨by omega,by omega⟩,by omega,⟨by omega,by omega⟩,⟨by omega,by omega,by trivial,?_⟩,by omega⟩
   rw [show ((i:Int)+1).toNat=i+1 from by omega]
   rfl
  ·simp only [aT] at h
   have hi:i=25:=by omega
   subst hi
   exact fin _ _ rfl rfl
theorem abY:(base.with Th).Ok:=ac aee (ai YJ aee Tryz.func211 (by kernel_rfl) Tryz.call211 (by kernel_rfl) ak2)
theorem Uc (i:Nat):(bB i).1<5∧(bB i).2<5:=by
 induction i with
 | zero=>decide
 | succ i ih=>simp only [bB];omega
theorem ajK:aeC:=by
 delta aeC iR eE
 intro s hs _
 refine ⟨⟨by omega,by omega⟩,by omega,⟨⟨rfl,by omega,by omega,rfl,rfl,rfl⟩,trivial⟩,?_⟩
 rintro x y n s' z t _ _ _ ⟨rfl,h0,h1,rfl,rfl,rfl⟩
 obtain ⟨i,rfl⟩:∃ i:Nat,n=i:=⟨n.toNat,by omega⟩
 rw [ax]
 obtain ⟨hx,hy⟩:=Uc i
 refine aa (fun h=> ?_) fun h=> ?_
 ·simp only [aK] at h
  have hm:(i+1)*(i+2)≤24*25:=Nat.mul_le_mul (by omega) (by omega)
  have em:((i:Int)+1)*((i:Int)+2)=(((i+1)*(i+2):Nat):Int):=by simp
  rw [em]
  generalize hM:(i+1)*(i+2)=M at *
  have emax:IntKind.max .i64=9223372036854775807:=by decide
  rw [emax]
  simp only [Nat.mul_one]
  have e1:(((bB i).1:Int)+5*((bB i).2:Int)).toNat=(bB i).1+5*(bB i).2:=by omega
  have e2:(((bB i).2:Int)+5*((2*((bB i).1:Int)+3*((bB i).2:Int))%5)).toNat=(bB i).2+5*((2*(bB i).1+3*(bB i).2)%5):=by
   have e0:(2*((bB i).1:Int)+3*((bB i).2:Int))=((2*(bB i).1+3*(bB i).2:Nat):Int):=by omega
   rw [e0]
   generalize 2*(bB i).1+3*(bB i).2=m at *
   omega
  rw [e1,e2]
  refine ⟨by omega,by omega,by omega,by omega,by omega,by omega,by omega,by omega,by omega,by omega,by omega,by omega,by omega,by omega,by omega,by omega,by omega,by omega,⟨by trivial,by omega,by omega,?_,?_,?_⟩,by omega⟩
  ·rw [show ((i:Int)+1).toNat=i+1 from by omega];rfl
  ·rw [show ((i:Int)+1).toNat=i+1 from by omega]
   show _=(((2*(bB i).1+3*(bB i).2)%5:Nat):Int)
   have e0:(2*((bB i).1:Int)+3*((bB i).2:Int))=((2*(bB i).1+3*(bB i).2:Nat):Int):=by omega
   rw [e0]
   generalize 2*(bB i).1+3*(bB i).2=m
   omega
  ·rw [show ((i:Int)+1).toNat=i+1 from by omega,show (M:Int) / 2%64=((M / 2%64:Nat):Int) from by omega,← hM]
   rfl
 ·simp only [aT] at h
  have hi:i=24:=by omega
  subst hi
  rfl
theorem ac5:(base.with S5).Ok:=ac abY (ai adk abY Tryz.func212 (by kernel_rfl) Tryz.call212 (by kernel_rfl) ajK)
theorem ajn:ag8:=by
 delta ag8 iR eE C0
 intro s hs _
 refine ⟨⟨⟨rfl,by omega,by omega,rfl⟩,trivial⟩,?_⟩
 rintro n s' z t _ _ _ ⟨rfl,h0,h1,rfl⟩
 obtain ⟨i,rfl⟩:∃ i:Nat,n=i:=⟨n.toNat,by omega⟩
 refine aa (fun h=> ?_) fun h=> ?_
 ·simp only [aK] at h
  simp only [Nat.mul_one,ax]
  have e1:((i:Int)-(i:Int)%5+((i:Int)+2)%5).toNat=i-i%5+(i+2)%5:=by omega
  have e2:((i:Int)-(i:Int)%5+((i:Int)+1)%5).toNat=i-i%5+(i+1)%5:=by omega
  rw [e1,e2]
  refine ⟨by omega,by omega,by omega,by omega,by omega,by omega,by omega,by omega,by omega,by omega,by omega,by omega,by omega,by omega,by omega,by omega,by omega,⟨by trivial,by omega,by omega,?_⟩,by omega⟩
  rw [show ((i:Int)+1).toNat=i+1 from by omega]
  rfl
 ·simp only [aT] at h
  have hi:i=25:=by omega
  subst hi
  rw [show ((25:Nat):Int).toNat=25 from rfl]
  rfl
theorem ack:(base.with VH).Ok:=ac ac5 (ai acP ac5 Tryz.func213 (by kernel_rfl) Tryz.call213 (by kernel_rfl) ajn)
theorem ajO:Zd:=by
 delta Zd eE
 intro s r hs _
 exact ⟨trivial,trivial,trivial,by omega,by omega,trivial,by omega,by omega,rfl⟩
theorem agb:(base.with SM).Ok:=ac ack (ai am ack Tryz.func187 (by kernel_rfl) Tryz.call187 (by kernel_rfl) ajO)
theorem aj2:acO:=by
 delta acO iR eE
 intro s hs _
 refine ⟨⟨⟨by omega,by omega,rfl⟩,trivial⟩,?_⟩
 rintro n t z _ _ ⟨h0,h1,rfl⟩
 obtain ⟨i,rfl⟩:∃ i:Nat,n=i:=⟨n.toNat,by omega⟩
 refine aa (fun h=> ?_) fun h=> ?_
 ·simp only [aK] at h
  refine ⟨trivial,by omega,⟨by omega,by omega,?_⟩,by omega⟩
  rw [show ((i:Int)+1).toNat=i+1 from by omega]
  rfl
 ·simp only [aT] at h
  have hi:i=24:=by omega
  subst hi
  rw [zL];rfl
theorem ad1:(base.with TM).Ok:=ac agb (ai Zf agb Tryz.func147 (by kernel_rfl) Tryz.call147 (by kernel_rfl) aj2)
def GA (m r:Int):Int:=if r / m%2=1 then r-m else r+m
def Mc:List Int:= [64,32,16,1]
def sQ (r:Int):Nat→Int
 | 0=>r
 | j+1=>GA (Mc.getD j 0) (sQ r j)
def Qb (r:Int):Int:=if 256≤r*2 then sQ (r*2-256) 4 else r*2
def p7:Nat→Int
 | 0=>1
 | n+1=>Qb (p7 n)
def Ou (t:Nat):Bool:=decide (p7 t%2=1)
def Kt (r:Nat):Nat→List Bool
 | 0=>List.replicate 64 false
 | j+1=>(Kt r j).set (2 ^ j-1) (Ou (j+7*r))
def gz (r:Int):List Bool:=if r<0∨23<r then List.replicate 64 false else Kt r.toNat 7
def alo:Ct:= {ps:= [i64],bs:= [],pre:=fun | [.i t] =>0≤t∧t≤1000 | _=>False,res:=fun | [.i t] => .ret .bool [] [.b (Ou t.toNat)] | _=>ag}
def To:List (Nat×Pat):= [(0,i64),(3,i64),(4,i64),(18,.rd [.int .i64]),(19,i64),(20,i64)]
def af1:List Dat→Ann
 | [.i t] =>⟨[],[(3,[la 39 [(0,i64),(3,i64),(4,i64)] [] (fun | [.i t',.i r,.i i] =>t'=t∧0≤i∧i≤t∧r=p7 i.toNat | _=>False) (fun | [.i t',_,.i i] =>(t'-i).toNat | _=>0)])],
   [(9,[la 39 To [] (fun _=>True) (fun _=>0)],fun | [.i t0,.i r0,.i i0,.r l0,.i n0,.i _] => [la 39 To []
    (fun | [.i t',.i r,.i i,.r l,.i n,.i j] =>t'=t0∧i=i0∧l=l0∧n=n0∧0≤j∧j≤4∧r=sQ r0 j.toNat | _=>False) (fun | [_,_,_,_,_,.i j] =>(4-j).toNat | _=>0)] | _=> [])]⟩
 | _=> {cut:= [],loop:= []}
abbrev b64:Pat:= .agg [.arrB 64]
abbrev q27:BPat:= .cells 341 [.arrB 64]
def akm:Ct:= {ps:= [i64],bs:= [],pre:=fun _=>True,res:=fun | [.i r] => .ret b64 [] [.lb (gz r)] | _=>ag}
def adQ:List Dat→Ann
 | [.i r] =>⟨[],[(6,[la 29 [(0,i64),(2,.ptr 0 0),(3,.ptr 1 0),(4,i64),(5,i64)] [q27,q27] (fun | [.i r',.i p,.i j,.lb z,.lb c] =>r'=r∧0≤r∧r≤23∧0≤j∧j≤7∧p=2 ^ j.toNat∧c=Kt r.toNat j.toNat | _=>False) (fun | [_,_,.i j,_,_] =>(7-j).toNat | _=>0)])],[]⟩
 | _=> {cut:= [],loop:= []}
abbrev y7:LD:=
 [[.int 64],[.int 32],[.int 16],[.int 1]]
abbrev to (a:Int)(b:LD):Int:=
 ((b.getD a.toNat []).getD 0 (.int 0)).toInt
def afJ:Prop:=
 ∀ (a:Int),
 0≤a∧a≤1000→
 ((a=a∧(0:Int)≤0∧0≤a∧1=p7 0)∧True)∧
 ∀ (b c d:Int),
 b=a∧0≤d∧d≤a∧c=p7 d.toNat→
 bif decide (d<b) then
 iR (c*2)∧
 bif decide (256≤c*2) then
 iR (c*2-(256:Int))∧
 ((4:Nat)≤9223372036854775807→
 ((b=b∧
 d=d∧
 y7=y7∧
 (↑(4:Nat):Int)=(↑(4:Nat):Int)∧
 (0:Int)≤0∧
 (0:Int)≤4∧c*2-256=sQ (c*2-(256:Int)) 0)∧
 True)∧
 ∀ (e f g:Int) (h:LD) (i j:Int),
 lM h→
 e=b∧
 g=d∧
 h=y7∧
 i=(↑(4:Nat):Int)∧0≤j∧j≤4∧f=sQ (c*2-(256:Int)) j.toNat→
 bif decide (j<i) then
 bR j h∧
 j.toNat<h.length∧
 (0≤f∧(0:Int)<to j h∧f≤IntKind.i64.max)∧
 (0≤f / to j h∧(0:Int)<(2:Int))∧
 bif decide (f / to j h%(2:Int)=1) then
 iR (f-to j h)∧
 iR (j+1)∧
 (e=b∧
 g=d∧
 h=y7∧
 i=(↑(4:Nat):Int)∧
 0≤j+1∧
 j+1≤4∧
 f-to j h=
 sQ (c*2-(256:Int)) (j+1).toNat)∧
 ((4:Int)-(j+1)).toNat<((4:Int)-j).toNat
 else
 iR (f+to j h)∧
 iR (j+1)∧
 (e=b∧
 g=d∧
 h=y7∧
 i=(↑(4:Nat):Int)∧
 0≤j+1∧
 j+1≤4∧
 f+to j h=
 sQ (c*2-(256:Int)) (j+1).toNat)∧
 ((4:Int)-(j+1)).toNat<((4:Int)-j).toNat
 else
 iR (g+1)∧
 (e=a∧0≤g+1∧g+1≤a∧f=p7 (g+1).toNat)∧
 (e-(g+1)).toNat<(b-d).toNat)
 else
 iR (d+1)∧
 (b=a∧0≤d+1∧d+1≤a∧c*2=p7 (d+1).toNat)∧
 (b-(d+1)).toNat<(b-d).toNat
 else (0≤c∧(0:Int)<(2:Int))∧decide (c%(2:Int)=1)=Ou a.toNat
def VS:af:=aj TM 239 (ap alo)
def agT:Prop:=
 ∀ (a:Int),
 True→
 bif decide (a<(0:Int))||decide ((23:Int)<a) then List.replicate 64 false=gz a
 else
 ((a=a∧
 0≤a∧
 a≤23∧
 (0:Int)≤0∧
 (0:Int)≤7∧(1:Int)=2 ^ (0:Nat)∧List.replicate 64 false=Kt a.toNat 0)∧
 True)∧
 ∀ (b c d:Int) (e f:List Bool),
 e.length=64→
 f.length=64→
 b=a∧0≤a∧a≤23∧0≤d∧d≤7∧c=2 ^ d.toNat∧f=Kt a.toNat d.toNat→
 bif decide (d<(7:Int)) then
 iR (c-(1:Int))∧
 iR ((7:Int)*b)∧
 iR (d+7*b)∧
 (0≤d+7*b∧d+7*b≤1000)∧
 (0≤c-(1:Int)∧c-(1:Int)<(↑(64:Nat):Int))∧
 (c-(1:Int)).toNat*1<(64:Nat)∧
 iR (c*2)∧
 iR (d+1)∧
 (b=a∧
 0≤a∧
 a≤23∧
 0≤d+1∧
 d+1≤7∧
 c*2=2 ^ (d+1).toNat∧
 f.set ((c-(1:Int)).toNat*1) (Ou (d+7*b).toNat)=
 Kt a.toNat (d+1).toNat)∧
 ((7:Int)-(d+1)).toNat<((7:Int)-d).toNat
 else f=gz a
def T8:af:=aj VS 224 (ap akm)
theorem Y3:∀ r:Fin 256,0≤Qb (r.val:Int)∧Qb (r.val:Int)≤255:=by decide+kernel
theorem alS (n:Nat):0≤p7 n∧p7 n≤255:=by
 induction n with
 | zero=>decide
 | succ n ih=>
  have:=Y3 ⟨(p7 n).toNat,by omega⟩
  rw [show (((⟨(p7 n).toNat,by omega⟩:Fin 256).val:Nat):Int)=p7 n from by show (((p7 n).toNat:Nat):Int)=_;omega] at this
  exact this
theorem afO:∀ r:Fin 128,∀ j:Fin 5,0≤sQ (2*(r.val:Int)) j.val∧sQ (2*(r.val:Int)) j.val≤255:=by decide+kernel
theorem ajr {r:Int} {j:Nat} (h0:256≤r*2) (h1:r≤255) (hj:j≤4):0≤sQ (r*2-256) j∧sQ (r*2-256) j≤255:=by
 have:=afO ⟨(r-128).toNat,by omega⟩ ⟨j,by omega⟩
 rw [show 2*(((⟨(r-128).toNat,by omega⟩:Fin 128).val:Nat):Int)=r*2-256 from by show 2*(((r-128).toNat:Nat):Int)=_;omega] at this
 exact this
theorem abB:∀ j:Fin 4,(((([[CD.int 64],[CD.int 32],[CD.int 16],[CD.int 1]] :LD).getD j.val []).getD 0 (CD.int 0)).toInt=Mc.getD j.val 0)∧0<Mc.getD j.val 0∧Mc.getD j.val 0≤64:=by decide
theorem ahB:afJ:=by
 delta afJ lM iR bR y7 to
 rintro t ⟨ht0,ht1⟩
 refine ⟨⟨⟨rfl,by omega,ht0,rfl⟩,trivial⟩,?_⟩
 rintro t' r i ⟨e1,h0,h1,e2⟩
 subst e1 e2
 obtain ⟨b0,b1⟩:=alS i.toNat
 generalize hr:p7 i.toNat=r at *
 have emax:IntKind.max .i64=9223372036854775807:=by decide
 refine aa (fun h=>⟨⟨by omega,by omega⟩,aa (fun h2=> ?_) fun h2=> ?_⟩) fun h=> ?_
 ·simp only [aK] at h h2
  refine ⟨⟨by omega,by omega⟩,fun _=>⟨⟨⟨rfl,rfl,rfl,rfl,by omega,by omega,rfl⟩,trivial⟩,?_⟩⟩
  rintro t2 q i2 l n j _ ⟨e1,e2,e3,e4,h3,h4,e5⟩
  subst e1 e2 e3 e4 e5
  obtain ⟨k,rfl⟩:∃ k:Nat,j=k:=⟨j.toNat,by omega⟩
  rw [ax]
  obtain ⟨c0,c1⟩:=ajr h2 b1 (show k≤4 by omega)
  refine aa (fun h5=> ?_) fun h5=> ?_
  ·simp only [aK] at h5
   have hk:k<4:=by omega
   obtain ⟨m1,m2,m3⟩:=abB ⟨k,hk⟩
   simp only at m1 m2 m3
   rw [m1,emax,show ((k:Int)+1).toNat=k+1 from by omega]
   have fs:sQ (r*2-256) (k+1)=GA (Mc.getD k 0) (sQ (r*2-256) k):=rfl
   have hd:0≤sQ (r*2-256) k / Mc.getD k 0:=Int.ediv_nonneg c0 (by omega)
   refine ⟨⟨by omega,by show (k:Int)<4;omega⟩,hk,⟨c0,m2,by omega⟩,⟨hd,by omega⟩,aa (fun h6=> ?_) fun h6=> ?_⟩
   ·refine ⟨⟨by omega,by omega⟩,⟨by omega,by omega⟩,⟨rfl,rfl,rfl,rfl,by omega,by omega,?_⟩,by omega⟩
    rw [fs,GA,if_pos (av h6)]
   ·refine ⟨⟨by omega,by omega⟩,⟨by omega,by omega⟩,⟨rfl,rfl,rfl,rfl,by omega,by omega,?_⟩,by omega⟩
    rw [fs,GA,if_neg (au h6)]
  ·simp only [aT] at h5
   have hk:k=4:=by omega
   subst hk
   refine ⟨⟨by omega,by omega⟩,⟨rfl,by omega,by omega,?_⟩,by omega⟩
   rw [show (i2+1).toNat=i2.toNat+1 from by omega,p7,hr,Qb,if_pos h2]
 ·simp only [aK,aT] at h h2
  refine ⟨⟨by omega,by omega⟩,⟨rfl,by omega,by omega,?_⟩,by omega⟩
  rw [show (i+1).toNat=i.toNat+1 from by omega,p7,hr,Qb,if_neg h2]
 ·simp only [aT] at h
  refine ⟨⟨b0,by omega⟩,?_⟩
  unfold Ou
  rw [← hr,show i=t' from by omega]
theorem abJ:(base.with VS).Ok:=ac ad1 (ai af1 ad1 Tryz.func239 (by kernel_rfl) Tryz.call239 (by kernel_rfl) ahB)
theorem alY:agT:=by
 delta agT iR
 intro r _
 refine aa (fun h=> ?_) fun h=> ?_
 ·simp only [Bool.or_eq_true,aK] at h
  unfold gz
  rw [if_pos h];try rfl
 ·simp only [Bool.or_eq_false_iff,aT] at h
  refine ⟨⟨⟨rfl,by omega,by omega,by omega,by omega,rfl,rfl⟩,trivial⟩,?_⟩
  rintro r' p n z c _ _ ⟨e1,h0,h1,h2,h3,e2,e3⟩
  subst e1 e2 e3
  obtain ⟨j,rfl⟩:∃ j:Nat,n=j:=⟨n.toNat,by omega⟩
  rw [ax]
  refine aa (fun h5=> ?_) fun h5=> ?_
  ·simp only [aK] at h5
   have hj:j<7:=by omega
   have hp:∀ j:Fin 7,(1:Int)≤2 ^ j.val∧(2:Int) ^ j.val≤64∧((2:Int) ^ j.val-1).toNat=2 ^ j.val-1∧(2:Int) ^ (j.val+1)=2 ^ j.val*2:=by decide
   obtain ⟨p1,p2,p3,p4⟩:=hp ⟨j,hj⟩
   simp only at p1 p2 p3 p4
   rw [show ((j:Int)+1).toNat=j+1 from by omega,p3,Nat.mul_one]
   refine ⟨by omega,by omega,by omega,by omega,by omega,by omega,by omega,by omega,⟨rfl,by omega,by omega,by omega,by omega,p4.symm,?_⟩,by omega⟩
   rw [Kt,show ((j:Int)+7*r').toNat=j+7*r'.toNat from by omega]
  ·simp only [aT] at h5
   have hj:j=7:=by omega
   subst hj
   unfold gz
   rw [if_neg (by omega)]
theorem afU:(base.with T8).Ok:=ac abJ (ai adQ abJ Tryz.func224 (by kernel_rfl) Tryz.call224 (by kernel_rfl) alY)
end
end Go.Proofs.YteiecapbaeajdaaGreatDoor
