/-
 Words and their bits.
-/
import Derived.Test.YteiecapbaeajdaaGreatDoorJ5
namespace Go.Proofs.YteiecapbaeajdaaGreatDoor
open Go Go.Avc Go.Proofs
set_option linter.unusedVariables false
set_option maxRecDepth 100000
open Go.Avc
set_option linter.unusedSimpArgs false
open Go Go.Avc
noncomputable section
def bt (w:Int) (z:Nat):Bool:=w.toNat.testBit z
def Gw (w:Int):List Bool:=(List.range 64).map (bt w)
def al (w:Int):Prop:=0≤w∧w<18446744073709551616
theorem R6:∀ r:Fin 24,gz (r.val:Int)=Gw (oG (r.val:Int)):=by decide+kernel
theorem Sm (r:Int):gz r=Gw (oG r):=by
 by_cases h:r<0∨23<r
 ·unfold gz oG
  rw [if_pos h,if_pos (by omega)]
  decide+kernel
 ·have:=R6 ⟨r.toNat,by omega⟩
  rw [show (((⟨r.toNat,by omega⟩:Fin 24).val:Nat):Int)=r from by show ((r.toNat:Nat):Int)=r;omega] at this
  exact this
theorem fU (n:Int):IntKind.u64.wrap n=n%18446744073709551616:=by
 simp [IntKind.wrap,IntKind.signed,IntKind.bits]
theorem uG {a:Int} (h:al a):(BitVec.ofInt 64 a).toNat=a.toNat:=by
 obtain ⟨n,rfl⟩:∃ n:Nat,a=n:=⟨a.toNat,by have:=h.1;omega⟩
 have:=h.2
 rw [BitVec.ofInt_natCast,BitVec.toNat_ofNat,ax]
 exact Nat.mod_eq_of_lt (by omega)
theorem arX {a b:Int} (ha:al a) (hb:al b):xr a b=((a.toNat ^^^ b.toNat:Nat):Int):=by
 have h1:(BitVec.ofInt 64 a ^^^ BitVec.ofInt 64 b).toNat=a.toNat ^^^ b.toNat:=by rw [BitVec.toNat_xor,uG ha,uG hb]
 have h2:=(BitVec.ofInt 64 a ^^^ BitVec.ofInt 64 b).isLt
 show IntKind.u64.wrap ((BitVec.ofInt 64 a ^^^ BitVec.ofInt 64 b).toNat:Int)=_
 rw [fU,h1]
 rw [h1] at h2
 omega
theorem oN {a b:Int} (ha:al a) (hb:al b) (z:Nat):bt (xr a b) z=(bt a z !=bt b z):=by
 unfold bt
 rw [arX ha hb,ax,Nat.testBit_xor]
theorem afk (v:BitVec 64):IntKind.u64.wrap (v.toNat:Int)=(v.toNat:Int):=by
 have:=v.isLt
 rw [fU]
 omega
theorem Kr (v:BitVec 64):al (IntKind.u64.wrap (v.toNat:Int)):=by
 have:=v.isLt
 rw [afk]
 exact ⟨by omega,by omega⟩
theorem Uk (v:BitVec 64) (z:Nat):bt (IntKind.u64.wrap (v.toNat:Int)) z=v.getLsbD z:=by
 unfold bt
 rw [afk,ax,BitVec.testBit_toNat]
theorem wx {a:Int} (h:al a) (z:Nat):(BitVec.ofInt 64 a).getLsbD z=bt a z:=by
 unfold bt
 rw [← BitVec.testBit_toNat,uG h]
theorem Nh (a b:Int):al (kS .u64 a b):=Kr (BitVec.ofInt 64 a &&& ~~~BitVec.ofInt 64 b)
theorem QP {a b:Int} (ha:al a) (hb:al b) {z:Nat} (hz:z<64):bt (kS .u64 a b) z=(bt a z&&!bt b z):=by
 show bt (IntKind.u64.wrap ((BitVec.ofInt 64 a &&& ~~~BitVec.ofInt 64 b).toNat:Int)) z=_
 rw [Uk,BitVec.getLsbD_and,BitVec.getLsbD_not,wx ha,wx hb,decide_eq_true hz,Bool.true_and]
theorem Bz (a b:Int):al (iE .u64 a b):=Kr (BitVec.ofInt 64 a |||BitVec.ofInt 64 b)
theorem al4 {a b:Int} (ha:al a) (hb:al b) (z:Nat):bt (iE .u64 a b) z=(bt a z||bt b z):=by
 show bt (IntKind.u64.wrap ((BitVec.ofInt 64 a |||BitVec.ofInt 64 b).toNat:Int)) z=_
 rw [Uk,BitVec.getLsbD_or,wx ha,wx hb]
theorem GI (n s:Nat) (hs:s≤64):de .u64 (n:Int) (s:Int)=((n*2 ^ s%18446744073709551616:Nat):Int):=by
 unfold de
 rw [fU,show min (s:Int).toNat (IntKind.bits .u64)=s from by show min (s:Int).toNat 64=s;omega]
 have:(n:Int)*2 ^ s=((n*2 ^ s:Nat):Int):=by rw [Int.natCast_mul,Int.natCast_pow];rfl
 rw [this]
 rfl
theorem ait (n s:Nat) (hs:s≤64):aW .u64 (n:Int) (s:Int)=((n / 2 ^ s:Nat):Int):=by
 unfold aW
 rw [show min (s:Int).toNat (IntKind.bits .u64)=s from by show min (s:Int).toNat 64=s;omega]
 have:(2:Int) ^ s=((2 ^ s:Nat):Int):=by rw [Int.natCast_pow];rfl
 rw [this,Int.fdiv_eq_ediv_of_nonneg _ (Int.natCast_nonneg _),Int.natCast_ediv]
theorem LL (x s:Int):al (ny x s):=Bz _ _
theorem Pd {x:Int} (hx:al x) {s z:Nat} (hs:s<64) (hz:z<64):bt (ny x (s:Int)) z=bt x ((z+(64-s))%64):=by
 obtain ⟨n,rfl⟩:∃ n:Nat,x=n:=⟨x.toNat,by have:=hx.1;omega⟩
 have hn:n<2 ^ 64:=by have:=hx.2;omega
 unfold ny
 rw [GI n s (by omega),show (64:Int)-(s:Int)=((64-s:Nat):Int) from by omega,ait n (64-s) (by omega)]
 have w1:al ((n*2 ^ s%18446744073709551616:Nat):Int):=by constructor <;>omega
 have hd:n / 2 ^ (64-s)≤n:=Nat.div_le_self _ _
 have w2:al ((n / 2 ^ (64-s):Nat):Int):=⟨Int.natCast_nonneg _,Int.ofNat_lt.2 (Nat.lt_of_le_of_lt hd hn)⟩
 rw [al4 w1 w2]
 unfold bt
 rw [ax,ax,ax,show (18446744073709551616:Nat)=2 ^ 64 from by decide,Nat.testBit_mod_two_pow,decide_eq_true hz,Bool.true_and,← Nat.shiftLeft_eq,Nat.testBit_shiftLeft,← Nat.shiftRight_eq_div_pow,Nat.testBit_shiftRight]
 by_cases h:s≤z
 ·have e:n.testBit (64-s+z)=false:=Nat.testBit_lt_two_pow (Nat.lt_of_lt_of_le hn (Nat.pow_le_pow_right (by decide) (by omega)))
  rw [decide_eq_true (show z≥s from h),e,Bool.true_and,Bool.or_false,show (z+(64-s))%64=z-s from by omega]
 ·rw [decide_eq_false (show ¬ z≥s from h),Bool.false_and,Bool.false_or,show (z+(64-s))%64=64-s+z from by omega]
abbrev wH:Pat:= .agg [.arrB 1600]
abbrev bC:BPat:= .cells 344 [.arrB 1600]
abbrev pX:BPat:= .cells 211 [SU]
abbrev Ag:BPat:= .cells 342 [.arrB 320]
def hid {α:Type} (x:α):α:=Classical.choose (⟨x,rfl⟩:∃ y:α,y=x)
theorem ak {α:Type} (x:α):hid x=x:=Classical.choose_spec (⟨x,rfl⟩:∃ y:α,y=x)
def d6 (f:Nat→Nat) (g:Nat→Bool) (l:List Bool):Nat→List Bool
 | 0=>l
 | n+1=>(d6 f g l n).set (f n) (g n)
def dp (f:Nat→Nat→Nat) (g:Nat→Nat→Bool) (m:Nat) (l:List Bool):Nat→List Bool
 | 0=>l
 | n+1=>d6 (f n) (g n) (dp f g m l n) m
def iJ (f:Nat→Nat→Nat→Nat) (g:Nat→Nat→Nat→Bool) (k m:Nat) (l:List Bool):Nat→List Bool
 | 0=>l
 | n+1=>dp (f n) (g n) m (iJ f g k m l n) k
def zB:List Bool:=List.replicate 1600 false
def aJ (x y z:Nat):Nat:=x*320+y*64+z
def gb (a:List Bool) (k:Nat):Bool:=a.getD k false
def sB (a:List Bool) (x y z:Nat):Bool:=gb a (aJ x y z) !=(!gb a (aJ ((x+1)%5) y z)&&gb a (aJ ((x+2)%5) y z))
def yy (a:List Bool):List Bool:=iJ aJ (sB a) 5 64 zB 5
def y5 (t l:List Bool) (i:Nat):List Bool:=t.take i++l++t.drop (i+64)
def Fg (a:List Bool) (i:Nat):List Bool:=(a.drop i).take 64
def Ae (a:List Bool) (x:Nat) (t:List Bool):Nat→List Bool
 | 0=>t
 | n+1=>y5 (Ae a x t n) (Fg a (x*320+n*64)) (n*320+(2*x+3*n)%5*64)
def DU (a:List Bool) (t:List Bool):Nat→List Bool
 | 0=>t
 | n+1=>Ae a n (DU a t n) 5
def HA (a:List Bool):List Bool:=DU a zB 5
def Dk (a:List Bool) (t:Nat) (l:List Bool) (n:Nat):List Bool:=
 d6 (fun z=>aJ (bB t).1 (bB t).2 ((z+(t+1)*(t+2) / 2)%64)) (fun z=>gb a (aJ (bB t).1 (bB t).2 z)) l n
def sV (a:List Bool):Nat→List Bool
 | 0=>y5 zB (Fg a 0) 0
 | n+1=>Dk a n (sV a n) 64
def gJ (a:List Bool):List Bool:=sV a 24
def gg (a:List Bool) (x z:Nat):Nat→Int
 | 0=>0
 | n+1=>if gb a (aJ x n z)=true then gg a x z n+1 else gg a x z n
def AU (a:List Bool):List Bool:=dp (fun x z=>x*64+z) (fun x z=>decide (gg a x z 5%2=1)) 64 (List.replicate 320 false) 5
def sk (a p:List Bool) (x y z:Nat):Bool:=gb a (aJ x y z) !=(gb p ((x+4)%5*64+z) !=gb p ((x+1)%5*64+(z+63)%64))
def pF (a:List Bool):List Bool:=iJ aJ (sk a (AU a)) 5 64 zB 5
def rF (a c:List Bool):Nat→List Bool
 | 0=>a
 | n+1=>(rF a c n).set n (gb (rF a c n) n !=gb c n)
def um (a:List Bool) (r:Int):List Bool:=rF (yy (HA (gJ (pF a)))) (gz r) 64
def jQ (s:List Int):List Bool:=dp (fun i z=>aJ (i%5) (i / 5) z) (fun i z=>bt (s.getD i 0) z) 64 zB 25
def wv (a:List Bool) (i:Nat):Nat→Nat
 | 0=>0
 | n+1=>2*wv a i n+(if gb a (aJ (i%5) (i / 5) (63-n))=true then 1 else 0)
def wD (a:List Bool):Nat→List Int
 | 0=>List.replicate 25 0
 | n+1=>(wD a n).set n (wv a n 64:Nat)
def w8 (a:List Bool):List Int:=hid (wD a 25)
def sr (a:List Bool):Nat→List Bool
 | 0=>a
 | n+1=>um (sr a n) n
def jP (s:List Int):List Int:=hid (w8 (sr (jQ s) 24))
def aq (s:List Int):Prop:=∀ j,al (s.getD j 0)
def cm:List (Nat×Pat):= [(1,.ptr 0 0),(2,.ptr 1 0),(3,.ptr 2 0),(4,i64)]
def ma:List Dat→Prop:=fun _=>True
def js:List Dat→Nat:=fun _=>0
def alT:Ct:= {ps:= [wH],bs:= [],pre:=fun _=>True,res:=fun | [.lb a] => .ret wH [] [.lb (yy a)] | _=>ag}
def YF:List Dat→Ann
 | [.lb a] =>⟨[],[(3,[la 56 cm [bC,bC,bC] (fun | [.i x,.lb a',.lb _,.lb t] =>a'=a∧0≤x∧x≤5∧t=iJ aJ (sB a) 5 64 zB x.toNat | _=>False) (fun | [.i x,_,_,_] =>(5-x).toNat | _=>0)])],
  [(6,[la 56 (cm++ [(5,i64)]) [bC,bC,bC] ma js],fun | [.i x0,.i _,.lb a0,.lb _,.lb t0] => [la 56 (cm++ [(5,i64)]) [bC,bC,bC]
   (fun | [.i x,.i y,.lb a',.lb _,.lb t] =>x=x0∧a'=a0∧0≤y∧y≤5∧t=dp (aJ x0.toNat) (sB a0 x0.toNat) 64 t0 y.toNat | _=>False) (fun | [_,.i y,_,_,_] =>(5-y).toNat | _=>0)] | _=> []),
   (9,[la 56 (cm++ [(5,i64),(6,i64)]) [bC,bC,bC] ma js],fun | [.i x0,.i y0,.i _,.lb a0,.lb _,.lb t0] => [la 56 (cm++ [(5,i64),(6,i64)]) [bC,bC,bC]
   (fun | [.i x,.i y,.i z,.lb a',.lb _,.lb t] =>x=x0∧y=y0∧a'=a0∧0≤z∧z≤64∧t=d6 (aJ x0.toNat y0.toNat) (sB a0 x0.toNat y0.toNat) t0 z.toNat | _=>False) (fun | [_,_,.i z,_,_,_] =>(64-z).toNat | _=>0)] | _=> [])]⟩
 | _=> {cut:= [],loop:= []}
def ai8:Ct:= {ps:= [wH],bs:= [],pre:=fun _=>True,res:=fun | [.lb a] => .ret wH [] [.lb (HA a)] | _=>ag}
def aaL:List Dat→Ann
 | [.lb a] =>⟨[],[(3,[la 30 cm [bC,bC,bC] (fun | [.i x,.lb a',.lb _,.lb t] =>a'=a∧0≤x∧x≤5∧t=DU a zB x.toNat | _=>False) (fun | [.i x,_,_,_] =>(5-x).toNat | _=>0)])],
  [(6,[la 30 (cm++ [(5,i64)]) [bC,bC,bC] ma js],fun | [.i x0,.i _,.lb a0,.lb _,.lb t0] => [la 30 (cm++ [(5,i64)]) [bC,bC,bC]
   (fun | [.i x,.i y,.lb a',.lb _,.lb t] =>x=x0∧a'=a0∧0≤y∧y≤5∧t=Ae a0 x0.toNat t0 y.toNat | _=>False) (fun | [_,.i y,_,_,_] =>(5-y).toNat | _=>0)] | _=> [])]⟩
 | _=> {cut:= [],loop:= []}
def amm:Ct:= {ps:= [wH],bs:= [],pre:=fun _=>True,res:=fun | [.lb a] => .ret wH [] [.lb (gJ a)] | _=>ag}
def aag:List Dat→Ann
 | [.lb a] =>⟨[],[(5,[la 51 (cm++ [(5,i64),(6,i64)]) [bC,bC,bC] (fun | [.i x,.i y,.i t,.lb a',.lb _,.lb l] =>a'=a∧0≤t∧t≤24∧x=(bB t.toNat).1∧y=(bB t.toNat).2∧l=sV a t.toNat | _=>False) (fun | [_,_,.i t,_,_,_] =>(24-t).toNat | _=>0)])],
  [(8,[la 51 (cm++ [(5,i64),(6,i64),(7,i64)]) [bC,bC,bC] ma js],fun | [.i x0,.i y0,.i t0,.i _,.lb a0,.lb _,.lb l0] => [la 51 (cm++ [(5,i64),(6,i64),(7,i64)]) [bC,bC,bC]
   (fun | [.i x,.i y,.i t,.i z,.lb a',.lb _,.lb l] =>x=x0∧y=y0∧t=t0∧a'=a0∧0≤z∧z≤64∧l=Dk a0 t0.toNat l0 z.toNat | _=>False) (fun | [_,_,_,.i z,_,_,_] =>(64-z).toNat | _=>0)] | _=> [])]⟩
 | _=> {cut:= [],loop:= []}
def ajD:Ct:= {ps:= [wH],bs:= [],pre:=fun _=>True,res:=fun | [.lb a] => .ret wH [] [.lb (pF a)] | _=>ag}
def CB:List (Nat×Pat):= [(1,.ptr 0 0),(2,.ptr 1 0),(3,.ptr 2 0),(8,.ptr 3 0),(9,i64)]
def ZZ:List Dat→Ann
 | [.lb a] =>⟨[],[(3,[la 88 cm [bC,bC,Ag] (fun | [.i x,.lb a',.lb _,.lb p] =>a'=a∧0≤x∧x≤5∧p=dp (fun x z=>x*64+z) (fun x z=>decide (gg a x z 5%2=1)) 64 (List.replicate 320 false) x.toNat | _=>False) (fun | [.i x,_,_,_] =>(5-x).toNat | _=>0)]),
   (17,[la 88 CB [bC,bC,Ag,bC] (fun | [.i x,.lb a',.lb _,.lb p,.lb t] =>a'=a∧p=AU a∧0≤x∧x≤5∧t=iJ aJ (sk a p) 5 64 zB x.toNat | _=>False) (fun | [.i x,_,_,_,_] =>(5-x).toNat | _=>0)])],
  [(6,[la 88 (cm++ [(5,i64)]) [bC,bC,Ag] ma js],fun | [.i x0,.i _,.lb a0,.lb _,.lb p0] => [la 88 (cm++ [(5,i64)]) [bC,bC,Ag]
   (fun | [.i x,.i z,.lb a',.lb _,.lb p] =>x=x0∧a'=a0∧0≤z∧z≤64∧p=d6 (fun z=>x0.toNat*64+z) (fun z=>decide (gg a0 x0.toNat z 5%2=1)) p0 z.toNat | _=>False) (fun | [_,.i z,_,_,_] =>(64-z).toNat | _=>0)] | _=> []),
   (10,[la 88 (cm++ [(5,i64),(6,i64),(7,i64)]) [bC,bC,Ag] ma js],fun | [.i x0,.i z0,.i _,.i _,.lb a0,.lb _,.lb p0] => [la 88 (cm++ [(5,i64),(6,i64),(7,i64)]) [bC,bC,Ag]
   (fun | [.i x,.i z,.i n,.i y,.lb a',.lb _,.lb p] =>x=x0∧z=z0∧a'=a0∧p=p0∧0≤y∧y≤5∧n=gg a0 x0.toNat z0.toNat y.toNat∧0≤n∧n≤y | _=>False) (fun | [_,_,_,.i y,_,_,_] =>(5-y).toNat | _=>0)] | _=> []),
   (20,[la 88 (CB++ [(10,i64)]) [bC,bC,Ag,bC] ma js],fun | [.i x0,.i _,.lb a0,.lb _,.lb p0,.lb t0] => [la 88 (CB++ [(10,i64)]) [bC,bC,Ag,bC]
   (fun | [.i x,.i y,.lb a',.lb _,.lb p,.lb t] =>x=x0∧a'=a0∧p=p0∧0≤y∧y≤5∧t=dp (aJ x0.toNat) (sk a0 p0 x0.toNat) 64 t0 y.toNat | _=>False) (fun | [_,.i y,_,_,_,_] =>(5-y).toNat | _=>0)] | _=> []),
   (23,[la 88 (CB++ [(10,i64),(11,i64)]) [bC,bC,Ag,bC] ma js],fun | [.i x0,.i y0,.i _,.lb a0,.lb _,.lb p0,.lb t0] => [la 88 (CB++ [(10,i64),(11,i64)]) [bC,bC,Ag,bC]
   (fun | [.i x,.i y,.i z,.lb a',.lb _,.lb p,.lb t] =>x=x0∧y=y0∧a'=a0∧p=p0∧0≤z∧z≤64∧t=d6 (aJ x0.toNat y0.toNat) (sk a0 p0 x0.toNat y0.toNat) t0 z.toNat | _=>False) (fun | [_,_,.i z,_,_,_,_] =>(64-z).toNat | _=>0)] | _=> [])]⟩
 | _=> {cut:= [],loop:= []}
def ai6:Ct:= {ps:= [wH,i64],bs:= [],pre:=fun _=>True,res:=fun | [.lb a,.i r] => .ret wH [] [.lb (um a r)] | _=>ag}
def Zj:List Dat→Ann
 | [.lb a,.i r] =>⟨[],[(4,[la 32 [(2,.ptr 0 0),(4,.ptr 1 0),(5,.ptr 2 0),(6,i64)] [bC,bC,q27] (fun | [.i z,.lb t,.lb _,.lb c] =>c=gz r∧0≤z∧z≤64∧t=rF (yy (HA (gJ (pF a)))) (gz r) z.toNat | _=>False) (fun | [.i z,_,_,_] =>(64-z).toNat | _=>0)])],[]⟩
 | _=> {cut:= [],loop:= []}
def ahG:Ct:= {ps:= [st],bs:= [],pre:=fun | [.li s] =>aq s | _=>False,res:=fun | [.li s] => .ret wH [] [.lb (jQ s)] | _=>ag}
def agD:List Dat→Ann
 | [.li s] =>⟨[],[(3,[la 33 cm [pX,bC,bC] (fun | [.i i,.li s',.lb _,.lb t] =>s'=s∧0≤i∧i≤25∧t=dp (fun i z=>aJ (i%5) (i / 5) z) (fun i z=>bt (s.getD i 0) z) 64 zB i.toNat | _=>False) (fun | [.i i,_,_,_] =>(25-i).toNat | _=>0)])],
  [(7,[la 33 (cm++ [(5,u64),(6,i64)]) [pX,bC,bC] ma js],fun | [.i i0,.i v0,.i _,.li s0,.lb _,.lb t0] => [la 33 (cm++ [(5,u64),(6,i64)]) [pX,bC,bC]
   (fun | [.i i,.i v,.i z,.li s,.lb _,.lb t] =>i=i0∧s=s0∧0≤z∧z≤64∧v=v0 / 2 ^ z.toNat∧t=d6 (fun z=>aJ (i0.toNat%5) (i0.toNat / 5) z) (fun z=>bt v0 z) t0 z.toNat | _=>False) (fun | [_,_,.i z,_,_,_] =>(64-z).toNat | _=>0)] | _=> [])]⟩
 | _=> {cut:= [],loop:= []}
def aiX:Ct:= {ps:= [wH],bs:= [],pre:=fun _=>True,res:=fun | [.lb a] => .ret st [] [.li (w8 a)] | _=>ag}
def ad5:List Dat→Ann
 | [.lb a] =>⟨[],[(3,[la 33 cm [bC,pX,pX] (fun | [.i i,.lb a',.li _,.li t] =>a'=a∧0≤i∧i≤25∧t=wD a i.toNat | _=>False) (fun | [.i i,_,_,_] =>(25-i).toNat | _=>0)])],
  [(7,[la 33 (cm++ [(5,u64),(6,i64)]) [bC,pX,pX] ma js],fun | [.i i0,.i _,.i _,.lb a0,.li _,.li t0] => [la 33 (cm++ [(5,u64),(6,i64)]) [bC,pX,pX]
   (fun | [.i i,.i v,.i z,.lb a,.li _,.li t] =>i=i0∧a=a0∧t=t0∧-1≤z∧z≤63∧v=(wv a0 i0.toNat (63-z).toNat:Nat) | _=>False) (fun | [_,_,.i z,_,_,_] =>(z+1).toNat | _=>0)] | _=> [])]⟩
 | _=> {cut:= [],loop:= []}
def alI:Ct:= {ps:= [st],bs:= [],pre:=fun | [.li s] =>aq s | _=>False,res:=fun | [.li s] => .ret st [] [.li (jP s)] | _=>ag}
def abo:List Dat→Ann
 | [.li s] =>⟨[],[(3,[la 16 cm [pX,pX,bC] (fun | [.i i,.li _,.li _,.lb t] =>0≤i∧i≤24∧t=sr (jQ s) i.toNat | _=>False) (fun | [.i i,_,_,_] =>(24-i).toNat | _=>0)])],[]⟩
 | _=> {cut:= [],loop:= []}
abbrev aQ (a:List Bool):Prop:=
 a.length=1600
abbrev fF:List Bool:=
 List.replicate 1600 false
abbrev mP (a:Int):Bool:=
 decide (a<(5:Int))
abbrev d7 (a:Int):Prop:=
 0≤a∧a<(↑(5:Nat):Int)
abbrev fl (a:Int):Prop:=
 0≤a∧a<(↑(64:Nat):Int)
abbrev jo (a b c:Int):Nat:=
 a.toNat*320+b.toNat*64+c.toNat*1
abbrev vD (a b c:Int)(d:List Bool):Prop:=
 (!d.getD (((a+1)%(5:Int)).toNat*320+b.toNat*64+c.toNat*1) false)=true
abbrev cy (a:Int):Nat:=
 (a+1).toNat
abbrev oV (a:Int):Prop:=
 ((64:Int)-(a+1)).toNat<((64:Int)-a).toNat
abbrev qm (a b:Int):Prop:=
 ((5:Int)-(a+1)).toNat<((5:Int)-b).toNat
def adr:Prop:=
 ∀ (a:List Bool),
 aQ a→
 True→
 ((a=a∧
 (0:Int)≤0∧
 (0:Int)≤5∧
 fF=
 iJ aJ (sB a) 5 64
 fF 0)∧
 True)∧
 ∀ (b:Int) (c d e:List Bool),
 aQ c→
 aQ d→
 aQ e→
 c=a∧
 0≤b∧
 b≤5∧
 e=
 iJ aJ (sB a) 5 64
 fF b.toNat→
 bif mP b then
 ((b=b∧
 c=c∧
 (0:Int)≤0∧
 (0:Int)≤5∧
 e=
 dp (aJ b.toNat) (sB c b.toNat)
 64 e 0)∧
 True)∧
 ∀ (f g:Int) (h i j:List Bool),
 aQ h→
 aQ i→
 aQ j→
 f=b∧
 h=c∧
 0≤g∧
 g≤5∧
 j=
 dp (aJ b.toNat)
 (sB c b.toNat) 64 e g.toNat→
 bif mP g then
 ((f=f∧
 g=g∧
 h=h∧
 (0:Int)≤0∧
 (0:Int)≤64∧
 j=
 d6 (aJ f.toNat g.toNat)
 (sB h f.toNat g.toNat) j 0)∧
 True)∧
 ∀ (k m o:Int) (p q r:List Bool),
 aQ p→
 aQ q→
 aQ r→
 k=f∧
 m=g∧
 p=h∧
 0≤o∧
 o≤64∧
 r=
 d6 (aJ f.toNat g.toNat)
 (sB h f.toNat g.toNat) j o.toNat→
 bif decide (o<(64:Int)) then
 d7 k∧
 d7 m∧
 fl o∧
 jo k m o<(1600:Nat)∧
 iR (k+1)∧
 (0≤k+1∧(0:Int)<(5:Int))∧
 (0≤(k+1)%(5:Int)∧(k+1)%(5:Int)<(↑(5:Nat):Int))∧
 d7 m∧
 fl o∧
 ((k+1)%(5:Int)).toNat*320+m.toNat*64+o.toNat*1<(1600:Nat)∧
 (vD k m o p→iR (k+2))∧
 (vD k m o p→0≤k+2∧(0:Int)<(5:Int))∧
 (vD k m o p→
 0≤(k+2)%(5:Int)∧(k+2)%(5:Int)<(↑(5:Nat):Int))∧
 (vD k m o p→d7 m)∧
 (vD k m o p→fl o)∧
 (vD k m o p→
 ((k+2)%(5:Int)).toNat*320+m.toNat*64+o.toNat*1 <
 (1600:Nat))∧
 d7 k∧
 d7 m∧
 fl o∧
 jo k m o<(1600:Nat)∧
 iR (o+1)∧
 (k=f∧
 m=g∧
 p=h∧
 0≤o+1∧
 o+1≤64∧
 r.set (jo k m o)
 (p.getD (jo k m o) false !=
 (!p.getD
 (((k+1)%(5:Int)).toNat*320+
 m.toNat*64+
 o.toNat*1)
 false &&
 p.getD
 (((k+2)%(5:Int)).toNat*320+
 m.toNat*64+
 o.toNat*1)
 false))=
 d6
 (aJ f.toNat g.toNat)
 (sB h f.toNat g.toNat) j
 (cy o))∧
 oV o
 else
 iR (m+1)∧
 (k=b∧
 p=c∧
 0≤m+1∧
 m+1≤5∧
 r=
 dp (aJ b.toNat)
 (sB c b.toNat) 64 e (cy m))∧
 qm m g
 else
 iR (f+1)∧
 (h=a∧
 0≤f+1∧
 f+1≤5∧
 j=
 iJ aJ (sB a)
 5 64 fF (cy f))∧
 qm f b
 else e=yy a
def SR:af:=aj T8 220 (ap alT)
abbrev xn (a:Int):Prop:=
 ((5:Int)-(a+1)).toNat<((5:Int)-a).toNat
def adG:Prop:=
 ∀ (a:List Bool),
 aQ a→
 True→
 ((a=a∧
 (0:Int)≤0∧
 (0:Int)≤5∧fF=DU a fF 0)∧
 True)∧
 ∀ (b:Int) (c d e:List Bool),
 aQ c→
 aQ d→
 aQ e→
 c=a∧0≤b∧b≤5∧e=DU a fF b.toNat→
 bif mP b then
 ((b=b∧c=c∧(0:Int)≤0∧(0:Int)≤5∧e=Ae c b.toNat e 0)∧True)∧
 ∀ (f g:Int) (h i j:List Bool),
 aQ h→
 aQ i→
 aQ j→
 f=b∧h=c∧0≤g∧g≤5∧j=Ae c b.toNat e g.toNat→
 bif mP g then
 iR ((2:Int)*f)∧
 iR ((3:Int)*g)∧
 iR ((2:Int)*f+3*g)∧
 ((0:Int)≤2*f+3*g∧(0:Int)<(5:Int))∧
 d7 f∧
 d7 g∧
 f.toNat*320+g.toNat*64+64≤1600∧
 d7 g∧
 (0≤((2:Int)*f+3*g)%(5:Int)∧((2:Int)*f+3*g)%(5:Int)<(↑(5:Nat):Int))∧
 g.toNat*320+(((2:Int)*f+3*g)%(5:Int)).toNat*64+64≤1600∧
 iR (g+1)∧
 (f=b∧
 h=c∧
 0≤g+1∧
 g+1≤5∧
 List.take (g.toNat*320+(((2:Int)*f+3*g)%(5:Int)).toNat*64) j++
 List.take 64 (List.drop (f.toNat*320+g.toNat*64) h)++
 List.drop
 (g.toNat*320+(((2:Int)*f+3*g)%(5:Int)).toNat*64+64) j=
 Ae c b.toNat e (cy g))∧
 xn g
 else
 iR (f+1)∧
 (h=a∧
 0≤f+1∧
 f+1≤5∧
 j=DU a fF (cy f))∧
 qm f b
 else e=HA a
def TP:af:=aj SR 221 (ap ai8)
abbrev lK:Prop:=
 (0:Int)≤0∧(0:Int)<(↑(5:Nat):Int)
def abO:Prop:=
 ∀ (a:List Bool),
 aQ a→
 True→
 lK∧
 lK∧
 (64:Nat)≤1600∧
 lK∧
 lK∧
 (64:Nat)≤1600∧
 ((a=a∧
 (0:Int)≤0∧
 (0:Int)≤24∧
 1=(↑(1:Nat):Int)∧
 0=(↑(0:Nat):Int)∧
 [] ++List.take 64 (List.drop 0 a)++List.replicate 1536 false=sV a 0)∧
 True)∧
 ∀ (b c d:Int) (e f g:List Bool),
 aQ e→
 aQ f→
 aQ g→
 e=a∧
 0≤d∧
 d≤24∧
 b=(↑(bB d.toNat).fst:Int)∧
 c=(↑(bB d.toNat).snd:Int)∧g=sV a d.toNat→
 bif decide (d<(24:Int)) then
 ((b=b∧
 c=c∧d=d∧e=e∧(0:Int)≤0∧(0:Int)≤64∧g=Dk e d.toNat g 0)∧
 True)∧
 ∀ (h i j k:Int) (m o p:List Bool),
 aQ m→
 aQ o→
 aQ p→
 h=b∧i=c∧j=d∧m=e∧0≤k∧k≤64∧p=Dk e d.toNat g k.toNat→
 bif decide (k<(64:Int)) then
 iR (j+1)∧
 iR (j+2)∧
 iR ((j+1)*(j+2))∧
 (0≤(j+1)*(j+2)∧
 (0:Int)<(2:Int)∧(j+1)*(j+2)≤IntKind.i64.max)∧
 iR (k+(j+1)*(j+2) / 2)∧
 (0≤k+(j+1)*(j+2) / 2∧(0:Int)<(64:Int))∧
 d7 h∧
 d7 i∧
 fl k∧
 jo h i k<(1600:Nat)∧
 d7 h∧
 d7 i∧
 (0≤(k+(j+1)*(j+2) / 2)%(64:Int)∧
 (k+(j+1)*(j+2) / 2)%(64:Int)<(↑(64:Nat):Int))∧
 h.toNat*320+i.toNat*64+
 ((k+(j+1)*(j+2) / 2)%(64:Int)).toNat*1 <
 (1600:Nat)∧
 iR (k+1)∧
 (h=b∧
 i=c∧
 j=d∧
 m=e∧
 0≤k+1∧
 k+1≤64∧
 p.set
 (h.toNat*320+i.toNat*64+
 ((k+(j+1)*(j+2) / 2)%(64:Int)).toNat *
 (1:Nat))
 (m.getD (jo h i k) false)=
 Dk e d.toNat g
 (cy k))∧
 oV k
 else
 iR ((2:Int)*h)∧
 iR ((3:Int)*i)∧
 iR ((2:Int)*h+3*i)∧
 ((0:Int)≤2*h+3*i∧(0:Int)<(5:Int))∧
 iR (j+1)∧
 (m=a∧
 0≤j+1∧
 j+1≤24∧
 i=(↑(bB (cy j)).fst:Int)∧
 ((2:Int)*h+3*i)%(5:Int)=
 (↑(bB (cy j)).snd:Int)∧
 p=sV a (cy j))∧
 ((24:Int)-(j+1)).toNat<((24:Int)-d).toNat
 else g=gJ a
def Wt:af:=aj TP 222 (ap amm)
abbrev yC:List Bool:=
 List.replicate 320 false
def afs:Prop:=
 ∀ (a:List Bool),
 aQ a→
 True→
 ((a=a∧
 (0:Int)≤0∧
 (0:Int)≤5∧
 yC=
 dp (fun b c=>b*64+c)
 (fun b c=>decide (gg a b c 5%(2:Int)=1)) 64 yC
 0)∧
 True)∧
 ∀ (b:Int) (c d e:List Bool),
 aQ c→
 aQ d→
 e.length=320→
 c=a∧
 0≤b∧
 b≤5∧
 e=
 dp (fun f g=>f*64+g)
 (fun f g=>decide (gg a f g 5%(2:Int)=1)) 64
 yC b.toNat→
 bif mP b then
 ((b=b∧
 c=c∧
 (0:Int)≤0∧
 (0:Int)≤64∧
 e=
 d6 (fun f=>b.toNat*64+f)
 (fun f=>decide (gg c b.toNat f 5%(2:Int)=1)) e 0)∧
 True)∧
 ∀ (f g:Int) (h i j:List Bool),
 aQ h→
 aQ i→
 j.length=320→
 f=b∧
 h=c∧
 0≤g∧
 g≤64∧
 j=
 d6 (fun k=>b.toNat*64+k)
 (fun k=>decide (gg c b.toNat k 5%(2:Int)=1)) e g.toNat→
 bif decide (g<(64:Int)) then
 ((f=f∧
 g=g∧
 h=h∧
 j=j∧
 (0:Int)≤0∧
 (0:Int)≤5∧
 0=gg h f.toNat g.toNat 0∧
 (0:Int)≤0∧(0:Int)≤0)∧
 True)∧
 ∀ (k m o p:Int) (q r s:List Bool),
 aQ q→
 aQ r→
 s.length=320→
 k=f∧
 m=g∧
 q=h∧
 s=j∧
 0≤p∧
 p≤5∧o=gg h f.toNat g.toNat p.toNat∧0≤o∧o≤p→
 bif mP p then
 d7 k∧
 d7 p∧
 fl m∧
 jo k p m<(1600:Nat)∧
 bif q.getD (jo k p m) false then
 iR (o+1)∧
 iR (p+1)∧
 (k=f∧
 m=g∧
 q=h∧
 s=j∧
 0≤p+1∧
 p+1≤5∧
 o+1=
 gg h f.toNat g.toNat
 (cy p)∧
 0≤o+1∧o+1≤p+1)∧
 xn p
 else
 iR (p+1)∧
 (k=f∧
 m=g∧
 q=h∧
 s=j∧
 0≤p+1∧
 p+1≤5∧
 o=
 gg h f.toNat g.toNat
 (cy p)∧
 0≤o∧o≤p+1)∧
 xn p
 else
 (0≤o∧(0:Int)<(2:Int))∧
 d7 k∧
 fl m∧
 k.toNat*64+m.toNat*1<(320:Nat)∧
 iR (m+1)∧
 (k=b∧
 q=c∧
 0≤m+1∧
 m+1≤64∧
 s.set (k.toNat*64+m.toNat*1) (decide (o%(2:Int)=1))=
 d6 (fun t=>b.toNat*64+t)
 (fun t=>decide (gg c b.toNat t 5%(2:Int)=1)) e
 (cy m))∧
 ((64:Int)-(m+1)).toNat<((64:Int)-g).toNat
 else
 iR (f+1)∧
 (h=a∧
 0≤f+1∧
 f+1≤5∧
 j=
 dp (fun k m=>k*64+m)
 (fun k m=>decide (gg a k m 5%(2:Int)=1)) 64
 yC (cy f))∧
 qm f b
 else
 ((c=a∧
 e=AU a∧
 (0:Int)≤0∧
 (0:Int)≤5∧
 fF=
 iJ aJ (sk a e) 5
 64 fF 0)∧
 True)∧
 ∀ (f:Int) (g h i j:List Bool),
 aQ g→
 aQ h→
 i.length=320→
 aQ j→
 g=a∧
 i=AU a∧
 0≤f∧
 f≤5∧
 j=
 iJ aJ (sk a i)
 5 64 fF f.toNat→
 bif mP f then
 ((f=f∧
 g=g∧
 i=i∧
 (0:Int)≤0∧
 (0:Int)≤5∧
 j=
 dp (aJ f.toNat)
 (sk g i f.toNat) 64 j 0)∧
 True)∧
 ∀ (k m:Int) (o p q r:List Bool),
 aQ o→
 aQ p→
 q.length=320→
 aQ r→
 k=f∧
 o=g∧
 q=i∧
 0≤m∧
 m≤5∧
 r=
 dp (aJ f.toNat)
 (sk g i f.toNat) 64 j m.toNat→
 bif mP m then
 ((k=k∧
 m=m∧
 o=o∧
 q=q∧
 (0:Int)≤0∧
 (0:Int)≤64∧
 r=
 d6 (aJ k.toNat m.toNat)
 (sk o q k.toNat m.toNat) r 0)∧
 True)∧
 ∀ (s t u:Int) (v w x y:List Bool),
 aQ v→
 aQ w→
 x.length=320→
 aQ y→
 s=k∧
 t=m∧
 v=o∧
 x=q∧
 0≤u∧
 u≤64∧
 y=
 d6 (aJ k.toNat m.toNat)
 (sk o q k.toNat m.toNat) r u.toNat→
 bif decide (u<(64:Int)) then
 iR (s+4)∧
 (0≤s+4∧(0:Int)<(5:Int))∧
 (0≤(s+4)%(5:Int)∧(s+4)%(5:Int)<(↑(5:Nat):Int))∧
 fl u∧
 ((s+4)%(5:Int)).toNat*64+u.toNat*1<(320:Nat)∧
 iR (s+1)∧
 (0≤s+1∧(0:Int)<(5:Int))∧
 iR (u+63)∧
 (0≤u+63∧(0:Int)<(64:Int))∧
 (0≤(s+1)%(5:Int)∧(s+1)%(5:Int)<(↑(5:Nat):Int))∧
 (0≤(u+63)%(64:Int)∧
 (u+63)%(64:Int)<(↑(64:Nat):Int))∧
 ((s+1)%(5:Int)).toNat*64+
 ((u+63)%(64:Int)).toNat*1 <
 (320:Nat)∧
 d7 s∧
 d7 t∧
 fl u∧
 jo s t u<(1600:Nat)∧
 d7 s∧
 d7 t∧
 fl u∧
 jo s t u<(1600:Nat)∧
 iR (u+1)∧
 (s=k∧
 t=m∧
 v=o∧
 x=q∧
 0≤u+1∧
 u+1≤64∧
 y.set (jo s t u)
 (v.getD
 (jo s t
 u)
 false !=
 (x.getD
 (((s+4)%(5:Int)).toNat *
 (64:Nat)+
 u.toNat*1)
 false !=
 x.getD
 (((s+1)%(5:Int)).toNat *
 (64:Nat)+
 ((u+63)%(64:Int)).toNat *
 (1:Nat))
 false))=
 d6
 (aJ k.toNat
 m.toNat)
 (sk o q k.toNat
 m.toNat)
 r (cy u))∧
 oV u
 else
 iR (t+1)∧
 (s=f∧
 v=g∧
 x=i∧
 0≤t+1∧
 t+1≤5∧
 y=
 dp (aJ f.toNat)
 (sk g i f.toNat) 64 j
 (cy t))∧
 qm t m
 else
 iR (k+1)∧
 (o=a∧
 q=AU a∧
 0≤k+1∧
 k+1≤5∧
 r=
 iJ aJ
 (sk a q) 5 64 fF
 (cy k))∧
 qm k f
 else j=pF a
def UR:af:=aj Wt 223 (ap ajD)
abbrev yA (a:List Bool):List Bool:=
 yy (HA (gJ (pF a)))
def ZY:Prop:=
 ∀ (a:List Bool) (b:Int),
 aQ a→
 True→
 True∧
 True∧
 True∧
 True∧
 True∧
 ((gz b=gz b∧
 (0:Int)≤0∧
 (0:Int)≤64∧
 yA a=
 rF (yA a) (gz b) 0)∧
 True)∧
 ∀ (c:Int) (d e f:List Bool),
 aQ d→
 aQ e→
 f.length=64→
 f=gz b∧
 0≤c∧
 c≤64∧
 d=
 rF (yA a) (gz b) c.toNat→
 bif decide (c<(64:Int)) then
 lK∧
 lK∧
 fl c∧
 0+c.toNat*1<1600∧
 fl c∧
 c.toNat*1<64∧
 lK∧
 lK∧
 fl c∧
 0+c.toNat*1<1600∧
 iR (c+1)∧
 (f=gz b∧
 0≤c+1∧
 c+1≤64∧
 d.set (0+c.toNat*1)
 (d.getD (0+c.toNat*1) false !=f.getD (c.toNat*1) false)=
 rF (yA a)
 (gz b) (cy c))∧
 oV c
 else d=um a b
def VP:af:=aj UR 195 (ap ai6)
abbrev iK (a:List Int):Prop:=
 a.length=25
abbrev pI (a:Int)(b:List Int):Int:=
 b.getD (a.toNat*1) 0
abbrev uq (a b:Int):Nat:=
 (a%(5:Int)).toNat*320+(a / 5).toNat*64+b.toNat*1
def acj:Prop:=
 ∀ (a:List Int),
 iK a→
 aq a→
 ((a=a∧
 (0:Int)≤0∧
 (0:Int)≤25∧
 fF=
 dp (fun b c=>aJ (b%(5:Nat)) (b / 5) c)
 (fun b c=>bt (a.getD b 0) c) 64 fF 0)∧
 True)∧
 ∀ (b:Int) (c:List Int) (d e:List Bool),
 iK c→
 aQ d→
 aQ e→
 c=a∧
 0≤b∧
 b≤25∧
 e=
 dp (fun f g=>aJ (f%(5:Nat)) (f / 5) g)
 (fun f g=>bt (a.getD f 0) g) 64 fF b.toNat→
 bif decide (b<(25:Int)) then
 (0≤b∧b<(↑(25:Nat):Int))∧
 b.toNat*1<(25:Nat)∧
 ((b=b∧
 c=c∧
 (0:Int)≤0∧
 (0:Int)≤64∧
 pI b c=pI b c / 2 ^ (0:Nat)∧
 e=
 d6 (fun f=>aJ (b.toNat%(5:Nat)) (b.toNat / 5) f)
 (fun f=>bt (pI b c) f) e 0)∧
 True)∧
 ∀ (f g h:Int) (i:List Int) (j k:List Bool),
 iK i→
 aQ j→
 aQ k→
 f=b∧
 i=c∧
 0≤h∧
 h≤64∧
 g=pI b c / 2 ^ h.toNat∧
 k=
 d6
 (fun m=>aJ (b.toNat%(5:Nat)) (b.toNat / 5) m)
 (fun m=>bt (pI b c) m) e h.toNat→
 bif decide (h<(64:Int)) then
 (0≤f∧(0:Int)<(5:Int))∧
 (0≤f∧(0:Int)<(5:Int)∧f≤IntKind.i64.max)∧
 (0≤g∧(0:Int)<(2:Int))∧
 (0≤f%(5:Int)∧f%(5:Int)<(↑(5:Nat):Int))∧
 (0≤f / 5∧f / 5<(↑(5:Nat):Int))∧
 fl h∧
 uq f h<(1600:Nat)∧
 (0≤g∧(0:Int)<(2:Int)∧g≤IntKind.u64.max)∧
 iR (h+1)∧
 (f=b∧
 i=c∧
 0≤h+1∧
 h+1≤64∧
 g / 2=
 pI b c / 2 ^ cy h∧
 k.set (uq f h) (decide (g%(2:Int)=1))=
 d6
 (fun m=>aJ (b.toNat%(5:Nat)) (b.toNat / 5) m)
 (fun m=>bt (pI b c) m) e
 (cy h))∧
 oV h
 else
 iR (f+1)∧
 (i=a∧
 0≤f+1∧
 f+1≤25∧
 k=
 dp (fun m o=>aJ (m%(5:Nat)) (m / 5) o)
 (fun m o=>bt (a.getD m 0) o) 64 fF
 (cy f))∧
 ((25:Int)-(f+1)).toNat<((25:Int)-b).toNat
 else e=jQ a
def Vt:af:=aj VP 194 (ap ahG)
def abC:Prop:=
 ∀ (a:List Bool),
 aQ a→
 True→
 ((a=a∧
 (0:Int)≤0∧
 (0:Int)≤25∧
 [0,0,0,0,0,0,0,0,0,0,0,0,0,0,
 (0:Int),0,0,0,0,0,0,0,0,0,0] =
 wD a 0)∧
 True)∧
 ∀ (b:Int) (c:List Bool) (d e:List Int),
 aQ c→
 iK d→
 iK e→
 c=a∧0≤b∧b≤25∧e=wD a b.toNat→
 bif decide (b<(25:Int)) then
 ((b=b∧c=c∧e=e∧(-1:Int)≤63∧(63:Int)≤63∧0=(↑(0:Nat):Int))∧True)∧
 ∀ (f g h:Int) (i:List Bool) (j k:List Int),
 aQ i→
 iK j→
 iK k→
 f=b∧i=c∧k=e∧(-1:Int)≤h∧h≤63∧g=(↑(wv c b.toNat ((63:Int)-h).toNat):Int)→
 bif decide (0≤h) then
 (0≤f∧(0:Int)<(5:Int))∧
 (0≤f∧(0:Int)<(5:Int)∧f≤IntKind.i64.max)∧
 (0≤f%(5:Int)∧f%(5:Int)<(↑(5:Nat):Int))∧
 (0≤f / 5∧f / 5<(↑(5:Nat):Int))∧
 fl h∧
 uq f h<(1600:Nat)∧
 bif i.getD (uq f h) false then
 iR (h-(1:Int))∧
 (f=b∧
 i=c∧
 k=e∧
 (-1:Int)≤h-(1:Int)∧
 h-(1:Int)≤63∧
 IntKind.u64.wrap (IntKind.u64.wrap (g*2)+1)=
 (↑(wv c b.toNat ((63:Int)-(h-(1:Int))).toNat):Int))∧
 (h-(1:Int)+1).toNat<cy h
 else
 iR (h-(1:Int))∧
 (f=b∧
 i=c∧
 k=e∧
 (-1:Int)≤h-(1:Int)∧
 h-(1:Int)≤63∧
 IntKind.u64.wrap (g*2)=
 (↑(wv c b.toNat ((63:Int)-(h-(1:Int))).toNat):Int))∧
 (h-(1:Int)+1).toNat<cy h
 else
 (0≤f∧f<(↑(25:Nat):Int))∧
 f.toNat*1<(25:Nat)∧
 iR (f+1)∧
 (i=a∧
 0≤f+1∧
 f+1≤25∧
 k.set (f.toNat*1) g=wD a (cy f))∧
 ((25:Int)-(f+1)).toNat<((25:Int)-b).toNat
 else e=w8 a
def Va:af:=aj Vt 196 (ap aiX)
def adj:Prop:=
 ∀ (a:List Int),
 iK a→
 aq a→
 aq a∧
 (((0:Int)≤0∧
 (0:Int)≤24∧
 jQ a=sr (jQ a) 0)∧
 True)∧
 ∀ (b:Int) (c d:List Int) (e:List Bool),
 iK c→
 iK d→
 aQ e→
 0≤b∧b≤24∧e=sr (jQ a) b.toNat→
 bif decide (b<(24:Int)) then
 True∧
 iR (b+1)∧
 (0≤b+1∧
 b+1≤24∧
 um e b=
 sr (jQ a) (cy b))∧
 ((24:Int)-(b+1)).toNat<((24:Int)-b).toNat
 else True∧w8 e=jP a
def VL:af:=aj Va 156 (ap alI)
theorem aB {n:Int} (h:0≤n):∃ i:Nat,n=i:=⟨n.toNat,by omega⟩
theorem bz (i:Nat):((i:Int)+1).toNat=i+1:=by omega
theorem m5 (x k:Nat):(((x:Int)+(k:Int))%5).toNat=(x+k)%5:=by omega
theorem aiJ:adr:=by
 delta adr iR aQ fF mP d7 fl jo vD cy oV qm
 intro a ha _
 refine ⟨⟨⟨rfl,by omega,by omega,rfl⟩,trivial⟩,?_⟩
 rintro x' a1 _ t _ _ _ ⟨rfl,h0,h1,ht⟩
 obtain ⟨x,rfl⟩:=aB h0
 rw [ax] at ht
 refine aa (fun h=> ?_) fun h=> ?_
 ·simp only [aK] at h
  refine ⟨⟨⟨rfl,rfl,by omega,by omega,rfl⟩,trivial⟩,?_⟩
  rintro x' y' a2 _ t1 _ _ _ ⟨rfl,rfl,h2,h3,ht1⟩
  obtain ⟨y,rfl⟩:=aB h2
  rw [ax,ax] at ht1
  refine aa (fun h4=> ?_) fun h4=> ?_
  ·simp only [aK] at h4
   refine ⟨⟨⟨rfl,rfl,rfl,by omega,by omega,rfl⟩,trivial⟩,?_⟩
   rintro x' y' z' a3 _ t2 _ _ _ ⟨rfl,rfl,rfl,h5,h6,ht2⟩
   obtain ⟨z,rfl⟩:=aB h5
   simp only [ax] at ht2
   refine aa (fun h7=> ?_) fun h7=> ?_
   ·simp only [aK] at h7
    have e1:(((x:Int)+1)%5).toNat=(x+1)%5:=m5 x 1
    have e2:(((x:Int)+2)%5).toNat=(x+2)%5:=m5 x 2
    simp only [ax,e1,e2,bz,Nat.mul_one]
    refine ⟨by omega,by omega,by omega,by omega,by omega,by omega,by omega,by omega,by omega,by omega,fun _=>by omega,fun _=>by omega,fun _=>by omega,fun _=>by omega,fun _=>by omega,fun _=>by omega,by omega,by omega,by omega,by omega,by omega,⟨by trivial,by trivial,by trivial,by omega,by omega,?_⟩,by omega⟩
    rw [ht2];rfl
   ·simp only [aT] at h7
    have hz:z=64:=by omega
    subst hz
    refine ⟨by omega,⟨by trivial,by trivial,by omega,by omega,?_⟩,by omega⟩
    rw [bz,ht2,ht1];rfl
  ·simp only [aT] at h4
   have hy:y=5:=by omega
   subst hy
   refine ⟨by omega,⟨by trivial,by omega,by omega,?_⟩,by omega⟩
   rw [bz,ht1,ht];rfl
 ·simp only [aT] at h
  have hx:x=5:=by omega
  subst hx
  rw [ht];rfl
theorem aaf:(base.with SR).Ok:=ac afU (ai YF afU Tryz.func220 (by kernel_rfl) Tryz.call220 (by kernel_rfl) aiJ)
theorem xy5 (x y:Nat):((2*(x:Int)+3*(y:Int))%5).toNat=(2*x+3*y)%5:=by
 have:2*(x:Int)+3*(y:Int)=((2*x+3*y:Nat):Int):=by omega
 rw [this]
 generalize 2*x+3*y=m
 omega
theorem ai4:adG:=by
 delta adG iR aQ fF mP d7 cy qm xn
 intro a ha _
 refine ⟨⟨⟨rfl,by omega,by omega,rfl⟩,trivial⟩,?_⟩
 rintro x' a1 _ t _ _ _ ⟨rfl,h0,h1,ht⟩
 obtain ⟨x,rfl⟩:=aB h0
 rw [ax] at ht
 refine aa (fun h=> ?_) fun h=> ?_
 ·simp only [aK] at h
  refine ⟨⟨⟨rfl,rfl,by omega,by omega,rfl⟩,trivial⟩,?_⟩
  rintro x' y' a2 _ t1 _ _ _ ⟨rfl,rfl,h2,h3,ht1⟩
  obtain ⟨y,rfl⟩:=aB h2
  rw [ax,ax] at ht1
  refine aa (fun h4=> ?_) fun h4=> ?_
  ·simp only [aK] at h4
   have e1:=xy5 x y
   have e2:(2*x+3*y)%5<5:=Nat.mod_lt _ (by decide)
   simp only [ax,e1,bz,Nat.mul_one]
   refine ⟨by omega,by omega,by omega,by omega,by omega,by omega,by omega,by omega,by omega,by omega,by omega,⟨by trivial,by trivial,by omega,by omega,?_⟩,by omega⟩
   rw [ht1];rfl
  ·simp only [aT] at h4
   have hy:y=5:=by omega
   subst hy
   refine ⟨by omega,⟨by trivial,by omega,by omega,?_⟩,by omega⟩
   rw [bz,ht1,ht];rfl
 ·simp only [aT] at h
  have hx:x=5:=by omega
  subst hx
  rw [ht];rfl
theorem adH:(base.with TP).Ok:=ac aaf (ai aaL aaf Tryz.func221 (by kernel_rfl) Tryz.call221 (by kernel_rfl) ai4)
theorem ake:abO:=by
 delta abO iR aQ d7 fl jo cy oV lK
 intro a ha _
 refine ⟨by omega,by omega,by omega,by omega,by omega,by omega,⟨⟨rfl,by omega,by omega,rfl,rfl,rfl⟩,trivial⟩,?_⟩
 rintro x' y' t' a1 _ l1 _ _ _ ⟨rfl,h0,h1,rfl,rfl,hl⟩
 obtain ⟨t,rfl⟩:=aB h0
 rw [ax] at *
 refine aa (fun h=> ?_) fun h=> ?_
 ·simp only [aK] at h
  refine ⟨⟨⟨rfl,rfl,rfl,rfl,by omega,by omega,rfl⟩,trivial⟩,?_⟩
  rintro x' y' t' z' a2 _ l2 _ _ _ ⟨rfl,rfl,rfl,rfl,h2,h3,hl2⟩
  obtain ⟨z,rfl⟩:=aB h2
  obtain ⟨hx,hy⟩:=Uc t
  simp only [ax] at hl2
  refine aa (fun h4=> ?_) fun h4=> ?_
  ·simp only [aK] at h4
   have hm:(t+1)*(t+2)≤24*25:=Nat.mul_le_mul (by omega) (by omega)
   have em:((t:Int)+1)*((t:Int)+2)=(((t+1)*(t+2):Nat):Int):=by simp
   have eq0:((z:Int)+(((t+1)*(t+2):Nat):Int) / 2)%64=(((z+(t+1)*(t+2) / 2)%64:Nat):Int):=by omega
   have emax:IntKind.max .i64=9223372036854775807:=by decide
   rw [em,eq0,emax]
   simp only [ax,bz,Nat.mul_one]
   have hlt:(z+(t+1)*(t+2) / 2)%64<64:=Nat.mod_lt _ (by decide)
   refine ⟨by omega,by omega,by omega,by omega,by omega,by omega,by omega,by omega,by omega,by omega,by omega,by omega,by omega,by omega,by omega,⟨by trivial,by trivial,by trivial,by trivial,by omega,by omega,?_⟩,by omega⟩
   rw [hl2];rfl
  ·simp only [aT] at h4
   have hz:z=64:=by omega
   subst hz
   have e1:=xy5 (bB t).1 (bB t).2
   refine ⟨by omega,by omega,by omega,by omega,by omega,⟨by trivial,by omega,by omega,?_,?_,?_⟩,by omega⟩
   ·rw [bz];rfl
   ·rw [bz]
    show _=(((2*(bB t).1+3*(bB t).2)%5:Nat):Int)
    rw [← e1]
    omega
   ·rw [bz,hl2,hl];rfl
 ·simp only [aT] at h
  have ht:t=24:=by omega
  subst ht
  rw [hl];rfl
theorem aed:(base.with Wt).Ok:=ac adH (ai aag adH Tryz.func222 (by kernel_rfl) Tryz.call222 (by kernel_rfl) ake)
theorem al5:afs:=by
 delta afs iR aQ fF mP d7 fl jo cy oV qm xn yC
 intro a ha _
 refine ⟨⟨⟨rfl,by omega,by omega,rfl⟩,trivial⟩,?_⟩
 rintro x' a1 _ p _ _ _ ⟨rfl,h0,h1,ht⟩
 obtain ⟨x,rfl⟩:=aB h0
 rw [ax] at ht
 refine aa (fun h=> ?_) fun h=> ?_
 ·simp only [aK] at h
  refine ⟨⟨⟨rfl,rfl,by omega,by omega,rfl⟩,trivial⟩,?_⟩
  rintro x' z' a2 _ p1 _ _ _ ⟨rfl,rfl,h2,h3,ht1⟩
  obtain ⟨z,rfl⟩:=aB h2
  rw [ax,ax] at ht1
  refine aa (fun h4=> ?_) fun h4=> ?_
  ·simp only [aK] at h4
   refine ⟨⟨⟨rfl,rfl,rfl,rfl,by omega,by omega,rfl,by omega,by omega⟩,trivial⟩,?_⟩
   rintro x' z' n' y' a3 _ p2 _ _ _ ⟨rfl,rfl,rfl,rfl,h5,h6,hn,h8,h9⟩
   obtain ⟨y,rfl⟩:=aB h5
   simp only [ax] at hn
   refine aa (fun h7=> ?_) fun h7=> ?_
   ·simp only [aK] at h7
    simp only [ax,bz,Nat.mul_one]
    refine ⟨by omega,by omega,by omega,by omega,?_⟩
    refine aa (fun hb=> ?_) fun hb=> ?_
    ·refine ⟨by omega,by omega,⟨by trivial,by trivial,by trivial,by trivial,by omega,by omega,?_,by omega,by omega⟩,by omega⟩
     rw [hn,gg]
     exact (if_pos hb).symm
    ·refine ⟨by omega,⟨by trivial,by trivial,by trivial,by trivial,by omega,by omega,?_,by omega,by omega⟩,by omega⟩
     rw [hn,gg]
     exact (if_neg (by unfold gb aJ;rw [hb];decide)).symm
   ·simp only [aT] at h7
    have hy:y=5:=by omega
    subst hy
    simp only [ax,bz,Nat.mul_one]
    refine ⟨by omega,by omega,by omega,by omega,by omega,⟨by trivial,by trivial,by omega,by omega,?_⟩,by omega⟩
    rw [ht1,hn];rfl
  ·simp only [aT] at h4
   have hz:z=64:=by omega
   subst hz
   refine ⟨by omega,⟨by trivial,by omega,by omega,?_⟩,by omega⟩
   rw [bz,ht1,ht];rfl
 ·simp only [aT] at h
  have hx:x=5:=by omega
  subst hx
  refine ⟨⟨⟨by trivial,ht,by omega,by omega,rfl⟩,trivial⟩,?_⟩
  clear ht h h1 h0
  rintro x' a2 _ p2 t _ _ _ _ ⟨rfl,hp,h0,h1,ht⟩
  obtain ⟨x,rfl⟩:=aB h0
  rw [ax] at ht
  refine aa (fun h=> ?_) fun h=> ?_
  ·simp only [aK] at h
   refine ⟨⟨⟨rfl,rfl,rfl,by omega,by omega,rfl⟩,trivial⟩,?_⟩
   rintro x' y' a2 _ p3 t1 _ _ _ _ ⟨rfl,rfl,rfl,h2,h3,ht1⟩
   obtain ⟨y,rfl⟩:=aB h2
   rw [ax,ax] at ht1
   refine aa (fun h4=> ?_) fun h4=> ?_
   ·simp only [aK] at h4
    refine ⟨⟨⟨rfl,rfl,rfl,rfl,by omega,by omega,rfl⟩,trivial⟩,?_⟩
    rintro x' y' z' a3 _ p3 t2 _ _ _ _ ⟨rfl,rfl,rfl,rfl,h5,h6,ht2⟩
    obtain ⟨z,rfl⟩:=aB h5
    simp only [ax] at ht2
    refine aa (fun h7=> ?_) fun h7=> ?_
    ·simp only [aK] at h7
     have e1:(((x:Int)+4)%5).toNat=(x+4)%5:=m5 x 4
     have e2:(((x:Int)+1)%5).toNat=(x+1)%5:=m5 x 1
     have e3:(((z:Int)+63)%64).toNat=(z+63)%64:=by omega
     simp only [ax,e1,e2,e3,bz,Nat.mul_one]
     refine ⟨by omega,by omega,by omega,by omega,by omega,by omega,by omega,by omega,by omega,by omega,by omega,by omega,by omega,by omega,by omega,by omega,by omega,by omega,by omega,by omega,by omega,⟨by trivial,by trivial,by trivial,by trivial,by omega,by omega,?_⟩,by omega⟩
     rw [ht2];rfl
    ·simp only [aT] at h7
     have hz:z=64:=by omega
     subst hz
     refine ⟨by omega,⟨by trivial,by trivial,by trivial,by omega,by omega,?_⟩,by omega⟩
     rw [bz,ht2,ht1];rfl
   ·simp only [aT] at h4
    have hy:y=5:=by omega
    subst hy
    refine ⟨by omega,⟨by trivial,hp,by omega,by omega,?_⟩,by omega⟩
    rw [bz,ht1,ht];rfl
  ·simp only [aT] at h
   have hx:x=5:=by omega
   subst hx
   rw [ht,hp];rfl
theorem afQ:(base.with UR).Ok:=ac aed (ai ZZ aed Tryz.func223 (by kernel_rfl) Tryz.call223 (by kernel_rfl) al5)
theorem ajH:ZY:=by
 delta ZY iR aQ fl cy oV lK yA
 intro a r ha _
 refine ⟨trivial,trivial,trivial,trivial,trivial,⟨⟨rfl,by omega,by omega,rfl⟩,trivial⟩,?_⟩
 rintro z' t _ c _ _ _ ⟨hc,h0,h1,ht⟩
 obtain ⟨z,rfl⟩:=aB h0
 rw [ax] at ht
 refine aa (fun h=> ?_) fun h=> ?_
 ·simp only [aK] at h
  simp only [ax,bz,Nat.mul_one,Nat.zero_add]
  refine ⟨by omega,by omega,by omega,by omega,by omega,by omega,by omega,by omega,by omega,by omega,by omega,⟨hc,by omega,by omega,?_⟩,by omega⟩
  rw [ht,hc];rfl
 ·simp only [aT] at h
  have hz:z=64:=by omega
  subst hz
  rw [ht];rfl
theorem aa4:(base.with VP).Ok:=ac afQ (ai Zj afQ Tryz.func195 (by kernel_rfl) Tryz.call195 (by kernel_rfl) ajH)
theorem RK (n:Nat) (v:Int):v / 2 ^ n / 2=v / 2 ^ (n+1):=by
 rw [Int.pow_succ,Int.ediv_ediv_of_nonneg (Int.le_of_lt (Int.pow_pos (by decide)))]
theorem adl {v:Int} (h:0≤v) (z:Nat):decide (v / 2 ^ z%2=1)=bt v z:=by
 obtain ⟨n,rfl⟩:=aB h
 unfold bt
 rw [ax,Nat.testBit_eq_decide_div_mod_eq,show (2:Int) ^ z=((2 ^ z:Nat):Int) from by rw [Int.natCast_pow];rfl]
 apply decide_eq_decide.2
 rw [← Int.natCast_ediv]
 omega
theorem amy:acj:=by
 delta acj iR aQ fF fl cy oV iK pI uq
 intro s hs hw
 refine ⟨⟨⟨rfl,by omega,by omega,rfl⟩,trivial⟩,?_⟩
 rintro i' s1 _ t _ _ _ ⟨rfl,h0,h1,ht⟩
 obtain ⟨i,rfl⟩:=aB h0
 simp only [ax] at ht
 refine aa (fun h=> ?_) fun h=> ?_
 ·simp only [aK] at h
  have hv:=hw i
  simp only [ax,Nat.mul_one]
  refine ⟨by omega,by omega,⟨⟨by trivial,by trivial,by omega,by omega,(Int.ediv_one _).symm,rfl⟩,trivial⟩,?_⟩
  generalize hV:s1.getD i 0=V at *
  rintro i' v z' s2 _ t1 _ _ _ ⟨rfl,rfl,h2,h3,rfl,ht1⟩
  obtain ⟨z,rfl⟩:=aB h2
  simp only [ax] at ht1 ⊢
  have hp:(0:Int)<2 ^ z:=Int.pow_pos (by decide)
  have hd:0≤V / 2 ^ z:=Int.ediv_nonneg hv.1 (Int.le_of_lt hp)
  have hd2:V / 2 ^ z≤V:=Int.ediv_le_self _ hv.1
  have hd3:=hv.2
  refine aa (fun h4=> ?_) fun h4=> ?_
  ·simp only [aK] at h4
   have emax:IntKind.max .i64=9223372036854775807:=by decide
   have emax2:IntKind.max .u64=18446744073709551615:=by decide
   have e1:((i:Int)%5).toNat=i%5:=by omega
   have e2:((i:Int) / 5).toNat=i / 5:=by omega
   rw [emax,emax2,RK,adl hv.1]
   simp only [ax,e1,e2,bz,Nat.mul_one]
   refine ⟨by omega,by omega,by omega,by omega,by omega,by omega,by omega,by omega,by omega,⟨by trivial,by trivial,by omega,by omega,by trivial,?_⟩,by omega⟩
   rw [ht1];rfl
  ·simp only [aT] at h4
   have hz:z=64:=by omega
   subst hz
   refine ⟨by omega,⟨by trivial,by omega,by omega,?_⟩,by omega⟩
   rw [bz,ht1,ht,← hV];rfl
 ·simp only [aT] at h
  have hi:i=25:=by omega
  subst hi
  rw [ht];rfl
theorem Zx:(base.with Vt).Ok:=ac aa4 (ai agD aa4 Tryz.func194 (by kernel_rfl) Tryz.call194 (by kernel_rfl) amy)
theorem Us (a:List Bool) (i:Nat):∀ n,wv a i n<2 ^ n
 | 0=>Nat.one_pos
 | n+1=>by
  have:=Us a i n
  rw [wv,Nat.pow_succ]
  split <;>omega
theorem amB:abC:=by
 delta abC iR aQ fl cy iK uq
 intro a ha _
 refine ⟨⟨⟨rfl,by omega,by omega,rfl⟩,trivial⟩,?_⟩
 rintro i' a1 _ t _ _ _ ⟨rfl,h0,h1,ht⟩
 obtain ⟨i,rfl⟩:=aB h0
 simp only [ax] at ht ⊢
 refine aa (fun h=> ?_) fun h=> ?_
 ·simp only [aK] at h
  refine ⟨⟨⟨by trivial,by trivial,by trivial,by omega,by omega,by omega⟩,trivial⟩,?_⟩
  rintro i' v z' a2 _ t1 _ _ _ ⟨rfl,rfl,rfl,h2,h3,rfl⟩
  refine aa (fun h4=> ?_) fun h4=> ?_
  ·simp only [aK] at h4
   obtain ⟨z,rfl⟩:=aB h4
   have emax:IntKind.max .i64=9223372036854775807:=by decide
   have e1:((i:Int)%5).toNat=i%5:=by omega
   have e2:((i:Int) / 5).toNat=i / 5:=by omega
   have e3:((63:Int)-(z:Int)).toNat=63-z:=by omega
   have e4:((63:Int)-((z:Int)-1)).toNat=63-z+1:=by omega
   have hw:=Us a2 i (63-z)
   have hpow:2 ^ (63-z)≤2 ^ 63:=Nat.pow_le_pow_right (by decide) (by omega)
   rw [emax]
   simp only [ax,e1,e2,e3,e4,Nat.mul_one]
   have hwu:∀ b:Nat,b≤1→IntKind.u64.wrap ((wv a2 i (63-z):Int)*2+b)=((2*wv a2 i (63-z)+b:Nat):Int):=fun b hb=>by rw [fU];omega
   refine ⟨by omega,by omega,by omega,by omega,by omega,by omega,?_⟩
   refine aa (fun hb=> ?_) fun hb=> ?_
   ·refine ⟨by omega,⟨by trivial,by trivial,by trivial,by omega,by omega,?_⟩,by omega⟩
    have:=hwu 0 (by omega)
    rw [Int.natCast_zero,Int.add_zero,Nat.add_zero] at this
    rw [this,wv,if_pos (by rw [show 63-(63-z)=z from by omega];exact hb),fU]
    omega
   ·refine ⟨by omega,⟨by trivial,by trivial,by trivial,by omega,by omega,?_⟩,by omega⟩
    have:=hwu 0 (by omega)
    rw [Int.natCast_zero,Int.add_zero,Nat.add_zero] at this
    rw [this,wv,if_neg (by rw [show 63-(63-z)=z from by omega];unfold gb aJ;rw [hb];decide)]
    omega
  ·simp only [aT] at h4
   have hz:z'= -1:=by omega
   subst hz
   refine ⟨by omega,by omega,by omega,⟨by trivial,by omega,by omega,?_⟩,by omega⟩
   rw [bz,ht,ax,Nat.mul_one];rfl
 ·simp only [aT] at h
  have hi:i=25:=by omega
  subst hi
  rw [ht,w8,ak]
theorem acn:(base.with Va).Ok:=ac Zx (ai ad5 Zx Tryz.func196 (by kernel_rfl) Tryz.call196 (by kernel_rfl) amB)
theorem aka:adj:=by
 delta adj iR aQ cy iK
 intro s hs hw
 refine ⟨hw,⟨⟨by omega,by omega,rfl⟩,trivial⟩,?_⟩
 rintro n _ _ t _ _ _ ⟨h0,h1,ht⟩
 obtain ⟨i,rfl⟩:=aB h0
 rw [ax] at ht
 refine aa (fun h=> ?_) fun h=> ?_
 ·simp only [aK] at h
  refine ⟨trivial,by omega,⟨by omega,by omega,?_⟩,by omega⟩
  rw [bz,ht];rfl
 ·simp only [aT] at h
  have hi:i=24:=by omega
  subst hi
  exact ⟨trivial,by rw [ht,jP,ak]⟩
theorem adM:(base.with VL).Ok:=ac acn (ai abo acn Tryz.func156 (by kernel_rfl) Tryz.call156 (by kernel_rfl) aka)
abbrev rb:Pat:= .rd [.int .u8]
abbrev aI:Pat:= .rd [.int .u64]
abbrev ob:BPat:= .own 5 [.int .u8]
abbrev ow:BPat:= .own 73 [.int .u64]
def ae (n:Int):List CD:= [.int n]
def rv (l:LD) (i:Nat):Int:=((l.getD i []).getD 0 .d0).toInt
def cE (l:LD):Prop:=∀ i,al (rv l i)
def ar (l:LD):Prop:=∀ i,0≤rv l i∧rv l i<256
def wb (w:Int) (k:Nat):Int:=w / 256 ^ k%256
def jO (w:Int):Nat→List Int
 | 0=> []
 | n+1=>jO w n++ [wb w n]
def b9 (f:Nat→Int):Nat→List Int
 | 0=> []
 | n+1=>b9 f n++jO (f n) 8
def c7 (s:List Int):List Int:=hid (b9 (fun i=>s.getD i 0) 25)
theorem oB (s:List Int):c7 s=b9 (fun i=>s.getD i 0) 25:=ak _
def ba (l:LD):Nat→List Int
 | 0=>List.replicate ((l.length+7) / 8) 0
 | i+1=>(ba l i).set (i / 8) (iE .u64 ((ba l i).getD (i / 8) 0) (de .u64 (IntKind.u64.wrap (rv l i)) ((8*(i%8):Nat):Int)))
def i4 (l:LD):Nat→List Int
 | 0=>List.replicate 25 0
 | n+1=>(i4 l n).set ((l.length-1-n) / 8) (IntKind.u64.wrap (IntKind.u64.wrap ((i4 l n).getD ((l.length-1-n) / 8) 0*256)+IntKind.u64.wrap (rv l (l.length-1-n))))
def wd (f:Nat→Int):Nat→Int
 | 0=>0
 | n+1=>wd f n+f n*256 ^ n
def xg (l:LD):List Int:=(List.range 25).map fun j=>wd (fun k=>rv l (8*j+k)) 8
def U4:List Int:=hid (List.replicate 25 0)
theorem aa9:U4=List.replicate 25 0:=ak _
def am8:Ct:= {ps:= [rb],bs:= [],pre:=fun | [.r l] =>l.length≤1000∧ar l | _=>False,res:=fun | [.r l] => .ret (.own 0) [ow] [.r ((ba l l.length).map ae)] | _=>ag}
def ZU:List Dat→Ann
 | [.r l] =>⟨[],[(3,[la 33 [(3,.own 0),(11,rb),(12,i64),(13,i64)] [ow] (fun | [.r l',.i n,.i i,.r w] =>l'=l∧n=l.length∧0≤i∧i≤n∧w=(ba l i.toNat).map ae | _=>False) (fun | [_,.i n,.i i,_] =>(n-i).toNat | _=>0)])],[]⟩
 | _=> {cut:= [],loop:= []}
def ahK:Ct:= {ps:= [aI],bs:= [],pre:=fun | [.r l] =>l.length≤1000∧cE l | _=>False,res:=fun | [.r l] => .ret (.own 0) [ob] [.r ((b9 (rv l) l.length).map ae)] | _=>ag}
def MG:List (Nat×Pat):= [(3,.own 0),(6,aI),(7,i64),(8,i64)]
def Yw:List Dat→Ann
 | [.r l] =>⟨[],[(3,[la 24 MG [ob] (fun | [.r l',.i n,.i i,.r o] =>l'=l∧n=l.length∧0≤i∧i≤n∧o=(b9 (rv l) i.toNat).map ae | _=>False) (fun | [_,.i n,.i i,_] =>(n-i).toNat | _=>0)])],
  [(6,[la 24 (MG++ [(5,u64),(12,i64)]) [ob] ma js],fun | [.i x0,.r l0,.i n0,.i i0,.i _,.r o0] => [la 24 (MG++ [(5,u64),(12,i64)]) [ob]
   (fun | [.i x,.r l',.i n,.i i,.i k,.r o] =>l'=l0∧n=n0∧i=i0∧0≤k∧k≤8∧x=x0 / 256 ^ k.toNat∧o=o0++(jO x0 k.toNat).map ae | _=>False) (fun | [_,_,_,_,.i k,_] =>(8-k).toNat | _=>0)] | _=> [])]⟩
 | _=> {cut:= [],loop:= []}
def amX:Ct:= {ps:= [rb],bs:= [],pre:=fun | [.r l] =>ar l | _=>False,res:=fun | [.r l] => .ite (decide (l.length≠200)) (.ret (.tup [st,i64]) [] [.li U4,.i 1]) (.ret (.tup [st,i64]) [] [.li (ba l 200),.i 0]) | _=>ag}
def ako:Ct:= {ps:= [st],bs:= [],pre:=fun | [.li s] =>aq s | _=>False,res:=fun | [.li s] => .ret (.agg [.arrI 200 .u8]) [] [.li (c7 s)] | _=>ag}
def ahy:Ct:= {ps:= [rb],bs:= [],pre:=fun | [.r l] =>l.length≤200∧ar l | _=>False,res:=fun | [.r l] => .ret st [] [.li (i4 l l.length)] | _=>ag}
def aaT:List Dat→Ann
 | [.r l] =>⟨[],[(3,[la 28 [(0,rb),(2,.ptr 0 0),(3,.ptr 1 0),(4,i64)] [pX,pX] (fun | [.r l',.i i,.li _,.li w] =>l'=l∧-1≤i∧i<l.length∧w=i4 l (l.length-1-i).toNat | _=>False) (fun | [_,.i i,_,_] =>(i+1).toNat | _=>0)])],[]⟩
 | _=> {cut:= [],loop:= []}
def aio:Ct:= {ps:= [st],bs:= [],pre:=fun | [.li s] =>aq s | _=>False,res:=fun | [.li s] => .ret (.own 0) [ob] [.r ((c7 s).map ae)] | _=>ag}
def NP:List (Nat×Pat):= [(1,.ptr 0 0),(3,.own 1),(4,i64)]
def acY:List Dat→Ann
 | [.li s] =>⟨[],[(3,[la 28 NP [pX,ob] (fun | [.i i,.li s',.r o] =>s'=s∧0≤i∧i≤25∧o=(b9 (fun i=>s.getD i 0) i.toNat).map ae | _=>False) (fun | [.i i,_,_] =>(25-i).toNat | _=>0)])],
  [(7,[la 28 (NP++ [(5,u64),(6,i64)]) [pX,ob] ma js],fun | [.i i0,.i x0,.i _,.li s0,.r o0] => [la 28 (NP++ [(5,u64),(6,i64)]) [pX,ob]
   (fun | [.i i,.i x,.i k,.li s,.r o] =>i=i0∧s=s0∧0≤k∧k≤8∧x=x0 / 256 ^ k.toNat∧o=o0++(jO x0 k.toNat).map ae | _=>False) (fun | [_,_,.i k,_,_] =>(8-k).toNat | _=>0)] | _=> [])]⟩
 | _=> {cut:= [],loop:= []}
abbrev wj (a:LD):Int:=
 (↑a.length+7) / 8
abbrev lW (a:Int)(b:LD):Int:=
 ((b.getD a.toNat []).getD 0 (.int 0)).toInt
def aa8:Prop:=
 ∀ (a:LD),
 lM a→
 a.length≤1000∧ar a→
 lM a→
 iR ((↑a.length:Int)+7)∧
 (0≤(↑a.length:Int)+7∧(0:Int)<(8:Int)∧(↑a.length:Int)+7≤IntKind.i64.max)∧
 (0≤wj a∧
 wj a≤wj a∧
 (↑(8:Nat):Int)*wj a≤140737488355328∧
 wj a≤9223372036854775807)∧
 (lM a→
 ((a=a∧
 (↑a.length:Int)=(↑a.length:Int)∧
 (0:Int)≤0∧
 0≤(↑a.length:Int)∧
 List.replicate (wj a).toNat [.int 0] =
 List.map ae (ba a 0))∧
 True)∧
 ∀ (b:LD) (c d:Int) (e:LD),
 lM b→
 lM e→
 b=a∧
 c=(↑a.length:Int)∧
 0≤d∧d≤c∧e=List.map ae (ba a d.toNat)→
 bif decide (d<c) then
 bR d b∧
 d.toNat<b.length∧
 (0≤d∧(0:Int)<(8:Int)∧d≤IntKind.i64.max)∧
 bR (d / 8) e∧
 (d / 8).toNat<e.length∧
 (0≤d∧(0:Int)<(8:Int))∧
 iR ((8:Int)*(d%(8:Int)))∧
 (0:Int)≤8*(d%(8:Int))∧
 bR (d / 8) e∧
 (d / 8).toNat<e.length∧
 iR (d+1)∧
 (b=a∧
 c=(↑a.length:Int)∧
 0≤d+1∧
 d+1≤c∧
 e.set (d / 8).toNat
 ((e.getD (d / 8).toNat []).set 0
 (.int
 (iE .u64 ((e.getD (d / 8).toNat []).getD 0 (.int 0)).toInt
 (de .u64 (IntKind.u64.wrap (lW d b))
 ((8:Int)*(d%(8:Int)))))))=
 List.map ae (ba a (d+1).toNat))∧
 (c-(d+1)).toNat<(c-d).toNat
 else e=List.map ae (ba a a.length))
def Wv:af:=aj VL 145 (ap am8)
def ae7:Prop:=
 ∀ (a:LD),
 lM a→
 a.length≤1000∧cE a→
 lM a→
 ((a=a∧
 (↑a.length:Int)=(↑a.length:Int)∧
 (0:Int)≤0∧
 0≤(↑a.length:Int)∧
 [] =List.map ae (b9 (rv a) 0))∧
 True)∧
 ∀ (b:LD) (c d:Int) (e:LD),
 lM b→
 lM e→
 b=a∧
 c=(↑a.length:Int)∧
 0≤d∧
 d≤c∧
 e=List.map ae (b9 (rv a) d.toNat)→
 bif decide (d<c) then
 bR d b∧
 d.toNat<b.length∧
 ((b=b∧
 c=c∧
 d=d∧
 (0:Int)≤0∧
 (0:Int)≤8∧
 lW d b=lW d b / 256 ^ 0∧
 e=
 e++
 List.map ae
 (jO (lW d b) 0))∧
 True)∧
 ∀ (f:Int) (g:LD) (h i j:Int) (k:LD),
 lM g→
 lM k→
 g=b∧
 h=c∧
 i=d∧
 0≤j∧
 j≤8∧
 f=lW d b / 256 ^ j.toNat∧
 k=
 e++
 List.map ae
 (jO (lW d b) j.toNat)→
 bif decide (j<(8:Int)) then
 aR (k.length+1) 1∧
 (0:Int)≤8∧
 iR (j+1)∧
 (g=b∧
 h=c∧
 i=d∧
 0≤j+1∧
 j+1≤8∧
 aW .u64 f 8=lW d b / 256 ^ (j+1).toNat∧
 k++ [[.int (IntKind.u8.wrap f)]] =
 e++
 List.map ae
 (jO (lW d b) (j+1).toNat))∧
 ((8:Int)-(j+1)).toNat<((8:Int)-j).toNat
 else
 iR (i+1)∧
 (g=a∧
 h=(↑a.length:Int)∧
 0≤i+1∧
 i+1≤h∧
 k=
 List.map ae
 (b9 (rv a) (i+1).toNat))∧
 (h-(i+1)).toNat<(c-d).toNat
 else e=List.map ae (b9 (rv a) a.length)
def WI:af:=aj Wv 102 (ap ahK)
abbrev B6:List Int:=
 [0,0,0,0,0,0,0,0,0,0,0,0,0,0,0,0,
 (0:Int),0,0,0,0,0,0,0,0]
abbrev Nu (a:LD):List Int:=
 List.map (fun b=>(b.getD 0 (.int 0)).toInt)
 (List.take 25 (List.drop 0 (List.map ae (ba a a.length))))
def afd:Prop:=
 ∀ (a:LD),
 lM a→
 ar a→
 lM a→
 bif decide ((↑a.length:Int)≠200) then
 bif decide (a.length≠200) then B6=U4∧(1:Int)=1
 else B6=ba a 200∧(1:Int)=0
 else
 (a.length≤1000∧ar a)∧
 25≤(List.map ae (ba a a.length)).length∧
 25≤(List.map ae (ba a a.length)).length∧
 bif decide (a.length≠200) then Nu a=U4∧(0:Int)=1
 else Nu a=ba a 200∧(0:Int)=0
def SQ:af:=aj WI 296 (ap amX)
abbrev vf (a:List Int):LD:=
 List.map (fun b=> [.int b]) (List.take 25 (List.drop 0 a))
abbrev N8 (a:List Int):Prop:=
 200≤
 (List.map ae
 (b9 (rv (vf a))
 (vf a).length)).length
def acZ:Prop:=
 ∀ (a:List Int),
 a.length=25→
 aq a→
 ((0:Int)≤0∧0≤(↑(25:Nat):Int)∧(↑(25:Nat):Int)≤(↑(25:Nat):Int)∧(0:Int)<(↑(25:Nat):Int))∧
 ((vf a).length≤1000∧cE (vf a))∧
 N8 a∧
 N8 a∧
 List.map (fun b=>(b.getD 0 (.int 0)).toInt)
 (List.take 200
 (List.drop 0
 (List.map ae
 (b9 (rv (vf a))
 (vf a).length))))=
 c7 a
def Um:af:=aj SQ 148 (ap ako)
abbrev sM (a:LD):Int:=
 ↑a.length-(1:Int)
def Y7:Prop:=
 ∀ (a:LD),
 lM a→
 a.length≤200∧ar a→
 lM a→
 iR (sM a)∧
 ((a=a∧
 (-1:Int)≤sM a∧
 sM a<↑a.length∧
 B6=
 i4 a (sM a-sM a).toNat)∧
 True)∧
 ∀ (b:LD) (c:Int) (d e:List Int),
 lM b→
 d.length=25→
 e.length=25→
 b=a∧(-1:Int)≤c∧c<↑a.length∧e=i4 a (sM a-c).toNat→
 bif decide (0≤c) then
 (0≤c∧(0:Int)<(8:Int)∧c≤IntKind.i64.max)∧
 (0≤c∧(0:Int)<(8:Int)∧c≤IntKind.i64.max)∧
 (0≤c / 8∧c / 8<(↑(25:Nat):Int))∧
 (c / 8).toNat*1<(25:Nat)∧
 bR c b∧
 c.toNat<b.length∧
 (0≤c / 8∧c / 8<(↑(25:Nat):Int))∧
 (c / 8).toNat*1<(25:Nat)∧
 iR (c-(1:Int))∧
 (b=a∧
 (-1:Int)≤c-(1:Int)∧
 c-(1:Int)<↑a.length∧
 e.set ((c / 8).toNat*1)
 (IntKind.u64.wrap
 (IntKind.u64.wrap (e.getD ((c / 8).toNat*1) 0*256)+
 IntKind.u64.wrap (lW c b)))=
 i4 a (sM a-(c-(1:Int))).toNat)∧
 (c-(1:Int)+1).toNat<(c+1).toNat
 else e=i4 a a.length
def Wb:af:=aj Um 157 (ap ahy)
abbrev th (a:Int)(b:List Int):Int:=
 b.getD (a.toNat*1) 0
def aar:Prop:=
 ∀ (a:List Int),
 a.length=25→
 aq a→
 ((a=a∧
 (0:Int)≤0∧
 (0:Int)≤25∧ [] =List.map ae (b9 (fun b=>a.getD b 0) 0))∧
 True)∧
 ∀ (b:Int) (c:List Int) (d:LD),
 c.length=25→
 lM d→
 c=a∧
 0≤b∧
 b≤25∧d=List.map ae (b9 (fun e=>a.getD e 0) b.toNat)→
 bif decide (b<(25:Int)) then
 (0≤b∧b<(↑(25:Nat):Int))∧
 b.toNat*1<(25:Nat)∧
 ((b=b∧
 c=c∧
 (0:Int)≤0∧
 (0:Int)≤8∧
 th b c=th b c / 256 ^ (0:Nat)∧
 d=
 d++
 List.map ae
 (jO (th b c) 0))∧
 True)∧
 ∀ (e f g:Int) (h:List Int) (i:LD),
 h.length=25→
 lM i→
 e=b∧
 h=c∧
 0≤g∧
 g≤8∧
 f=th b c / 256 ^ g.toNat∧
 i=
 d++
 List.map ae
 (jO (th b c) g.toNat)→
 bif decide (g<(8:Int)) then
 (0≤f∧(0:Int)<(256:Int))∧
 aR (i.length+1) 1∧
 (0≤f∧(0:Int)<(256:Int)∧f≤IntKind.u64.max)∧
 iR (g+1)∧
 (e=b∧
 h=c∧
 0≤g+1∧
 g+1≤8∧
 f / 256=th b c / 256 ^ (g+1).toNat∧
 i++ [[.int (IntKind.u8.wrap (f%(256:Int)))]] =
 d++
 List.map ae
 (jO (th b c) (g+1).toNat))∧
 ((8:Int)-(g+1)).toNat<((8:Int)-g).toNat
 else
 iR (e+1)∧
 (h=a∧
 0≤e+1∧
 e+1≤25∧
 i=
 List.map ae
 (b9 (fun j=>a.getD j 0) (e+1).toNat))∧
 ((25:Int)-(e+1)).toNat<((25:Int)-b).toNat
 else d=List.map ae (c7 a)
def Tu:af:=aj Wb 155 (ap aio)
theorem u7 {L:List Int} {i:Nat} (h:i<L.length):(L.map ae).getD i [] = [.int (L.getD i 0)] :=by
 rw [aw,eW,aw,cJ h];rfl
theorem b7 (L:List Int) (i:Nat):rv (L.map ae) i=L.getD i 0:=by
 unfold rv
 rcases Nat.lt_or_ge i L.length with h | h
 ·rw [u7 h];rfl
 ·have e1:(L.map ae).getD i [] = [] :=by rw [aw,eW,fW h];rfl
  have e2:L.getD i 0=0:=by rw [aw,fW h];rfl
  rw [e1,e2];rfl
theorem Hp (L:List Int) (i:Nat) (x:Int):(L.map ae).set i [.int x] =(L.set i x).map ae:=by
 rw [List.map_set];rfl
theorem FT (L:List Int):(L.map ae).map (fun r=>(r.getD 0 (CD.int 0)).toInt)=L:=by
 rw [List.map_map]
 have:((fun r:List CD=>(r.getD 0 (CD.int 0)).toInt) ∘ ae)=id:=by funext x;rfl
 rw [this,List.map_id]
theorem qg {L:List Int} {n:Nat} (h:L.length=n):List.map (fun r=>(r.getD 0 (CD.int 0)).toInt) (List.take n (List.drop 0 (L.map ae)))=L:=by
 rw [List.drop_zero,List.take_of_length_le (by simp [h]),FT]
theorem fy (l:LD):∀ n,(ba l n).length=(l.length+7) / 8
 | 0=>by rw [ba,List.length_replicate]
 | n+1=>by rw [ba,dc,fy l n]
theorem H1 (l:LD):∀ n,(i4 l n).length=25
 | 0=>by rw [i4,List.length_replicate]
 | n+1=>by rw [i4,dc,H1 l n]
theorem pL (w:Int):∀ n,(jO w n).length=n
 | 0=>rfl
 | n+1=>by rw [jO,cx,pL w n];rfl
theorem iW (f:Nat→Int):∀ n,(b9 f n).length=8*n
 | 0=>rfl
 | n+1=>by rw [b9,cx,iW f n,pL];omega
theorem EA (n:Nat) (v:Int):v / 256 ^ n / 256=v / 256 ^ (n+1):=by
 rw [Int.pow_succ,Int.ediv_ediv_of_nonneg (Int.le_of_lt (Int.pow_pos (by decide)))]
theorem Bh (n:Int):IntKind.u8.wrap n=n%256:=by
 simp [IntKind.wrap,IntKind.signed,IntKind.bits]
theorem arh (x:Int):aW .u64 x 8=x / 256:=by
 unfold aW
 rw [show (2:Int) ^ min (8:Int).toNat (IntKind.bits .u64)=256 from by decide,Int.fdiv_eq_ediv_of_nonneg _ (by decide)]
theorem X5 {v:Int} (h:0≤v) (n:Nat):0≤v / 256 ^ n∧v / 256 ^ n≤v:=
 ⟨Int.ediv_nonneg h (Int.le_of_lt (Int.pow_pos (by decide))),Int.ediv_le_self _ h⟩
theorem dh (l:LD) (i:Nat):((l.getD i []).getD 0 (CD.int 0)).toInt=rv l i:=rfl
theorem CU:IntKind.max .i64=9223372036854775807:=by decide
theorem adx:IntKind.max .u64=18446744073709551615:=by decide
theorem akb:aa8:=by
 delta aa8 lM iR bR wj lW
 rintro l _ ⟨hl,hb⟩ _
 have e0:(((l.length:Int)+7) / 8).toNat=(l.length+7) / 8:=by omega
 rw [CU,e0]
 refine ⟨by omega,by omega,by omega,fun _=>⟨⟨⟨rfl,rfl,by omega,by omega,?_⟩,trivial⟩,?_⟩⟩
 ·rw [ba,List.map_replicate];rfl
 rintro l1 n i' w _ _ ⟨rfl,rfl,h0,h1,hw⟩
 obtain ⟨i,rfl⟩:=aB h0
 rw [ax] at hw
 have hwl:w.length=(l1.length+7) / 8:=by rw [hw,bA,fy]
 refine aa (fun h=> ?_) fun h=> ?_
 ·simp only [aK] at h
  have e1:((i:Int) / 8).toNat=i / 8:=by omega
  simp only [ax,e1,bz]
  have hi:i / 8<(ba l1 i).length:=by rw [fy];omega
  refine ⟨by omega,by omega,by omega,by omega,by omega,by omega,by omega,by omega,by omega,by omega,by omega,⟨by trivial,by trivial,by omega,by omega,?_⟩,by omega⟩
  rw [hw,u7 hi]
  show ((ba l1 i).map ae).set (i / 8) [CD.int _] =_
  rw [Hp,ba]
  have e2:(8:Int)*((i:Int)%8)=((8*(i%8):Nat):Int):=by omega
  rw [e2];rfl
 ·simp only [aT] at h
  have hi:i=l1.length:=by omega
  subst hi
  exact hw
theorem adJ:(base.with Wv).Ok:=ac adM (ai ZU adM Tryz.func145 (by kernel_rfl) Tryz.call145 (by kernel_rfl) akb)
theorem amr:ae7:=by
 delta ae7 lM iR aR bR lW
 rintro l _ ⟨hl,hb⟩ _
 refine ⟨⟨⟨rfl,rfl,by omega,by omega,rfl⟩,trivial⟩,?_⟩
 rintro l1 n i' o _ _ ⟨rfl,rfl,h0,h1,ho⟩
 obtain ⟨i,rfl⟩:=aB h0
 simp only [ax] at ho ⊢
 rw [dh]
 have hol:o.length=8*i:=by rw [ho,bA,iW]
 have hx:=hb i
 generalize hX:rv l1 i=X at *
 refine aa (fun h=> ?_) fun h=> ?_
 ·simp only [aK] at h
  refine ⟨by omega,by omega,⟨⟨by trivial,by trivial,by trivial,by omega,by omega,(Int.ediv_one _).symm,by rw [jO];simp⟩,trivial⟩,?_⟩
  rintro x l2 n i' k' o2 _ _ ⟨rfl,rfl,rfl,h2,h3,rfl,ho2⟩
  obtain ⟨k,rfl⟩:=aB h2
  simp only [ax] at ho2 ⊢
  have ho2l:o2.length=8*i+k:=by rw [ho2,cx,bA,pL,hol]
  refine aa (fun h4=> ?_) fun h4=> ?_
  ·simp only [aK] at h4
   rw [bz]
   refine ⟨by omega,by omega,by omega,⟨by trivial,by trivial,by trivial,by omega,by omega,by rw [arh,EA],?_⟩,by omega⟩
   rw [ho2,jO,List.map_append,← dO,Bh];rfl
  ·simp only [aT] at h4
   have hk:k=8:=by omega
   subst hk
   refine ⟨by omega,⟨by trivial,by trivial,by omega,by omega,?_⟩,by omega⟩
   rw [bz,b9,List.map_append,ho2,ho,hX]
 ·simp only [aT] at h
  have hi:i=l1.length:=by omega
  subst hi
  exact ho
theorem abZ:(base.with WI).Ok:=ac adJ (ai Yw adJ Tryz.func102 (by kernel_rfl) Tryz.call102 (by kernel_rfl) amr)
theorem ajN:afd:=by
 delta afd lM B6 Nu
 rintro l _ hb _
 refine aa (fun h=> ?_) fun h=> ?_
 ·simp only [aK] at h
  refine aa (fun _=>⟨aa9.symm,rfl⟩) fun h2=> ?_
  simp only [aT] at h2
  omega
 ·simp only [aT] at h
  have hl:l.length=200:=by omega
  have hw:(ba l l.length).length=25:=by rw [fy,hl]
  refine ⟨⟨by omega,hb⟩,by rw [bA];omega,by rw [bA];omega,?_⟩
  rw [qg hw]
  refine aa (fun h2=> ?_) fun _=>⟨by rw [hl],rfl⟩
  simp only [aK] at h2
  omega
theorem afi:(base.with SQ).Ok:=ac abZ (ai am abZ Tryz.func296 (by kernel_rfl) Tryz.call296 (by kernel_rfl) ajN)
theorem O7 (s:List Int):rv (List.map (fun x=> [CD.int x]) s)=fun i=>s.getD i 0:=by
 funext i;exact b7 s i
theorem ahI:acZ:=by
 delta acZ vf N8
 rintro s hs hw
 rw [List.drop_zero,List.take_of_length_le (by omega),O7,bA,hs]
 have h8:(b9 (fun i=>s.getD i 0) 25).length=200:=iW _ 25
 refine ⟨by omega,⟨by omega,fun i=> ?_⟩,by rw [bA];omega,by rw [bA];omega,(qg h8).trans (oB s).symm⟩
 rw [O7];exact hw i
theorem acd:(base.with Um).Ok:=ac afi (ai am afi Tryz.func148 (by kernel_rfl) Tryz.call148 (by kernel_rfl) ahI)
theorem ajj:Y7:=by
 delta Y7 lM iR bR lW B6 sM
 rintro l _ ⟨hl,hb⟩ _
 refine ⟨by omega,⟨⟨rfl,by omega,by omega,?_⟩,trivial⟩,?_⟩
 ·rw [show ((l.length:Int)-1-((l.length:Int)-1)).toNat=0 from by omega];rfl
 rintro l1 n _ w _ _ hwl ⟨rfl,h0,h1,hw⟩
 refine aa (fun h=> ?_) fun h=> ?_
 ·simp only [aK] at h
  obtain ⟨i,rfl⟩:=aB h
  have e1:((i:Int) / 8).toNat=i / 8:=by omega
  have e2:((l1.length:Int)-1-(i:Int)).toNat=l1.length-1-i:=by omega
  have e3:((l1.length:Int)-1-((i:Int)-1)).toNat=(l1.length-1-i)+1:=by omega
  rw [e2] at hw
  rw [CU]
  simp only [ax,e1,e3,Nat.mul_one]
  refine ⟨by omega,by omega,by omega,by omega,by omega,by omega,by omega,by omega,by omega,⟨by trivial,by omega,by omega,?_⟩,by omega⟩
  rw [dh,i4,show l1.length-1-(l1.length-1-i)=i from by omega,← hw]
 ·simp only [aT] at h
  have hn:n= -1:=by omega
  subst hn
  rw [hw]
  congr 1
  omega
theorem abE:(base.with Wb).Ok:=ac acd (ai aaT acd Tryz.func157 (by kernel_rfl) Tryz.call157 (by kernel_rfl) ajj)
theorem aij:aar:=by
 delta aar lM iR aR th
 rintro s hs hw
 refine ⟨⟨⟨rfl,by omega,by omega,rfl⟩,trivial⟩,?_⟩
 rintro i' s1 o _ _ ⟨rfl,h0,h1,ho⟩
 obtain ⟨i,rfl⟩:=aB h0
 simp only [ax,Nat.mul_one] at ho ⊢
 have hol:o.length=8*i:=by rw [ho,bA,iW]
 have hx:=hw i
 refine aa (fun h=> ?_) fun h=> ?_
 ·simp only [aK] at h
  generalize hX:s1.getD i 0=X at *
  refine ⟨by omega,by omega,⟨⟨by trivial,by trivial,by omega,by omega,(Int.ediv_one _).symm,by rw [jO];simp⟩,trivial⟩,?_⟩
  rintro i' x k' s2 o2 _ _ ⟨rfl,rfl,h2,h3,rfl,ho2⟩
  obtain ⟨k,rfl⟩:=aB h2
  simp only [ax] at ho2 ⊢
  have ho2l:o2.length=8*i+k:=by rw [ho2,cx,bA,pL,hol]
  have hd:=X5 hx.1 k
  have hx2:=hx.2
  refine aa (fun h4=> ?_) fun h4=> ?_
  ·simp only [aK] at h4
   rw [bz,adx]
   refine ⟨by omega,by omega,by omega,by omega,⟨by trivial,by trivial,by omega,by omega,by rw [EA],?_⟩,by omega⟩
   rw [ho2,jO,List.map_append,← dO,Bh,Int.emod_emod_of_dvd _ (Int.dvd_refl _)];rfl
  ·simp only [aT] at h4
   have hk:k=8:=by omega
   subst hk
   refine ⟨by omega,⟨by trivial,by omega,by omega,?_⟩,by omega⟩
   rw [bz,b9,List.map_append,ho2,ho,hX]
 ·simp only [aT] at h
  have hi:i=25:=by omega
  subst hi
  rw [oB];exact ho
theorem afG:(base.with Tu).Ok:=ac abE (ai acY abE Tryz.func155 (by kernel_rfl) Tryz.call155 (by kernel_rfl) aij)
theorem Ke (l:List Bool) (i k:Nat) (x:Bool) (h:k<l.length):gb (l.set i x) k=if i=k then x else gb l k:=by
 unfold gb
 rw [aw,aw,List.getElem?_set]
 by_cases e:i=k
 ·subst e;simp [h]
 ·simp [e]
theorem pD (f:Nat→Nat) (g:Nat→Bool) (l:List Bool):∀ n,(d6 f g l n).length=l.length
 | 0=>rfl
 | n+1=>by rw [d6,dc,pD f g l n]
theorem pj (f:Nat→Nat→Nat) (g:Nat→Nat→Bool) (m:Nat) (l:List Bool):∀ n,(dp f g m l n).length=l.length
 | 0=>rfl
 | n+1=>by rw [dp,pD,pj f g m l n]
theorem sA (f:Nat→Nat→Nat→Nat) (g:Nat→Nat→Nat→Bool) (k m:Nat) (l:List Bool):∀ n,(iJ f g k m l n).length=l.length
 | 0=>rfl
 | n+1=>by rw [iJ,pj,sA f g k m l n]
theorem AK {f:Nat→Nat} {b:Nat} (hf:∀ z,f z=b+z) (g:Nat→Bool) (l:List Bool) (k:Nat) (hk:k<l.length):∀ n,gb (d6 f g l n) k=if b≤k∧k<b+n then g (k-b) else gb l k
 | 0=>by rw [if_neg (by omega)];rfl
 | n+1=>by
  rw [d6,Ke _ _ _ _ (by rw [pD];exact hk),AK hf g l k hk n,hf]
  by_cases e:b+n=k
  ·rw [if_pos e,if_pos (by omega),show k-b=n from by omega]
  ·rw [if_neg e]
   by_cases e2:b≤k∧k<b+n
   ·rw [if_pos e2,if_pos (by omega)]
   ·rw [if_neg e2,if_neg (by omega)]
theorem AR {f:Nat→Nat→Nat} {b:Nat} (hf:∀ y z,f y z=b+y*64+z) (g:Nat→Nat→Bool) (l:List Bool) (k:Nat) (hk:k<l.length):∀ n,gb (dp f g 64 l n) k=if b≤k∧k<b+n*64 then g ((k-b) / 64) ((k-b)%64) else gb l k
 | 0=>by rw [if_neg (by omega)];rfl
 | n+1=>by
  rw [dp,AK (hf n) _ _ _ (by rw [pj];exact hk),AR hf g l k hk n]
  by_cases e:b+n*64≤k∧k<b+n*64+64
  ·rw [if_pos e,if_pos (by omega),show (k-b) / 64=n from by omega,show (k-b)%64=k-(b+n*64) from by omega]
  ·rw [if_neg e]
   by_cases e2:b≤k∧k<b+n*64
   ·rw [if_pos e2,if_pos (by omega)]
   ·rw [if_neg e2,if_neg (by omega)]
theorem IY (g:Nat→Nat→Nat→Bool) (l:List Bool) (k:Nat) (hk:k<l.length):∀ n,gb (iJ aJ g 5 64 l n) k=if k<n*320 then g (k / 320) (k%320 / 64) (k%64) else gb l k
 | 0=>by rw [if_neg (by omega)];rfl
 | n+1=>by
  rw [iJ,AR (f:=aJ n) (b:=n*320) (fun y z=>rfl) _ _ _ (by rw [sA];exact hk),IY g l k hk n]
  by_cases e:n*320≤k∧k<n*320+5*64
  ·rw [if_pos e,if_pos (by omega),show k / 320=n from by omega,show k%320 / 64=(k-n*320) / 64 from by omega,show k%64=(k-n*320)%64 from by omega]
  ·rw [if_neg e]
   by_cases e2:k<n*320
   ·rw [if_pos e2,if_pos (by omega)]
   ·rw [if_neg e2,if_neg (by omega)]
theorem lG:zB.length=1600:=List.length_replicate
theorem DZ {x y z:Nat} (hx:x<5) (hy:y<5) (hz:z<64):aJ x y z<1600:=by unfold aJ;omega
theorem GL {a b:List Bool} (ha:a.length=1600) (hb:b.length=1600) (h:∀ x y z,x<5→y<5→z<64→gb a (aJ x y z)=gb b (aJ x y z)):a=b:=by
 apply List.ext_getElem (by rw [ha,hb])
 intro i h1 h2
 have:=h (i / 320) (i%320 / 64) (i%64) (by omega) (by omega) (by omega)
 have e:aJ (i / 320) (i%320 / 64) (i%64)=i:=by unfold aJ;omega
 rw [e] at this
 unfold gb at this
 rw [aw,aw,cJ h1,cJ h2] at this
 simpa using this
theorem Fv {g:Nat→Nat→Nat→Bool} {x y z:Nat} (hx:x<5) (hy:y<5) (hz:z<64):gb (iJ aJ g 5 64 zB 5) (aJ x y z)=g x y z:=by
 have hk:=DZ hx hy hz
 rw [IY g zB _ (by rw [lG];exact hk),if_pos (by omega)]
 have e1:aJ x y z / 320=x:=by unfold aJ;omega
 have e2:aJ x y z%320 / 64=y:=by unfold aJ;omega
 have e3:aJ x y z%64=z:=by unfold aJ;omega
 rw [e1,e2,e3]
theorem kX (s:List Int):(jQ s).length=1600:=by unfold jQ;rw [pj,lG]
theorem dP (s:List Int) {x y z:Nat} (hx:x<5) (hy:y<5) (hz:z<64):gb (jQ s) (aJ x y z)=bt (s.getD (x+5*y) 0) z:=by
 have hk:=DZ hx hy hz
 have gen:∀ n,n≤25→gb (dp (fun i z=>aJ (i%5) (i / 5) z) (fun i z=>bt (s.getD i 0) z) 64 zB n) (aJ x y z)=if x+5*y<n then bt (s.getD (x+5*y) 0) z else gb zB (aJ x y z):=by
  intro n
  induction n with
  | zero=>intro _;rw [if_neg (by omega)];rfl
  | succ n ih=>
   intro hn
   rw [dp,AK (f:=fun z=>aJ (n%5) (n / 5) z) (b:=n%5*320+n / 5*64) (fun z=>rfl) _ _ _ (by rw [pj,lG];exact hk),ih (by omega)]
   by_cases e:n=x+5*y
   ·have e1:n%5*320+n / 5*64=x*320+y*64:=by omega
    rw [e1,if_pos (by unfold aJ;omega),if_pos (by omega),show aJ x y z-(x*320+y*64)=z from by unfold aJ;omega,e]
   ·rw [if_neg (by unfold aJ;omega)]
    by_cases e2:x+5*y<n
    ·rw [if_pos e2,if_pos (by omega)]
    ·rw [if_neg e2,if_neg (by omega)]
 unfold jQ
 rw [gen 25 (Nat.le_refl _),if_pos (by omega)]
theorem kM (a b:Int):al (xr a b):=Kr (BitVec.ofInt 64 a ^^^ BitVec.ofInt 64 b)
theorem bh:al 0:=⟨by omega,by omega⟩
theorem Md (s:List Int) (x:Nat):al (FX s x):=kM _ _
theorem aaY {s:List Int} (hs:aq s) (x z:Nat):bt (FX s x) z=(bt (s.getD x 0) z !=(bt (s.getD (x+5) 0) z !=(bt (s.getD (x+10) 0) z !=(bt (s.getD (x+15) 0) z !=bt (s.getD (x+20) 0) z)))):=by
 unfold FX
 have h0:bt 0 z=false:=by simp [bt]
 rw [oN (kM _ _) (hs _),oN (kM _ _) (hs _),oN (kM _ _) (hs _),oN (kM _ _) (hs _),oN bh (hs _),h0]
 cases bt (s.getD x 0) z <;>cases bt (s.getD (x+5) 0) z <;>cases bt (s.getD (x+10) 0) z <;>cases bt (s.getD (x+15) 0) z <;>cases bt (s.getD (x+20) 0) z <;>rfl
def b2i (b:Bool):Int:=if b=true then 1 else 0
theorem Dr (a:List Bool) (x z n:Nat):gg a x z (n+1)=gg a x z n+b2i (gb a (aJ x n z)):=by
 rw [gg];unfold b2i;split <;>simp
theorem ar1 (a:List Bool) (x z:Nat):decide (gg a x z 5%2=1)=(gb a (aJ x 0 z) !=(gb a (aJ x 1 z) !=(gb a (aJ x 2 z) !=(gb a (aJ x 3 z) !=gb a (aJ x 4 z))))):=by
 rw [Dr,Dr,Dr,Dr,Dr,show gg a x z 0=0 from rfl]
 generalize gb a (aJ x 0 z)=b0
 generalize gb a (aJ x 1 z)=b1
 generalize gb a (aJ x 2 z)=b2
 generalize gb a (aJ x 3 z)=b3
 generalize gb a (aJ x 4 z)=b4
 revert b0 b1 b2 b3 b4
 decide
theorem LT {s:List Int} (hs:aq s) {x z:Nat} (hx:x<5) (hz:z<64):gb (AU (jQ s)) (x*64+z)=bt (FX s x) z:=by
 unfold AU
 rw [AR (b:=0) (fun y z=>by omega) _ _ _ (by rw [List.length_replicate];omega),if_pos (by omega),Nat.sub_zero,show (x*64+z) / 64=x from by omega,show (x*64+z)%64=z from by omega,ar1,
  dP _ hx (by omega) hz,dP _ hx (by omega) hz,dP _ hx (by omega) hz,dP _ hx (by omega) hz,dP _ hx (by omega) hz,aaY hs]
 rfl
theorem ur {f:Nat→Int} {j:Nat} (h:j<25):((List.range 25).map f).getD j 0=f j:=by
 rw [aw,eW,List.getElem?_range h];rfl
theorem Ml {s:List Int} (h:s.length=25):aq (fR s):=fun j=>by
 rw [Ay h]
 rcases Nat.lt_or_ge j 25 with hj | hj
 ·rw [ur hj];exact kM _ _
 ·rw [aw,fW (by simpa using hj)];exact bh
theorem RE {s:List Int} (h:s.length=25) (hs:aq s):pF (jQ s)=jQ (fR s):=by
 refine GL (by unfold pF;rw [sA,lG]) (kX _) fun x y z hx hy hz=> ?_
 unfold pF
 rw [Fv hx hy hz,dP _ hx hy hz]
 unfold sk
 rw [LT hs (by omega) hz,LT hs (by omega) (by omega),dP _ hx hy hz,Ay h,ur (by omega),oN (hs _) (kM _ _),oN (Md _ _) (LL _ _)]
 have:=Pd (Md s (((x+5*y)%5+1)%5)) (s:=1) (by omega) hz
 rw [show ((1:Nat):Int)=1 from rfl] at this
 rw [this,show (x+5*y)%5=x from by omega]
theorem FP {t l:List Bool} {i k:Nat} (hl:l.length=64) (hi:i+64≤t.length):gb (y5 t l i) k=if i≤k∧k<i+64 then gb l (k-i) else gb t k:=by
 unfold gb y5
 rw [aw,dO]
 have hti:(t.take i).length=i:=by rw [List.length_take];omega
 rcases Nat.lt_or_ge k i with h | h
 ·rw [if_neg (by omega),List.getElem?_append_left (by omega),List.getElem?_take_of_lt h,aw]
 ·rw [List.getElem?_append_right (by omega),hti]
  rcases Nat.lt_or_ge (k-i) 64 with h2 | h2
  ·rw [if_pos (by omega),List.getElem?_append_left (by omega),aw]
  ·rw [if_neg (by omega),List.getElem?_append_right (by omega),hl,List.getElem?_drop,aw,show i+64+(k-i-64)=k from by omega]
theorem F0 {t l:List Bool} {i:Nat} (hl:l.length=64) (hi:i+64≤t.length):(y5 t l i).length=t.length:=by
 unfold y5
 simp only [cx,List.length_take,cj,hl]
 omega
theorem vq {a:List Bool} {i:Nat} (h:i+64≤a.length):(Fg a i).length=64:=by
 unfold Fg
 rw [List.length_take,cj];omega
theorem Hu {a:List Bool} {i z:Nat} (hz:z<64):gb (Fg a i) z=gb a (i+z):=by
 unfold gb Fg
 rw [aw,List.getElem?_take_of_lt hz,List.getElem?_drop,aw]
theorem zE {a:List Bool} (ha:a.length=1600) {x:Nat} (hx:x<5) {t:List Bool} (ht:t.length=1600):∀ n,n≤5→(Ae a x t n).length=1600
 | 0,_=>ht
 | n+1,hn=>by
  rw [Ae,F0 (vq (by omega)) (by rw [zE ha hx ht n (by omega)];omega),zE ha hx ht n (by omega)]
theorem L9 {a:List Bool} (ha:a.length=1600) {x:Nat} (hx:x<5) {t:List Bool} (ht:t.length=1600) {X Y z:Nat} (hX:X<5) (hY:Y<5) (hz:z<64):∀ n,n≤5→
  gb (Ae a x t n) (aJ X Y z)=if X<n∧(2*x+3*X)%5=Y then gb a (aJ x X z) else gb t (aJ X Y z)
 | 0,_=>by rw [if_neg (by omega)];rfl
 | n+1,hn=>by
  have hl:=zE ha hx ht n (by omega)
  rw [Ae,FP (vq (by omega)) (by rw [hl];omega),L9 ha hx ht hX hY hz n (by omega)]
  by_cases e:n=X∧(2*x+3*n)%5=Y
  ·obtain ⟨e1,e2⟩:=e
   subst e1
   rw [if_pos (by unfold aJ;omega),if_pos ⟨by omega,e2⟩,Hu (by unfold aJ;omega)]
   congr 1
   unfold aJ;omega
  ·rw [if_neg (by unfold aJ;omega)]
   by_cases e2:X<n∧(2*x+3*X)%5=Y
   ·rw [if_pos e2,if_pos (by omega)]
   ·rw [if_neg e2,if_neg (by
     rintro ⟨h1,h2⟩
     have:X=n:=by omega
     subst this
     exact e ⟨rfl,h2⟩)]
theorem Er {a:List Bool} (ha:a.length=1600) {t:List Bool} (ht:t.length=1600):∀ n,n≤5→(DU a t n).length=1600
 | 0,_=>ht
 | n+1,hn=>zE ha (by omega) (Er ha ht n (by omega)) 5 (Nat.le_refl _)
theorem KZ {a:List Bool} (ha:a.length=1600) {t:List Bool} (ht:t.length=1600) {X Y z:Nat} (hX:X<5) (hY:Y<5) (hz:z<64):∀ n,n≤5→
  gb (DU a t n) (aJ X Y z)=if (X+3*Y)%5<n then gb a (aJ ((X+3*Y)%5) X z) else gb t (aJ X Y z)
 | 0,_=>by rw [if_neg (by omega)];rfl
 | n+1,hn=>by
  rw [DU,L9 ha (by omega) (Er ha ht n (by omega)) hX hY hz 5 (Nat.le_refl _),KZ ha ht hX hY hz n (by omega)]
  by_cases e:n=(X+3*Y)%5
  ·rw [if_pos (by omega),if_pos (by omega),← e]
  ·rw [if_neg (by omega)]
   by_cases e2:(X+3*Y)%5<n
   ·rw [if_pos e2,if_pos (by omega)]
   ·rw [if_neg e2,if_neg (by omega)]
def AT (x y:Nat):Nat→Option Nat
 | 0=>none
 | n+1=>if (bB n).1=x∧(bB n).2=y then some n else AT x y n
def D6 (t:Nat):Nat:=(t+1)*(t+2) / 2
theorem xyl (i:Nat):(bB i).1<5∧(bB i).2<5:=by
 induction i with
 | zero=>decide
 | succ i ih=>simp only [bB];omega
theorem XK (a:List Bool) (t:Nat) (l:List Bool) (n:Nat):(Dk a t l n).length=l.length:=pD _ _ _ _
theorem EM {a:List Bool} (ha:a.length=1600):∀ n,(sV a n).length=1600
 | 0=>by rw [sV,F0 (vq (by omega)) (by rw [lG];omega),lG]
 | n+1=>by rw [sV,XK,EM ha n]
theorem K9 {a:List Bool} {t:Nat} {l:List Bool} (hl:l.length=1600) {x y z:Nat} (hx:x<5) (hy:y<5) (hz:z<64):∀ n,n≤64→
  gb (Dk a t l n) (aJ x y z)=if ((bB t).1=x∧(bB t).2=y)∧(z+(64-D6 t%64))%64<n then gb a (aJ x y ((z+(64-D6 t%64))%64)) else gb l (aJ x y z)
 | 0,_=>by rw [if_neg (by omega)];rfl
 | n+1,hn=>by
  have ih:=K9 (a:=a) (t:=t) hl hx hy hz n (by omega)
  have hk:=DZ hx hy hz
  obtain ⟨h1,h2⟩:=xyl t
  unfold Dk at ih ⊢
  rw [d6,Ke _ _ _ _ (by rw [pD,hl];exact hk),ih]
  have hoff:D6 t=(t+1)*(t+2) / 2:=rfl
  rw [← hoff]
  generalize D6 t=o at *
  generalize hX:(bB t).1=X at *
  generalize hY:(bB t).2=Y at *
  by_cases e:X=x∧Y=y
  ·obtain ⟨e1,e2⟩:=e
   subst e1 e2
   by_cases e3:(z+(64-o%64))%64=n
   ·rw [if_pos (by unfold aJ;omega),if_pos ⟨⟨rfl,rfl⟩,by omega⟩,e3]
   ·rw [if_neg (by unfold aJ;omega)]
    by_cases e4:(z+(64-o%64))%64<n
    ·rw [if_pos ⟨⟨rfl,rfl⟩,e4⟩,if_pos ⟨⟨rfl,rfl⟩,by omega⟩]
    ·rw [if_neg (fun h=>e4 h.2),if_neg (fun h=>by have:=h.2;omega)]
  ·rw [if_neg (fun h=>e (by unfold aJ at h;omega)),if_neg (fun h=>e h.1),if_neg (fun h=>e h.1)]
theorem K8 {a:List Bool} (ha:a.length=1600) {x y z:Nat} (hx:x<5) (hy:y<5) (hz:z<64):∀ n,
  gb (sV a n) (aJ x y z)=match AT x y n with | some t=>gb a (aJ x y ((z+(64-D6 t%64))%64)) | none=>gb (sV a 0) (aJ x y z)
 | 0=>rfl
 | n+1=>by
  rw [show sV a (n+1)=Dk a n (sV a n) 64 from rfl,K9 (EM ha n) hx hy hz 64 (Nat.le_refl _),K8 ha hx hy hz n,AT]
  by_cases e:(bB n).1=x∧(bB n).2=y
  ·rw [if_pos ⟨e,by omega⟩,if_pos e]
  ·rw [if_neg (fun h=>e h.1),if_neg e]
theorem IV (s:List Int):∀ n,(sq s n).length=25
 | 0=>by rw [sq];simp
 | n+1=>by rw [sq,dc,IV s n]
theorem RP:∀ x y X Y:Fin 5,y.val+5*((2*x.val+3*y.val)%5)=X.val+5*Y.val↔x.val=(X.val+3*Y.val)%5∧y.val=X.val:=by decide+kernel
theorem akE (s:List Int) (i:Nat):sq s (i+1)=(sq s i).set ((bB i).2+5*((2*(bB i).1+3*(bB i).2)%5)) (ny (s.getD ((bB i).1+5*(bB i).2) 0) (((i+1)*(i+2) / 2:Nat)%64:Nat)):=rfl
theorem II (s:List Int) {X Y:Nat} (hX:X<5) (hY:Y<5):∀ n,
  (sq s n).getD (X+5*Y) 0=match AT ((X+3*Y)%5) X n with | some t=>ny (s.getD ((X+3*Y)%5+5*X) 0) ((D6 t%64:Nat):Int) | none=>(sq s 0).getD (X+5*Y) 0
 | 0=>rfl
 | n+1=>by
  obtain ⟨h1,h2⟩:=xyl n
  rw [akE,dZ _ _ _ _ (by rw [IV];omega),II s hX hY n,AT]
  have hi:=RP ⟨_,h1⟩ ⟨_,h2⟩ ⟨X,hX⟩ ⟨Y,hY⟩
  simp only at hi
  by_cases e:(bB n).1=(X+3*Y)%5∧(bB n).2=X
  ·rw [if_pos e,if_pos (hi.2 e),e.1,e.2];rfl
  ·rw [if_neg e,if_neg (fun h=>e (hi.1 h))]
theorem Ps:∀ X Y:Fin 5,(X.val=0∧Y.val=0∧AT 0 0 24=none)∨(AT ((X.val+3*Y.val)%5) X.val 24).isSome=true:=by decide+kernel
theorem i9 (s:List Int):(iI s).length=25:=IV s 24
theorem ajI {s:List Int} (hs:aq s):HA (gJ (jQ s))=jQ (iI s):=by
 have hl:=EM (kX s) 24
 refine GL (Er hl lG 5 (Nat.le_refl _)) (kX _) fun X Y z hX hY hz=> ?_
 unfold HA gJ
 rw [KZ hl lG hX hY hz 5 (Nat.le_refl _),if_pos (by omega),dP _ hX hY hz]
 unfold iI
 rw [K8 (kX s) (by omega) hX hz,II s hX hY]
 rcases Ps ⟨X,hX⟩ ⟨Y,hY⟩ with h | h
 ·obtain ⟨e1,e2,e3⟩:=h
  simp only at e1 e2
  subst e1 e2
  rw [show (0+3*0)%5=0 from rfl,e3]
  simp only
  rw [sV,FP (vq (by rw [kX];omega)) (by rw [lG];omega),if_pos (by unfold aJ;omega),Hu (by unfold aJ;omega),show 0+(aJ 0 0 z-0)=aJ 0 0 z from by omega,dP _ hX hX hz]
  rfl
 ·simp only at h
  obtain ⟨t,ht⟩:=Option.isSome_iff_exists.1 h
  rw [ht]
  simp only
  rw [dP _ (by omega) hX (by omega),Pd (hs _) (by omega) hz]
theorem X8 {s:List Int} (hs:aq s):aq (iI s):=fun j=>by
 rcases Nat.lt_or_ge j 25 with hj | hj
 ·have:=II s (X:=j%5) (Y:=j / 5) (by omega) (by omega) 24
  rw [show j%5+5*(j / 5)=j from by omega] at this
  unfold iI
  rw [this]
  split
  ·exact LL _ _
  ·rw [sq,dZ _ _ _ _ (by simpa using hj)]
   split
   ·exact hs 0
   ·rw [aw,List.getElem?_replicate]
    split <;>exact bh
 ·rw [aw,fW (by rw [i9];exact hj)];exact bh
theorem L4 {s:List Int} (h:s.length=25):(rY s).length=25:=by rw [xW h];simp
theorem WS {s:List Int} (h:s.length=25):aq (rY s):=fun j=>by
 rw [xW h]
 rcases Nat.lt_or_ge j 25 with hj | hj
 ·rw [ur hj];exact kM _ _
 ·rw [aw,fW (by simpa using hj)];exact bh
theorem aeq {s:List Int} (h:s.length=25) (hs:aq s):yy (jQ s)=jQ (rY s):=by
 refine GL (by unfold yy;rw [sA,lG]) (kX _) fun x y z hx hy hz=> ?_
 unfold yy
 rw [Fv hx hy hz,dP _ hx hy hz]
 unfold sB
 rw [dP _ hx hy hz,dP _ (by omega) hy hz,dP _ (by omega) hy hz,xW h,ur (by omega),oN (hs _) (Nh _ _),QP (hs _) (hs _) hz,
  show x+5*y-(x+5*y)%5+(x+5*y+2)%5=(x+2)%5+5*y from by omega,show x+5*y-(x+5*y)%5+(x+5*y+1)%5=(x+1)%5+5*y from by omega,Bool.and_comm]
theorem A7 (a c:List Bool):∀ n,(rF a c n).length=a.length
 | 0=>rfl
 | n+1=>by rw [rF,dc,A7 a c n]
theorem Bd (a c:List Bool) {k:Nat} (hk:k<a.length):∀ n,gb (rF a c n) k=if k<n then (gb a k !=gb c k) else gb a k
 | 0=>by rw [if_neg (by omega)];rfl
 | n+1=>by
  rw [rF,Ke _ _ _ _ (by rw [A7];exact hk)]
  by_cases e:n=k
  ·subst e
   rw [if_pos rfl,if_pos (by omega),Bd a c hk n,if_neg (by omega)]
  ·rw [if_neg e,Bd a c hk n]
   by_cases e2:k<n
   ·rw [if_pos e2,if_pos (by omega)]
   ·rw [if_neg e2,if_neg (by omega)]
theorem ahE:∀ i:Fin 24,0≤FM.getD i.val 0∧FM.getD i.val 0<18446744073709551616:=by decide+kernel
theorem ZX (r:Int):al (oG r):=by
 unfold oG
 split
 ·exact bh
 ·exact ahE ⟨r.toNat,by omega⟩
theorem Px (w:Int) {z:Nat} (hz:z<64):gb (Gw w) z=bt w z:=by
 unfold gb Gw
 rw [aw,eW,List.getElem?_range hz];rfl
theorem OL {s:List Int} (h:s.length=25) (r:Int):(round s r).length=25:=by
 unfold round
 rw [dc,L4 (i9 _)]
theorem MK {s:List Int} (hs:aq s) {x:Int} (hx:al x) (i:Nat):aq (s.set i x):=fun j=>by
 rcases Nat.lt_or_ge j s.length with hj | hj
 ·rw [dZ _ _ _ _ hj]
  split
  ·exact hx
  ·exact hs j
 ·rw [aw,fW (by rw [dc];exact hj)];exact bh
theorem Xh {s:List Int} (h:s.length=25) (hs:aq s) (r:Int):aq (round s r):=MK (WS (i9 _)) (kM _ _) 0
theorem Rh {s:List Int} (h:s.length=25) (hs:aq s) (r:Int):um (jQ s) r=jQ (round s r):=by
 unfold um round
 rw [RE h hs,ajI (Ml h),aeq (i9 _) (X8 (Ml h)),Sm]
 have hc:=WS (i9 (fR s))
 have hcl:=L4 (i9 (fR s))
 generalize rY (iI (fR s))=c at *
 refine GL (by rw [A7,kX]) (kX _) fun x y z hx hy hz=> ?_
 rw [Bd _ _ (by rw [kX];exact DZ hx hy hz),dP _ hx hy hz,dP _ hx hy hz,dZ _ _ _ _ (by omega)]
 by_cases e:x=0∧y=0
 ·obtain ⟨rfl,rfl⟩:=e
  rw [if_pos (by unfold aJ;omega),if_pos (by omega),oN (hc _) (ZX r),show aJ 0 0 z=z from by unfold aJ;omega,Px _ hz]
 ·rw [if_neg (by unfold aJ;omega),if_neg (by omega)]
theorem Z9 (w:Nat) (c:Bool) (b:Nat):(2*w+(if c=true then 1 else 0)).testBit b=if b=0 then c else w.testBit (b-1):=by
 cases b with
 | zero=>
  rw [if_pos rfl,Nat.testBit_zero]
  cases c
  ·rw [if_neg (by decide)];exact decide_eq_false (by omega)
  ·rw [if_pos rfl];exact decide_eq_true (by omega)
 | succ b=>
  have e:(2*w+(if c=true then 1 else 0)) / 2=w:=by
   cases c
   ·rw [if_neg (by decide)];omega
   ·rw [if_pos rfl];omega
  rw [Nat.testBit_succ,e,if_neg (by omega),Nat.add_sub_cancel]
theorem QO (a:List Bool) (i:Nat):∀ n b,n≤64→b<n→(wv a i n).testBit b=gb a (aJ (i%5) (i / 5) (64-n+b))
 | 0,b,_,h=>by omega
 | n+1,b,hn,hb=>by
  rw [wv,Z9]
  by_cases e:b=0
  ·subst e
   rw [if_pos rfl,show 64-(n+1)+0=63-n from by omega]
  ·rw [if_neg e,QO a i n (b-1) (by omega) (by omega),show 64-n+(b-1)=64-(n+1)+b from by omega]
theorem Rc (a:List Bool) (i:Nat):∀ n,wv a i n<2 ^ n
 | 0=>Nat.one_pos
 | n+1=>by
  have:=Rc a i n
  rw [wv,Nat.pow_succ]
  split <;>omega
theorem DX (a:List Bool):∀ n,(wD a n).length=25
 | 0=>by rw [wD,List.length_replicate]
 | n+1=>by rw [wD,dc,DX a n]
theorem Jd (a:List Bool) {j:Nat} (hj:j<25):∀ n,(wD a n).getD j 0=if j<n then (wv a j 64:Int) else 0
 | 0=>by
  rw [if_neg (by omega),wD,aw,List.getElem?_replicate]
  split <;>rfl
 | n+1=>by
  rw [wD,dZ _ _ _ _ (by rw [DX];exact hj),Jd a hj n]
  by_cases e:n=j
  ·subst e
   rw [if_pos rfl,if_pos (by omega)]
  ·rw [if_neg e]
   by_cases e2:j<n
   ·rw [if_pos e2,if_pos (by omega)]
   ·rw [if_neg e2,if_neg (by omega)]
theorem BT {l m:List Int} (hl:l.length=25) (hm:m.length=25) (h:∀ j,j<25→l.getD j 0=m.getD j 0):l=m:=by
 apply List.ext_getElem (by rw [hl,hm])
 intro i h1 h2
 have:=h i (by omega)
 rw [aw,aw,cJ h1,cJ h2] at this
 simpa using this
theorem X3 (a:List Bool):(w8 a).length=25:=by unfold w8;rw [ak,DX]
theorem ams (a:List Bool):aq (w8 a):=fun j=>by
 unfold w8
 rw [ak]
 rcases Nat.lt_or_ge j 25 with hj | hj
 ·rw [Jd a hj,if_pos hj]
  have:=Rc a j 64
  rw [show (2:Nat) ^ 64=18446744073709551616 from by decide] at this
  exact ⟨by omega,by omega⟩
 ·rw [aw,fW (by rw [DX];exact hj)];exact bh
theorem XW {s:List Int} (h:s.length=25) (hs:aq s):w8 (jQ s)=s:=by
 refine BT (X3 _) h fun j hj=> ?_
 unfold w8
 rw [ak,Jd _ hj,if_pos hj]
 have hw:=hs j
 obtain ⟨n,hn⟩:∃ n:Nat,s.getD j 0=n:=⟨(s.getD j 0).toNat,by have:=hw.1;omega⟩
 rw [hn]
 have hlt:n<2 ^ 64:=by have:=hw.2;rw [show (2:Nat) ^ 64=18446744073709551616 from by decide];omega
 refine congrArg (fun k:Nat=>(k:Int)) ?_
 apply Nat.eq_of_testBit_eq
 intro b
 rcases Nat.lt_or_ge b 64 with hb | hb
 ·rw [QO _ _ _ _ (Nat.le_refl _) hb,Nat.sub_self,Nat.zero_add,dP _ (by omega) (by omega) hb,show j%5+5*(j / 5)=j from by omega,hn]
  rfl
 ·have h1:(2:Nat) ^ 64≤2 ^ b:=Nat.pow_le_pow_right (by decide) hb
  rw [Nat.testBit_lt_two_pow (Nat.lt_of_lt_of_le (Rc _ _ _) h1),Nat.testBit_lt_two_pow (Nat.lt_of_lt_of_le hlt h1)]
theorem vK {s:List Int} (h:s.length=25) (hs:aq s):∀ n,(eP s n).length=25∧aq (eP s n)
 | 0=>⟨h,hs⟩
 | n+1=>by
  obtain ⟨h1,h2⟩:=vK h hs n
  exact ⟨OL h1 _,Xh h1 h2 _⟩
theorem LI {s:List Int} (h:s.length=25) (hs:aq s):∀ n,sr (jQ s) n=jQ (eP s n)
 | 0=>rfl
 | n+1=>by
  obtain ⟨h1,h2⟩:=vK h hs n
  rw [sr,LI h hs n,Rh h1 h2];rfl
theorem Ku {s:List Int} (h:s.length=25) (hs:aq s):jP s=fP s:=by
 obtain ⟨h1,h2⟩:=vK h hs 24
 unfold jP
 rw [ak,LI h hs,XW h1 h2,zL]
theorem EG {s:List Int} (h:s.length=25) (hs:aq s):(fP s).length=25∧aq (fP s):=by
 rw [zL];exact vK h hs 24
theorem XY (s:List Int) (n:Nat):eP s (n+1)=round (eP s n) (n:Int):=by rw [eP]
theorem yt (f:Nat→Int):∀ n,wd f (n+1)=f 0+256*wd (fun k=>f (k+1)) n
 | 0=>by simp [wd]
 | n+1=>by
  rw [wd,yt f n,wd,Int.pow_succ]
  have:f (n+1)*(256 ^ n*256)=256*(f (n+1)*256 ^ n):=by rw [← Int.mul_assoc,Int.mul_comm]
  rw [this]
  omega
theorem zZ {f:Nat→Int} (h:∀ k,0≤f k∧f k<256):∀ n,0≤wd f n∧wd f n<256 ^ n
 | 0=>⟨by simp [wd],by simp [wd]⟩
 | n+1=>by
  obtain ⟨h1,h2⟩:=zZ h n
  obtain ⟨k1,k2⟩:=h n
  have hp:(0:Int)<256 ^ n:=Int.pow_pos (by decide)
  rw [wd,Int.pow_succ]
  constructor
  ·have:=Int.mul_nonneg k1 (Int.le_of_lt hp);omega
  ·have h3:f n*256 ^ n≤255*256 ^ n:=Int.mul_le_mul_of_nonneg_right (by omega) (Int.le_of_lt hp)
   omega
theorem aiQ {f:Nat→Int} (h:∀ k,0≤f k∧f k<256):∀ n k,k<n→wb (wd f n) k=f k
 | 0,k,hk=>by omega
 | n+1,0,_=>by
  have:=h 0
  unfold wb
  rw [yt,Int.pow_zero,Int.ediv_one]
  omega
 | n+1,k+1,hk=>by
  have ih:=aiQ (f:=fun k=>f (k+1)) (fun k=>h (k+1)) n k (by omega)
  have:=h 0
  unfold wb at ih ⊢
  rw [yt,Int.pow_succ,Int.mul_comm (256 ^ k) 256,← Int.ediv_ediv_of_nonneg (by decide),show (f 0+256*wd (fun k=>f (k+1)) n) / 256=wd (fun k=>f (k+1)) n from by omega]
  exact ih
theorem UM:∀ (n:Nat) (w:Int),0≤w→w<256 ^ n→wd (wb w) n=w
 | 0,w,h1,h2=>by rw [Int.pow_zero] at h2;rw [wd];omega
 | n+1,w,h1,h2=>by
  rw [Int.pow_succ] at h2
  have ih:=UM n (w / 256) (by omega) (by omega)
  have e:(fun k=>wb w (k+1))=wb (w / 256):=by
   funext k
   unfold wb
   rw [Int.pow_succ,Int.mul_comm (256 ^ k) 256,← Int.ediv_ediv_of_nonneg (by decide)]
  rw [yt,e,ih]
  unfold wb
  rw [Int.pow_zero,Int.ediv_one]
  omega
theorem Td {f g:Nat→Int} :∀ n,(∀ k,k<n→f k=g k)→wd f n=wd g n
 | 0,_=>rfl
 | n+1,h=>by rw [wd,wd,Td n (fun k hk=>h k (by omega)),h n (by omega)]
theorem I4 (w:Int) (k:Nat):0≤wb w k∧wb w k<256:=by unfold wb;omega
theorem aqe {w:Int} (h:al w):wd (wb w) 8=w:=UM 8 w h.1 (by have:=h.2;rw [show (256:Int) ^ 8=18446744073709551616 from by decide];exact this)
theorem acy {f:Nat→Int} (h:∀ k,0≤f k∧f k<256):al (wd f 8):=by
 have:=zZ h 8
 rw [show (256:Int) ^ 8=18446744073709551616 from by decide] at this
 exact this
theorem Mf (w:Int):∀ n k,k<n→(jO w n).getD k 0=wb w k
 | 0,k,h=>by omega
 | n+1,k,h=>by
  rw [jO,aw]
  rcases Nat.lt_or_ge k n with h2 | h2
  ·rw [List.getElem?_append_left (by rw [pL];exact h2),← aw,Mf w n k h2]
  ·have:k=n:=by omega
   subst this
   rw [List.getElem?_append_right (by rw [pL];exact Nat.le_refl _),pL,Nat.sub_self];rfl
theorem Hr (f:Nat→Int):∀ n p,p<8*n→(b9 f n).getD p 0=wb (f (p / 8)) (p%8)
 | 0,p,h=>by omega
 | n+1,p,h=>by
  rw [b9,aw]
  rcases Nat.lt_or_ge p (8*n) with h2 | h2
  ·rw [List.getElem?_append_left (by rw [iW];exact h2),← aw,Hr f n p h2]
  ·rw [List.getElem?_append_right (by rw [iW];exact h2),iW,← aw,Mf _ _ _ (by omega),show p / 8=n from by omega,show p-8*n=p%8 from by omega]
theorem fH (s:List Int):(c7 s).length=200:=by rw [oB];exact iW _ 25
theorem om (s:List Int) {p:Nat} (hp:p<200):(c7 s).getD p 0=wb (s.getD (p / 8) 0) (p%8):=by rw [oB];exact Hr _ 25 p (by omega)
theorem AB (s:List Int) (p:Nat):0≤(c7 s).getD p 0∧(c7 s).getD p 0<256:=by
 rcases Nat.lt_or_ge p 200 with h | h
 ·rw [om s h];exact I4 _ _
 ·rw [aw,fW (by rw [fH];exact h)];exact ⟨by decide,by decide⟩
theorem Fs (s:List Int):ar ((c7 s).map ae):=fun i=>by rw [b7];exact AB s i
theorem qO (l:LD):(xg l).length=25:=by unfold xg;simp
theorem wu (l:LD) {j:Nat} (h:j<25):(xg l).getD j 0=wd (fun k=>rv l (8*j+k)) 8:=by unfold xg;rw [ur h]
theorem aa5 {l:LD} (h:ar l):aq (xg l):=fun j=>by
 rcases Nat.lt_or_ge j 25 with hj | hj
 ·rw [wu l hj];exact acy fun k=>h _
 ·rw [aw,fW (by rw [qO];exact hj)];exact bh
theorem Ql {s:List Int} (h:s.length=25) (hs:aq s):xg ((c7 s).map ae)=s:=by
 refine BT (qO _) h fun j hj=> ?_
 rw [wu _ hj]
 rw [Td (g:=wb (s.getD j 0)) 8 fun k hk=> ?_]
 ·exact aqe (hs j)
 ·show rv ((c7 s).map ae) (8*j+k)=_
  rw [b7,om s (by omega),show (8*j+k) / 8=j from by omega,show (8*j+k)%8=k from by omega]
theorem df {n:Int} (h:al n):IntKind.u64.wrap n=n:=by rw [fU];have:=h.1;have:=h.2;omega
theorem JQ (k:Nat):(256:Int) ^ k=((2 ^ (8*k):Nat):Int):=by
 rw [Nat.pow_mul,Int.natCast_pow];rfl
theorem Ja {v b:Int} {k:Nat} (hk:k<8) (hv:0≤v∧v<256 ^ k) (hb:0≤b∧b<256):iE .u64 v (de .u64 b ((8*k:Nat):Int))=v+b*256 ^ k:=by
 obtain ⟨m,rfl⟩:=aB hv.1
 obtain ⟨c,rfl⟩:=aB hb.1
 have hm:m<2 ^ (8*k):=by have:=hv.2;rw [JQ] at this;exact Int.ofNat_lt.1 this
 have hc:c<256:=by have:=hb.2;omega
 have hpow:2 ^ (8*k)*256≤2 ^ 64:=by
  rw [show (256:Nat)=2 ^ 8 from by decide,← Nat.pow_add]
  exact Nat.pow_le_pow_right (by decide) (by omega)
 have hlt:m+c*2 ^ (8*k)<18446744073709551616:=by
  have h3:c*2 ^ (8*k)≤255*2 ^ (8*k):=Nat.mul_le_mul_right _ (by omega)
  rw [show (2:Nat) ^ 64=18446744073709551616 from by decide] at hpow
  omega
 rw [GI c (8*k) (by omega),Nat.mod_eq_of_lt (show c*2 ^ (8*k)<18446744073709551616 from by omega),JQ]
 have w1:al (m:Int):=⟨by omega,by omega⟩
 have w2:al ((c*2 ^ (8*k):Nat):Int):=⟨Int.natCast_nonneg _,by
  have h9:c*2 ^ (8*k)<18446744073709551616:=by omega
  omega⟩
 have e1:(BitVec.ofInt 64 (m:Int) |||BitVec.ofInt 64 ((c*2 ^ (8*k):Nat):Int)).toNat=m |||(c*2 ^ (8*k)):=by
  rw [BitVec.toNat_or,uG w1,uG w2,ax,ax]
 show IntKind.u64.wrap ((BitVec.ofInt 64 (m:Int) |||BitVec.ofInt 64 ((c*2 ^ (8*k):Nat):Int)).toNat:Int)=_
 have e2:m |||(c*2 ^ (8*k))=m+c*2 ^ (8*k):=by
  rw [Nat.or_comm,Nat.mul_comm,← Nat.two_pow_add_eq_or_of_lt hm,Nat.add_comm]
 rw [e1,e2,df ⟨Int.natCast_nonneg _,Int.ofNat_lt.2 hlt⟩,Int.natCast_add,Int.natCast_mul]
theorem PF {l:LD} (hl:l.length=200) (hb:ar l):∀ n,n≤200→∀ j,j<25→(ba l n).getD j 0=wd (fun k=>rv l (8*j+k)) (min 8 (n-8*j))
 | 0,_,j,hj=>by
  rw [ba,hl,show min 8 (0-8*j)=0 from by omega,wd,aw,List.getElem?_replicate]
  split <;>rfl
 | n+1,hn,j,hj=>by
  have ih:=PF hl hb n (by omega)
  rw [ba,dZ _ _ _ _ (by rw [fy,hl];omega)]
  by_cases e:n / 8=j
  ·subst e
   have hv:=zZ (f:=fun k=>rv l (8*(n / 8)+k)) (fun k=>hb _) (n%8)
   have hbn:=hb n
   rw [if_pos rfl,ih _ hj,show min 8 (n-8*(n / 8))=n%8 from by omega,show min 8 (n+1-8*(n / 8))=n%8+1 from by omega,df ⟨hbn.1,by omega⟩,Ja (by omega) hv hbn,wd,show 8*(n / 8)+n%8=n from by omega]
  ·rw [if_neg e,ih j hj]
   congr 1
   omega
theorem af7 {l:LD} (hl:l.length=200) (hb:ar l):ba l 200=xg l:=by
 refine BT (by rw [fy,hl]) (qO _) fun j hj=> ?_
 rw [PF hl hb 200 (Nat.le_refl _) j hj,wu _ hj,show min 8 (200-8*j)=8 from by omega]
theorem I0 {f g:Nat→Int} (h:∀ k,f k=g k) (n:Nat):wd f n=wd g n:=by rw [show f=g from funext h]
theorem Oo {l:LD} (hl:l.length=200) (hb:ar l):∀ n,n≤200→∀ j,j<25→(i4 l n).getD j 0=wd (fun k=>rv l (8*j+(8-min 8 (n-(192-8*j)))+k)) (min 8 (n-(192-8*j)))
 | 0,_,j,hj=>by
  rw [i4,show min 8 (0-(192-8*j))=0 from by omega,wd,aw,List.getElem?_replicate]
  split <;>rfl
 | n+1,hn,j,hj=>by
  have ih:=Oo hl hb n (by omega)
  rw [i4,dZ _ _ _ _ (by rw [H1];exact hj),hl]
  by_cases e:(200-1-n) / 8=j
  ·subst e
   have hc:min 8 (n-(192-8*((200-1-n) / 8)))=n%8:=by omega
   have hc1:min 8 (n+1-(192-8*((200-1-n) / 8)))=n%8+1:=by omega
   have hih:=ih _ hj
   rw [hc] at hih
   rw [if_pos rfl,hc1,hih,yt]
   have hv:=zZ (f:=fun k=>rv l (8*((200-1-n) / 8)+(8-n%8)+k)) (fun k=>hb _) (n%8)
   have hbn:=hb (200-1-n)
   have hpow:(256:Int) ^ (n%8)≤256 ^ 7:=by
    rw [JQ,JQ]
    exact Int.ofNat_le.2 (Nat.pow_le_pow_right (by decide) (by omega))
   rw [show (256:Int) ^ 7=72057594037927936 from by decide] at hpow
   generalize hV:wd (fun k=>rv l (8*((200-1-n) / 8)+(8-n%8)+k)) (n%8)=V at *
   have hV2:wd (fun k=>rv l (8*((200-1-n) / 8)+(8-(n%8+1))+(k+1))) (n%8)=V:=by
    rw [← hV]
    refine I0 (fun k=> ?_) _
    congr 1;omega
   rw [hV2,show 8*((200-1-n) / 8)+(8-(n%8+1))+0=200-1-n from by omega]
   generalize rv l (200-1-n)=b at *
   rw [df (n:=V*256) ⟨by omega,by omega⟩,df (n:=b) ⟨by omega,by omega⟩,df ⟨by omega,by omega⟩]
   omega
  ·rw [if_neg e,ih j hj]
   have:min 8 (n+1-(192-8*j))=min 8 (n-(192-8*j)):=by omega
   rw [this]
theorem Qc {l:LD} (hl:l.length=200) (hb:ar l):i4 l 200=xg l:=by
 refine BT (H1 _ _) (qO _) fun j hj=> ?_
 have h1:min 8 (200-(192-8*j))=8:=by omega
 have:=Oo hl hb 200 (Nat.le_refl _) j hj
 rw [h1] at this
 rw [this,wu _ hj]
 refine I0 (fun k=> ?_) _
 congr 1
abbrev u8:Pat:= .int .u8
abbrev qh:BPat:= .cells 214 [SU,i64]
abbrev Ab:Pat:= .agg [.arrI 32 .u8]
abbrev Hs:=List Int×Nat
def fq (s:List Int) (p:Nat) (b:Int):List Int:=s.set (p / 8) (xr (s.getD (p / 8) 0) (de .u64 (IntKind.u64.wrap b) ((8*(p%8):Nat):Int)))
def oP (h:Hs) (b:Int):Hs:=if h.2+1=136 then (fP (fq h.1 h.2 b),0) else (fq h.1 h.2 b,h.2+1)
def db (h:Hs) (l:LD):Nat→Hs
 | 0=>h
 | n+1=>oP (db h l n) (rv l n)
def fin (h:Hs):List Int:=hid ((c7 (fP (fq (fq h.1 h.2 6) 135 128))).take 32)
def pt (l:LD) (i:Nat):LD:=((l.getD i []).getD 0 .d0).toSl
def iu:Hs:=(List.replicate 25 0,0)
def xS (l:LD):Nat→Hs
 | 0=>iu
 | n+1=>db (xS l n) (pt l n) (pt l n).length
def lu (l:LD):List Int:=hid (fin (xS l l.length))
def MP (l:LD):Prop:=∀ i,ar (pt l i)
def mn (a b:Nat):Nat→Nat
 | 0=>0
 | n+1=>if a / 2 ^ n%2≠b / 2 ^ n%2 then mn a b n+2 ^ n else mn a b n
def xo (a b:Int):Int:=(mn a.toNat b.toNat 8:Nat)
def oE (l:LD):Nat:=135-l.length%136
def l7 (l:LD) (m:Nat):LD:=l++ [.int 6] ::List.replicate m [.int 0]
def nm (m:Nat):List Int:=if m=0 then [134] else 6::(List.replicate (m-1) 0++ [128])
def cu (l:LD):LD:=hid (l++(nm (oE l)).map ae)
def mo (o:Int→Int→Int) (S:List Int) (p:LD) (at':Nat):Nat→List Int
 | 0=>S
 | i+1=>(mo o S p at' i).set i (o ((mo o S p at' i).getD i 0) (rv p (at'+i)))
def Jz (r:LD):List Int:=r.map fun r=>(r.getD 0 .d0).toInt
def fI (p:LD):Nat→List Int
 | 0=>List.replicate 200 0
 | n+1=>c7 (jP (i4 ((mo xo (fI p n) p (136*n) 136).map ae) 200))
def nZ (l:LD):List Int:=hid ((fI (cu l) ((cu l).length / 136)).take 32)
def akT:Ct:= {ps:= [.ptr 0 0,i64,u8],bs:= [qh],pre:=fun | [.i p,.i b,.li s,.i a] =>0≤p∧p<200 | _=>False,res:=fun | [.i p,.i b,.li s,.i a] => .ret (.tup []) [qh] [.li (fq s p.toNat b),.i a] | _=>ag}
def asd:Ct:= {ps:= [.ptr 0 0,rb],bs:= [qh],pre:=fun | [.r l,.li s,.i a] =>0≤a∧a<136 | _=>False,res:=fun | [.r l,.li s,.i a] => .ret (.tup []) [qh] [.li (db (s,a.toNat) l l.length).1,.i ((db (s,a.toNat) l l.length).2:Nat)] | _=>ag}
def akh:List Dat→Ann
 | [.r l,.li s,.i a] =>⟨[],[(1,[la 43 [(0,.ptr 0 0),(6,rb),(7,i64),(8,i64)] [qh] (fun | [.r l',.i n,.i i,.li s',.i a'] =>l'=l∧n=l.length∧0≤i∧i≤n∧s'=(db (s,a.toNat) l i.toNat).1∧a'=((db (s,a.toNat) l i.toNat).2:Nat) | _=>False) (fun | [_,.i n,.i i,_,_] =>(n-i).toNat | _=>0)])],[]⟩
 | _=> {cut:= [],loop:= []}
def akB:Ct:= {ps:= [.ptr 0 0],bs:= [qh],pre:=fun | [.li s,.i a] =>aq s∧0≤a∧a<136 | _=>False,res:=fun | [.li s,.i a] => .ret Ab [qh] [.li (fin (s,a.toNat)),.li s,.i a] | _=>ag}
def apP:Ct:= {ps:= [.rd [.sl [.int .u8]]],bs:= [],pre:=fun | [.r l] =>MP l | _=>False,res:=fun | [.r l] => .ret Ab [] [.li (lu l)] | _=>ag}
def ahS:List Dat→Ann
 | [.r l] =>⟨[],[(3,[la 16 [(2,.ptr 0 0),(3,.ptr 1 0),(6,.rd [.sl [.int .u8]]),(7,i64),(8,i64)] [.cells 79 [.arrI 32 .u8],qh] (fun | [.r l',.i n,.i i,.li _,.li s',.i a'] =>l'=l∧n=l.length∧0≤i∧i≤n∧s'=(xS l i.toNat).1∧a'=((xS l i.toNat).2:Nat) | _=>False) (fun | [_,.i n,.i i,_,_,_] =>(n-i).toNat | _=>0)])],[]⟩
 | _=> {cut:= [],loop:= []}
def akP:Ct:= {ps:= [u8,u8],bs:= [],pre:=fun | [.i a,.i b] =>(0≤a∧a<256)∧0≤b∧b<256 | _=>False,res:=fun | [.i a,.i b] => .ret u8 [] [.i (xo a b)] | _=>ag}
def acH:List Dat→Ann
 | [.i a,.i b] =>⟨[],[(5,[la 34 [(5,i64),(6,i64),(7,i64),(8,i64),(9,i64)] [] (fun | [.i o,.i e,.i x,.i y,.i i] =>0≤i∧i≤8∧o=(mn a.toNat b.toNat i.toNat:Nat)∧e=(2 ^ i.toNat:Nat)∧x=(a.toNat / 2 ^ i.toNat:Nat)∧y=(b.toNat / 2 ^ i.toNat:Nat) | _=>False) (fun | [_,_,_,_,.i i] =>(8-i).toNat | _=>0)])],[]⟩
 | _=> {cut:= [],loop:= []}
def amf:Ct:= {ps:= [rb],bs:= [],pre:=fun | [.r l] =>l.length≤2000 | _=>False,res:=fun | [.r l] => .ret (.own 0) [ob] [.r (cu l)] | _=>ag}
def Zq:List Dat→Ann
 | [.r l] =>⟨[],[(2,[la 29 [(3,.own 0)] [ob] (fun | [.r o] =>l.length+1≤o.length∧o.length≤l.length+1+oE l∧o=l7 l (o.length-l.length-1) | _=>False) (fun | [.r o] =>l.length+200-o.length | _=>0)])],[]⟩
 | _=> {cut:= [],loop:= []}
def ahR:Ct:= {ps:= [rb],bs:= [],pre:=fun | [.r l] =>l.length≤2000∧ar l | _=>False,res:=fun | [.r l] => .ret rb [] [.r ((nZ l).map ae)] | _=>ag}
def Mq:List (Nat×Pat):= [(3,.own 0),(4,.own 1),(5,i64)]
def aeI:List Dat→Ann
 | [.r l] =>⟨[(11,[la 40 [(4,rb)] [] (fun | [.r s] =>s=(fI (cu l) ((cu l).length / 136)).map ae | _=>False) js])],
   [(4,[la 40 Mq [ob,ob] (fun | [.i k,.r p,.r s] =>p=cu l∧0≤k∧k≤p.length∧k%136=0∧s=(fI p (k.toNat / 136)).map ae | _=>False) (fun | [.i k,.r p,_] =>(p.length-k).toNat | _=>0)])],
  [(7,[la 40 (Mq++ [(6,i64)]) [ob,ob] ma js],fun | [.i k0,.i _,.r p0,.r s0] => [la 40 (Mq++ [(6,i64)]) [ob,ob]
   (fun | [.i k,.i i,.r p,.r s] =>k=k0∧p=p0∧0≤i∧i≤136∧s=(mo xo (Jz s0) p0 k0.toNat i.toNat).map ae | _=>False) (fun | [_,.i i,_,_] =>(136-i).toNat | _=>0)] | _=> [])]⟩
 | _=> {cut:= [],loop:= []}
def acF:Prop:=
 ∀ (a b:Int) (c:List Int) (d:Int),
 c.length=25→
 0≤a∧a<(200:Int)→
 (0≤a∧(0:Int)<(8:Int)∧a≤IntKind.i64.max)∧
 (0≤a / 8∧a / 8<(↑(25:Nat):Int))∧
 (a / 8).toNat*1<(25:Nat)∧
 (0≤a∧(0:Int)<(8:Int))∧
 iR ((8:Int)*(a%(8:Int)))∧
 (0:Int)≤8*(a%(8:Int))∧
 (0≤a / 8∧a / 8<(↑(25:Nat):Int))∧
 (a / 8).toNat*1<(25:Nat)∧
 c.set ((a / 8).toNat*1)
 (u5 .u64 (c.getD ((a / 8).toNat*1) 0)
 (de .u64 (IntKind.u64.wrap b) ((8:Int)*(a%(8:Int)))))=
 fq c a.toNat b∧
 d=d
def VF:af:=aj Tu 146 (ap akT)
abbrev cz (a:LD):Int:=
 ↑a.length
abbrev v5 (a:Int)(b:LD):Int:=
 ((b.getD a.toNat []).getD 0 (.int 0)).toInt
def P99:Prop:=
 ∀ (a:LD) (b:List Int) (c:Int),
 lM a→
 b.length=25→
 0≤c∧c<(136:Int)→
 lM a→
 ((a=a∧
 cz a=cz a∧
 (0:Int)≤0∧
 0≤cz a∧
 b=(db (b,c.toNat) a 0).fst∧
 c=(↑(db (b,c.toNat) a 0).snd:Int))∧
 True)∧
 ∀ (d:LD) (e f:Int) (g:List Int) (h:Int),
 lM d→
 g.length=25→
 d=a∧
 e=cz a∧
 0≤f∧
 f≤e∧
 g=(db (b,c.toNat) a f.toNat).fst∧
 h=(↑(db (b,c.toNat) a f.toNat).snd:Int)→
 bif decide (f<e) then
 bR f d∧
 f.toNat<d.length∧
 (0≤h∧h<(200:Int))∧
 iR (h+1)∧
 bif decide (h+1=136) then
 True∧
 iR (f+1)∧
 (d=a∧
 e=cz a∧
 0≤f+1∧
 f+1≤e∧
 fP
 (fq g h.toNat (v5 f d))=
 (db (b,c.toNat) a (f+1).toNat).fst∧
 0=(↑(db (b,c.toNat) a (f+1).toNat).snd:Int))∧
 (e-(f+1)).toNat<(e-f).toNat
 else
 iR (f+1)∧
 (d=a∧
 e=cz a∧
 0≤f+1∧
 f+1≤e∧
 fq g h.toNat (v5 f d)=
 (db (b,c.toNat) a (f+1).toNat).fst∧
 h+1=(↑(db (b,c.toNat) a (f+1).toNat).snd:Int))∧
 (e-(f+1)).toNat<(e-f).toNat
 else
 g=(db (b,c.toNat) a a.length).fst∧h=(↑(db (b,c.toNat) a a.length).snd:Int)
def aeh:af:=aj VF 99 (ap asd)
def arb:Prop:=
 ∀ (a:List Int) (b:Int),
 a.length=25→
 aq a∧0≤b∧b<(136:Int)→
 (0≤b∧b<(200:Int))∧
 ((0:Int)≤135∧(135:Int)<(200:Int))∧
 True∧
 aq
 (fP
 (fq (fq a b.toNat 6) 135 128))∧
 ((0:Int)≤0∧(0:Int)≤32∧32≤(↑(200:Nat):Int)∧(0:Int)<(↑(200:Nat):Int))∧
 (32:Nat)≤32∧
 (32:Nat)≤200∧
 List.take 32
 (List.drop 0
 (c7
 (fP
 (fq (fq a b.toNat 6) 135 128))))=
 fin (a,b.toNat)∧
 a=a∧b=b
def SY:af:=aj aeh 100 (ap akB)
abbrev NK (a b:Int)(c:LD)(d:List Int):Hs:=
 db (d,a.toNat) ((c.getD b.toNat []).getD 0 (.int 0)).toSl
 ((c.getD b.toNat []).getD 0 (.int 0)).toSl.length
def P61:Prop:=
 ∀ (a:LD),
 lM a→
 MP a→
 lM a→
 ((a=a∧
 cz a=cz a∧
 (0:Int)≤0∧
 0≤cz a∧
 [0,0,0,0,0,0,0,0,0,0,0,0,0,0,
 (0:Int),0,0,0,0,0,0,0,0,0,0] =
 (xS a 0).fst∧
 0=(↑(0:Nat):Int))∧
 True)∧
 ∀ (b:LD) (c d:Int) (e f:List Int) (g:Int),
 lM b→
 e.length=32→
 f.length=25→
 b=a∧
 c=cz a∧
 0≤d∧d≤c∧f=(xS a d.toNat).fst∧g=(↑(xS a d.toNat).snd:Int)→
 bif decide (d<c) then
 bR d b∧
 d.toNat<b.length∧
 (0≤g∧g<(136:Int))∧
 iR (d+1)∧
 (b=a∧
 c=cz a∧
 0≤d+1∧
 d+1≤c∧
 (NK g d b f).fst=(xS a (d+1).toNat).fst∧
 (↑(NK g d b f).snd:Int)=
 (↑(xS a (d+1).toNat).snd:Int))∧
 (c-(d+1)).toNat<(c-d).toNat
 else
 (aq f∧0≤g∧g<(136:Int))∧
 fin (f,g.toNat)=lu a
def aeZ:af:=aj SY 61 (ap apP)
abbrev DD (a:Int):Prop:=
 0≤a∧(0:Int)<(2:Int)∧a≤IntKind.i64.max
abbrev Mx (a b c d e f:Int):Prop:=
 a*2=(↑((2:Nat) ^ (b+1).toNat):Int)∧
 c / 2=(↑(d.toNat / 2 ^ (b+1).toNat):Int)∧e / 2=(↑(f.toNat / 2 ^ (b+1).toNat):Int)
def aeB:Prop:=
 ∀ (a b:Int),
 (0≤a∧a<(256:Int))∧0≤b∧b<(256:Int)→
 (((0:Int)≤0∧
 (0:Int)≤8∧
 0=(↑(0:Nat):Int)∧
 1=(↑(1:Nat):Int)∧IntKind.i64.wrap a=(↑(a.toNat / 1):Int)∧IntKind.i64.wrap b=(↑(b.toNat / 1):Int))∧
 True)∧
 ∀ (c d e f g:Int),
 0≤g∧
 g≤8∧
 c=(↑(mn a.toNat b.toNat g.toNat):Int)∧
 d=(↑((2:Nat) ^ g.toNat):Int)∧e=(↑(a.toNat / 2 ^ g.toNat):Int)∧f=(↑(b.toNat / 2 ^ g.toNat):Int)→
 bif decide (g<(8:Int)) then
 (0≤e∧(0:Int)<(2:Int))∧
 (0≤f∧(0:Int)<(2:Int))∧
 bif decide (e%2≠f%(2:Int)) then
 iR (c+d)∧
 DD e∧
 DD f∧
 iR (d*2)∧
 iR (g+1)∧
 (0≤g+1∧
 g+1≤8∧
 c+d=(↑(mn a.toNat b.toNat (g+1).toNat):Int)∧
 Mx d g e a f b)∧
 ((8:Int)-(g+1)).toNat<((8:Int)-g).toNat
 else
 DD e∧
 DD f∧
 iR (d*2)∧
 iR (g+1)∧
 (0≤g+1∧
 g+1≤8∧
 c=(↑(mn a.toNat b.toNat (g+1).toNat):Int)∧
 Mx d g e a f b)∧
 ((8:Int)-(g+1)).toNat<((8:Int)-g).toNat
 else IntKind.u8.wrap c=xo a b
def WM:af:=aj aeZ 154 (ap akP)
abbrev Ca (a:LD):Nat:=
 (a++ [[CD.int 0]]).length
def act:Prop:=
 ∀ (a:LD),
 lM a→
 a.length≤2000→
 aR (0+a.length) 1∧
 aR (([] ++a).length+1) 1∧
 ((a.length+1≤([] ++a++ [[CD.int 6]]).length∧
 ([] ++a++ [[CD.int 6]]).length≤a.length+1+oE a∧
 [] ++a++ [[CD.int 6]] =l7 a (([] ++a++ [[CD.int 6]]).length-a.length-1))∧
 True)∧
 ∀ (b:LD),
 lM b→
 a.length+1≤b.length∧
 b.length≤a.length+1+oE a∧
 b=l7 a (b.length-a.length-1)→
 lM b→
 (0≤cz b∧(0:Int)<(136:Int))∧
 bif decide (cz b%(136:Int)≠0) then
 aR (b.length+1) 1∧
 (a.length+1≤Ca b∧
 Ca b≤a.length+1+oE a∧
 b++ [[CD.int 0]] =
 l7 a (Ca b-a.length-1))∧
 (a.length+200).sub (Ca b)<(a.length+200).sub b.length
 else
 lM b→
 iR (cz b-(1:Int))∧
 (lM b→
 iR (cz b-(1:Int))∧
 bR (cz b-(1:Int)) b∧
 (cz b-(1:Int)).toNat<b.length∧
 bR (cz b-(1:Int)) b∧
 (cz b-(1:Int)).toNat<b.length∧
 b.set (cz b-(1:Int)).toNat
 ((b.getD (cz b-(1:Int)).toNat []).set 0
 (CD.int
 (IntKind.u8.wrap
 (((b.getD (cz b-(1:Int)).toNat []).getD 0 (CD.int 0)).toInt+
 (128:Int)))))=
 cu a)
def TI:af:=aj WM 153 (ap amf)
abbrev GK (a b:Int)(c:LD):Int:=
 ((c.getD (a+b).toNat []).getD 0 (.int 0)).toInt
def ab7:Prop:=
 ∀ (a:LD),
 lM a→
 a.length≤2000∧ar a→
 a.length≤2000∧
 ((0:Int)≤200∧(200:Int)≤200∧(↑(1:Nat):Int)*200≤140737488355328∧(200:Int)≤9223372036854775807)∧
 (((cu a=cu a∧
 (0:Int)≤0∧
 0≤(↑(cu a).length:Int)∧
 (0:Int)%(136:Int)=0∧
 (have y:=
 have y:=
 have y:=
 have y:=
 have y:=
 [[.int 0],[.int 0],[.int 0],[.int 0],[.int 0],
 [.int 0],[.int 0]];
 [.int 0] ::
 [.int 0] ::
 [.int 0] :: [.int 0] :: [.int 0] :: [.int 0] ::y;
 have y:=
 [.int 0] ::
 [.int 0] ::
 [.int 0] :: [.int 0] :: [.int 0] :: [.int 0] ::y;
 [.int 0] ::
 [.int 0] ::
 [.int 0] :: [.int 0] :: [.int 0] :: [.int 0] ::y;
 have y:=
 have y:=
 [.int 0] ::
 [.int 0] ::
 [.int 0] ::
 [.int 0] :: [.int 0] :: [.int 0] :: [.int 0] ::y;
 [.int 0] ::
 [.int 0] ::
 [.int 0] :: [.int 0] :: [.int 0] :: [.int 0] ::y;
 have y:=
 [.int 0] ::
 [.int 0] ::
 [.int 0] :: [.int 0] :: [.int 0] :: [.int 0] ::y;
 [.int 0] ::
 [.int 0] :: [.int 0] :: [.int 0] :: [.int 0] :: [.int 0] ::y;
 have y:=
 have y:=
 have y:=
 [.int 0] ::
 [.int 0] ::
 [.int 0] ::
 [.int 0] :: [.int 0] :: [.int 0] :: [.int 0] ::y;
 [.int 0] ::
 [.int 0] ::
 [.int 0] :: [.int 0] :: [.int 0] :: [.int 0] ::y;
 have y:=
 [.int 0] ::
 [.int 0] ::
 [.int 0] :: [.int 0] :: [.int 0] :: [.int 0] ::y;
 [.int 0] ::
 [.int 0] :: [.int 0] :: [.int 0] :: [.int 0] :: [.int 0] ::y;
 have y:=
 have y:=
 [.int 0] ::
 [.int 0] ::
 [.int 0] ::
 [.int 0] :: [.int 0] :: [.int 0] :: [.int 0] ::y;
 [.int 0] ::
 [.int 0] :: [.int 0] :: [.int 0] :: [.int 0] :: [.int 0] ::y;
 have y:=
 [.int 0] ::
 [.int 0] :: [.int 0] :: [.int 0] :: [.int 0] :: [.int 0] ::y;
 [.int 0] ::
 [.int 0] :: [.int 0] :: [.int 0] :: [.int 0] :: [.int 0] ::y;
 have y:=
 have y:=
 have y:=
 have y:=
 [.int 0] ::
 [.int 0] ::
 [.int 0] ::
 [.int 0] :: [.int 0] :: [.int 0] :: [.int 0] ::y;
 [.int 0] ::
 [.int 0] ::
 [.int 0] :: [.int 0] :: [.int 0] :: [.int 0] ::y;
 have y:=
 [.int 0] ::
 [.int 0] ::
 [.int 0] :: [.int 0] :: [.int 0] :: [.int 0] ::y;
 [.int 0] ::
 [.int 0] :: [.int 0] :: [.int 0] :: [.int 0] :: [.int 0] ::y;
 have y:=
 have y:=
 [.int 0] ::
 [.int 0] ::
 [.int 0] ::
 [.int 0] :: [.int 0] :: [.int 0] :: [.int 0] ::y;
 [.int 0] ::
 [.int 0] :: [.int 0] :: [.int 0] :: [.int 0] :: [.int 0] ::y;
 have y:=
 [.int 0] ::
 [.int 0] :: [.int 0] :: [.int 0] :: [.int 0] :: [.int 0] ::y;
 [.int 0] ::
 [.int 0] :: [.int 0] :: [.int 0] :: [.int 0] :: [.int 0] ::y;
 have y:=
 have y:=
 have y:=
 [.int 0] ::
 [.int 0] ::
 [.int 0] ::
 [.int 0] :: [.int 0] :: [.int 0] :: [.int 0] ::y;
 [.int 0] ::
 [.int 0] :: [.int 0] :: [.int 0] :: [.int 0] :: [.int 0] ::y;
 have y:=
 [.int 0] ::
 [.int 0] :: [.int 0] :: [.int 0] :: [.int 0] :: [.int 0] ::y;
 [.int 0] ::
 [.int 0] :: [.int 0] :: [.int 0] :: [.int 0] :: [.int 0] ::y;
 have y:=
 have y:=
 [.int 0] ::
 [.int 0] ::
 [.int 0] ::
 [.int 0] :: [.int 0] :: [.int 0] :: [.int 0] ::y;
 [.int 0] ::
 [.int 0] :: [.int 0] :: [.int 0] :: [.int 0] :: [.int 0] ::y;
 have y:=
 [.int 0] ::
 [.int 0] :: [.int 0] :: [.int 0] :: [.int 0] :: [.int 0] ::y;
 [.int 0] ::
 [.int 0] :: [.int 0] :: [.int 0] :: [.int 0] :: [.int 0] ::y)=
 List.map ae (fI (cu a) 0))∧
 True)∧
 ∀ (b:Int) (c d:LD),
 lM c→
 lM d→
 c=cu a∧
 0≤b∧
 b≤cz c∧
 b%(136:Int)=0∧
 d=List.map ae (fI c (b.toNat / 136))→
 lM c→
 bif decide (b<cz c) then
 ((b=b∧
 c=c∧
 (0:Int)≤0∧
 (0:Int)≤136∧
 d=
 List.map ae
 (mo xo (Jz d) c b.toNat
 0))∧
 True)∧
 ∀ (e f:Int) (g h:LD),
 lM g→
 lM h→
 e=b∧
 g=c∧
 0≤f∧
 f≤136∧
 h=
 List.map ae
 (mo xo (Jz d) c
 b.toNat f.toNat)→
 bif decide (f<(136:Int)) then
 bR f h∧
 f.toNat<h.length∧
 iR (e+f)∧
 bR (e+f) g∧
 (e+f).toNat<g.length∧
 ((0≤v5 f h∧v5 f h<(256:Int))∧
 0≤GK e f g∧GK e f g<(256:Int))∧
 bR f h∧
 f.toNat<h.length∧
 iR (f+1)∧
 (e=b∧
 g=c∧
 0≤f+1∧
 f+1≤136∧
 h.set f.toNat
 ((h.getD f.toNat []).set 0
 (.int
 (xo (v5 f h)
 (GK e f g))))=
 List.map ae
 (mo xo
 (Jz d) c b.toNat (f+1).toNat))∧
 ((136:Int)-(f+1)).toNat<((136:Int)-f).toNat
 else
 (h.length≤200∧ar h)∧
 aq (i4 h h.length)∧
 aq
 (jP (i4 h h.length))∧
 iR (e+136)∧
 (g=cu a∧
 0≤e+136∧
 e+136≤cz g∧
 (e+136)%(136:Int)=0∧
 List.map ae
 (c7
 (jP (i4 h h.length)))=
 List.map ae
 (fI g ((e+136).toNat / 136)))∧
 (cz g-(e+136)).toNat<(cz c-b).toNat
 else
 d=
 List.map ae
 (fI (cu a)
 ((cu a).length / 136))∧
 True)∧
 ∀ (b:LD),
 lM b→
 b=
 List.map ae
 (fI (cu a) ((cu a).length / 136))→
 ((0:Int)≤0∧(0:Int)≤32∧32≤cz b)∧
 List.drop 0 (List.take 32 b)=List.map ae (nZ a)
def TR:af:=aj TI 111 (ap ahR)
theorem ajW:acF:=by
 delta acF iR
 rintro p' b s a hs ⟨h0,h1⟩
 obtain ⟨p,rfl⟩:=aB h0
 have e1:((p:Int) / 8).toNat=p / 8:=by omega
 have e2:(8:Int)*((p:Int)%8)=((8*(p%8):Nat):Int):=by omega
 rw [CU,e1,e2]
 simp only [ax,Nat.mul_one]
 exact ⟨by omega,by omega,by omega,by omega,by omega,by omega,by omega,by omega,rfl,by trivial⟩
theorem aew:(base.with VF).Ok:=ac afG (ai am afG Tryz.func146 (by kernel_rfl) Tryz.call146 (by kernel_rfl) ajW)
theorem kp (s:List Int) (p:Nat) (b:Int):(fq s p b).length=s.length:=dc
theorem pc {s:List Int} (h:aq s) (p:Nat) (b:Int):aq (fq s p b):=MK h (kM _ _) _
def Mk (h:Hs):Prop:=h.1.length=25∧aq h.1∧h.2<136
theorem W4 {h:Hs} (k:Mk h) (b:Int):Mk (oP h b):=by
 obtain ⟨h1,h2,h3⟩:=k
 unfold oP
 split
 ·obtain ⟨k1,k2⟩:=EG (s:=fq h.1 h.2 b) (by rw [kp];exact h1) (pc h2 _ _)
  exact ⟨k1,k2,by show 0<136;decide⟩
 ·exact ⟨by rw [kp];exact h1,pc h2 _ _,by show h.2+1<136;omega⟩
theorem G3 {h:Hs} (k:Mk h) (l:LD):∀ n,Mk (db h l n)
 | 0=>k
 | n+1=>W4 (G3 k l n) _
theorem Xr {h:Hs} (k:h.2<136) (b:Int):(oP h b).2<136:=by
 unfold oP
 split
 ·show 0<136;decide
 ·show h.2+1<136;omega
theorem WR {h:Hs} (k:h.2<136) (l:LD):∀ n,(db h l n).2<136
 | 0=>k
 | n+1=>Xr (WR k l n) _
theorem arH:P99:=by
 delta P99 lM iR bR cz v5
 rintro l s a' _ hs ⟨h0,h1⟩ _
 obtain ⟨a,rfl⟩:=aB h0
 rw [ax]
 refine ⟨⟨⟨rfl,rfl,by omega,by omega,rfl,rfl⟩,trivial⟩,?_⟩
 rintro l2 n i' s2 a2 _ _ ⟨rfl,rfl,h2,h3,hs2,ha2⟩
 obtain ⟨i,rfl⟩:=aB h2
 rw [ax] at hs2 ha2
 have hlt:=WR (h:=(s,a)) (show a<136 by omega) l2 i
 refine aa (fun h=> ?_) fun h=> ?_
 ·simp only [aK] at h
  refine ⟨by omega,by omega,by omega,by omega,?_⟩
  rw [dh,bz,db,ax,ha2,ax,hs2]
  refine aa (fun h4=> ?_) fun h4=> ?_
  ·simp only [aK] at h4
   refine ⟨trivial,by omega,⟨rfl,rfl,by omega,by omega,?_,?_⟩,by omega⟩
   ·unfold oP;rw [if_pos (by omega)]
   ·unfold oP;rw [if_pos (by omega)];rfl
  ·simp only [aT] at h4
   refine ⟨by omega,⟨rfl,rfl,by omega,by omega,?_,?_⟩,by omega⟩
   ·unfold oP;rw [if_neg (by omega)]
   ·unfold oP;rw [if_neg (by omega)];rfl
 ·simp only [aT] at h
  have hi:i=l2.length:=by omega
  subst hi
  exact ⟨hs2,ha2⟩
theorem c99:(base.with aeh).Ok:=ac aew (ai akh aew Tryz.func99 (by kernel_rfl) Tryz.call99 (by kernel_rfl) arH)
theorem ajx:arb:=by
 rintro s a' hs ⟨hw,h0,h1⟩
 obtain ⟨a,rfl⟩:=aB h0
 rw [ax]
 have k:=EG (s:=fq (fq s a 6) 135 128) (by rw [kp,kp];exact hs) (pc (pc hw _ _) _ _)
 refine ⟨by omega,by omega,trivial,k.2,by omega,by omega,by omega,?_,rfl,rfl⟩
 rw [List.drop_zero,fin,ak]
theorem Y9:(base.with SY).Ok:=ac c99 (ai am c99 Tryz.func100 (by kernel_rfl) Tryz.call100 (by kernel_rfl) ajx)
theorem Ds (n:Nat):aq (List.replicate n 0):=fun j=>by
 rw [aw,List.getElem?_replicate]
 split <;>exact bh
theorem Kn:Mk iu:=⟨rfl,Ds 25,by decide⟩
theorem PT (l:LD):∀ n,Mk (xS l n)
 | 0=>Kn
 | n+1=>G3 (PT l n) _ _
theorem arw:P61:=by
 delta P61 lM iR bR cz NK
 intro l _ hp _
 refine ⟨⟨⟨rfl,rfl,by omega,by omega,rfl,rfl⟩,trivial⟩,?_⟩
 rintro l2 n i' _ s a _ _ _ ⟨rfl,rfl,h0,h1,hs,ha⟩
 obtain ⟨i,rfl⟩:=aB h0
 rw [ax] at hs ha
 obtain ⟨k1,k2,k3⟩:=PT l2 i
 refine aa (fun h=> ?_) fun h=> ?_
 ·simp only [aK] at h
  rw [bz,ha,hs,ax,ax]
  exact ⟨by omega,by omega,by omega,by omega,⟨rfl,rfl,by omega,by omega,rfl,rfl⟩,by omega⟩
 ·simp only [aT] at h
  have hi:i=l2.length:=by omega
  subst hi
  rw [ha,hs,ax,lu,ak]
  exact ⟨⟨k2,by omega,by omega⟩,rfl⟩
theorem c61:(base.with aeZ).Ok:=ac Y9 (ai ahS Y9 Tryz.func61 (by kernel_rfl) Tryz.call61 (by kernel_rfl) arw)
theorem G1 (a b:Nat):∀ n,mn a b n<2 ^ n
 | 0=>Nat.one_pos
 | n+1=>by
  have:=G1 a b n
  rw [mn,Nat.pow_succ]
  split <;>omega
theorem yr (a b:Int):0≤xo a b∧xo a b<256:=by
 have:=G1 a.toNat b.toNat 8
 unfold xo
 rw [show (2:Nat) ^ 8=256 from by decide] at this
 exact ⟨by omega,by omega⟩
theorem Qh {n:Int} (h:0≤n) (h2:n<256):IntKind.i64.wrap n=n:=by
 unfold IntKind.wrap
 simp [IntKind.signed,IntKind.bits]
 omega
theorem ahj:aeB:=by
 delta aeB iR DD Mx
 rintro a' b' ⟨⟨a0,a1⟩,b0,b1⟩
 obtain ⟨a,rfl⟩:=aB a0
 obtain ⟨b,rfl⟩:=aB b0
 rw [Qh a0 a1,Qh b0 b1]
 simp only [ax]
 refine ⟨⟨⟨by omega,by omega,rfl,rfl,by omega,by omega⟩,trivial⟩,?_⟩
 rintro o e x y i' ⟨h0,h1,rfl,rfl,rfl,rfl⟩
 obtain ⟨i,rfl⟩:=aB h0
 rw [CU]
 simp only [ax,bz]
 refine aa (fun h=> ?_) fun h=> ?_
 ·simp only [aK] at h
  have hp:2 ^ i≤2 ^ 7:=Nat.pow_le_pow_right (by decide) (by omega)
  rw [show (2:Nat) ^ 7=128 from by decide] at hp
  have hx:=G1 a b i
  have ha:a / 2 ^ i≤a:=Nat.div_le_self _ _
  have hb:b / 2 ^ i≤b:=Nat.div_le_self _ _
  have ea:a / 2 ^ (i+1)=a / 2 ^ i / 2:=by rw [Nat.pow_succ,Nat.div_div_eq_div_mul]
  have eb:b / 2 ^ (i+1)=b / 2 ^ i / 2:=by rw [Nat.pow_succ,Nat.div_div_eq_div_mul]
  have ep:2 ^ (i+1)=2 ^ i*2:=Nat.pow_succ 2 i
  refine ⟨⟨Int.natCast_nonneg _,by decide⟩,⟨Int.natCast_nonneg _,by decide⟩,aa (fun h4=> ?_) fun h4=> ?_⟩
  ·simp only [aK] at h4
   have ex:mn a b (i+1)=mn a b i+2 ^ i:=by rw [mn,if_pos (by omega)]
   rw [ex,ea,eb,ep]
   generalize 2 ^ i=P at *
   generalize a / P=X at *
   generalize b / P=Y at *
   generalize mn a b i=O at *
   exact ⟨by omega,by omega,by omega,by omega,by omega,⟨by omega,by omega,by omega,by omega,by omega,by omega⟩,by omega⟩
  ·simp only [aT] at h4
   have ex:mn a b (i+1)=mn a b i:=by rw [mn,if_neg (by omega)]
   rw [ex,ea,eb,ep]
   generalize 2 ^ i=P at *
   generalize a / P=X at *
   generalize b / P=Y at *
   generalize mn a b i=O at *
   exact ⟨by omega,by omega,by omega,by omega,⟨by omega,by omega,by omega,by omega,by omega,by omega⟩,by omega⟩
 ·simp only [aT] at h
  have hi:i=8:=by omega
  subst hi
  have hx:=G1 a b 8
  rw [show (2:Nat) ^ 8=256 from by decide] at hx
  unfold xo
  rw [Bh,ax,ax]
  omega
theorem afR:(base.with WM).Ok:=ac c61 (ai acH c61 Tryz.func154 (by kernel_rfl) Tryz.call154 (by kernel_rfl) ahj)
theorem Bc (l:LD) (m:Nat):(l7 l m).length=l.length+1+m:=by
 unfold l7
 simp only [cx,List.length_cons,List.length_replicate]
 omega
theorem QE (l:LD) (m:Nat):l7 l m++ [[.int 0]] =l7 l (m+1):=by
 unfold l7
 rw [dO,List.cons_append,← List.replicate_succ']
theorem HG {α:Type} (A:List α) (x y:α):(A++ [x]).set A.length y=A++ [y] :=by
 rw [List.set_append_right _ _ (Nat.le_refl _),Nat.sub_self];rfl
theorem vB {α:Type} (A:List α) (x d:α):(A++ [x]).getD A.length d=x:=by
 rw [aw,List.getElem?_append_right (Nat.le_refl _),Nat.sub_self];rfl
theorem Xa (l:LD) (m:Nat):(l7 l m).set (l.length+m) (((l7 l m).getD (l.length+m) []).set 0 (.int (IntKind.u8.wrap (rv (l7 l m) (l.length+m)+128))))=l++(nm m).map ae:=by
 cases m with
 | zero=>
  have e:l7 l 0=l++ [[.int 6]] :=rfl
  rw [e,Nat.add_zero,vB,HG]
  unfold rv
  rw [vB]
  rfl
 | succ m=>
  have e:l7 l (m+1)=(l++ [.int 6] ::List.replicate m [.int 0])++ [[.int 0]] :=by rw [← QE];rfl
  have hl:(l++ [CD.int 6] ::List.replicate m [CD.int 0]).length=l.length+(m+1):=by
   simp only [cx,List.length_cons,List.length_replicate]
  rw [e,← hl,vB,HG]
  unfold rv
  rw [vB]
  have e2:nm (m+1)=6::(List.replicate m 0++ [128]):=by unfold nm;rw [if_neg (by omega),Nat.add_sub_cancel]
  rw [e2,List.map_cons,List.map_append,List.map_replicate,dO]
  rfl
theorem ani:act:=by
 delta act lM iR aR bR cz Ca
 intro l _ hl
 have e0: [] ++l++ [[CD.int 6]] =l7 l 0:=rfl
 rw [e0,Bc,List.nil_append]
 refine ⟨by omega,by omega,⟨⟨by omega,by omega,by rw [show l.length+1+0-l.length-1=0 from by omega]⟩,trivial⟩,?_⟩
 rintro o _ ⟨h0,h1,h2⟩ _
 obtain ⟨m,hm⟩:∃ m,o.length=l.length+1+m:=⟨o.length-l.length-1,by omega⟩
 rw [show o.length-l.length-1=m from by omega] at h2
 have hpm:oE l=135-l.length%136:=rfl
 refine ⟨by omega,aa (fun h=> ?_) fun h=> ?_⟩
 ·simp only [aK] at h
  rw [h2,QE,Bc,Bc]
  have hm2:m<oE l:=by
   rw [hm] at h h1
   omega
  exact ⟨by omega,⟨by omega,by omega,by rw [show l.length+1+(m+1)-l.length-1=m+1 from by omega]⟩,by show l.length+200-(l.length+1+(m+1))<l.length+200-(l.length+1+m);omega⟩
 ·simp only [aT] at h
  have hm2:m=oE l:=by
   rw [hm] at h h1
   omega
  refine fun _=>⟨by omega,fun _=>⟨by omega,by omega,by omega,by omega,by omega,?_⟩⟩
  rw [dh,show ((o.length:Int)-1).toNat=l.length+m from by omega,h2,Xa,cu,ak,hm2]
theorem abs:(base.with TI).Ok:=ac afR (ai Zq afR Tryz.func153 (by kernel_rfl) Tryz.call153 (by kernel_rfl) ani)
theorem Q9 (m:Nat):(nm m).length=m+1:=by
 unfold nm
 split
 ·simp [*]
 ·simp;omega
theorem I2 (l:LD):(cu l).length=l.length+1+oE l:=by
 rw [cu,ak,cx,bA,Q9];omega
theorem RY (l:LD):(cu l).length%136=0:=by
 rw [I2]
 unfold oE
 omega
theorem RI (m i:Nat):0≤(nm m).getD i 0∧(nm m).getD i 0<256:=by
 have hall:∀ x∈nm m,0≤x∧x<256:=by
  intro x hx
  unfold nm at hx
  split at hx
  ·simp at hx;omega
  ·simp at hx;omega
 rw [aw]
 cases h:(nm m)[i]? with
 | none=>exact ⟨by decide,by decide⟩
 | some x=>exact hall x (List.mem_of_getElem? h)
theorem Bf (l:LD) (i:Nat):rv (cu l) i=if i<l.length then rv l i else (nm (oE l)).getD (i-l.length) 0:=by
 rw [cu,ak]
 by_cases h:i<l.length
 ·rw [if_pos h]
  unfold rv
  rw [aw (l:=l++_),List.getElem?_append_left h,← aw]
 ·rw [if_neg h,← b7]
  unfold rv
  rw [aw (l:=l++_),List.getElem?_append_right (by omega),← aw]
theorem ad6 {l:LD} (h:ar l):ar (cu l):=fun i=>by
 rw [Bf]
 split
 ·exact h i
 ·exact RI _ _
theorem m9 (o:Int→Int→Int) (S:List Int) (p:LD) (k:Nat):∀ n,(mo o S p k n).length=S.length
 | 0=>rfl
 | n+1=>by rw [mo,dc,m9 o S p k n]
def EZ (S:List Int):Prop:=∀ j,0≤S.getD j 0∧S.getD j 0<256
theorem aiP {S:List Int} (h:EZ S) {x:Int} (hx:0≤x∧x<256) (i:Nat):EZ (S.set i x):=fun j=>by
 rcases Nat.lt_or_ge j S.length with hj | hj
 ·rw [dZ _ _ _ _ hj]
  split
  ·exact hx
  ·exact h j
 ·rw [aw,fW (by rw [dc];exact hj)];exact ⟨by decide,by decide⟩
theorem Sz {o:Int→Int→Int} (ho:∀ a b,(0≤a∧a<256)→(0≤b∧b<256)→0≤o a b∧o a b<256) {S:List Int} (hS:EZ S) {p:LD} (hp:ar p) (k:Nat):∀ n,EZ (mo o S p k n)
 | 0=>hS
 | n+1=>aiP (Sz ho hS hp k n) (ho _ _ (Sz ho hS hp k n n) (hp _)) n
theorem ae5 {S:List Int} (h:EZ S):ar (S.map ae):=fun i=>by rw [b7];exact h i
theorem ED (p:LD):∀ n,(fI p n).length=200∧EZ (fI p n)
 | 0=>⟨by rw [fI,List.length_replicate],fun j=>by
  rw [fI,aw,List.getElem?_replicate]
  split <;>exact ⟨by decide,by decide⟩⟩
 | n+1=>⟨by rw [fI,fH],fun j=>by rw [fI];exact AB _ _⟩
theorem kb (x:Int):al (IntKind.u64.wrap x):=by rw [fU];exact ⟨by omega,by omega⟩
theorem R3 (l:LD):∀ n,aq (i4 l n)
 | 0=>Ds 25
 | n+1=>MK (R3 l n) (kb _) _
theorem Qw (S:List Int):Jz (S.map ae)=S:=FT S
theorem Ly (s:List Int):aq (jP s):=by rw [jP,ak];exact ams _
theorem ah5:ab7:=by
 delta ab7 lM iR bR cz v5 GK
 rintro l _ ⟨hl,hb⟩
 have hpb:=ad6 hb
 have hpm:=RY l
 refine ⟨hl,by omega,⟨⟨⟨rfl,by omega,by omega,by omega,by rw [fI,List.map_replicate];rfl⟩,trivial⟩,?_⟩,?_⟩
 ·rintro k' p s hpl _ ⟨rfl,h0,h1,hk,hs⟩ _
  obtain ⟨k,rfl⟩:=aB h0
  rw [ax] at *
  obtain ⟨b1,b2⟩:=ED (cu l) (k / 136)
  refine aa (fun h=> ?_) fun h=> ?_
  ·simp only [aK] at h
   rw [hs,Qw]
   refine ⟨⟨⟨rfl,rfl,by omega,by omega,rfl⟩,trivial⟩,?_⟩
   rintro k' i' p2 s2 _ _ ⟨rfl,rfl,h2,h3,hs2⟩
   obtain ⟨i,rfl⟩:=aB h2
   rw [ax] at hs2
   have hsl:s2.length=200:=by rw [hs2,bA,m9,b1]
   have hsb:ar s2:=by rw [hs2];exact ae5 (Sz (fun a b _ _=>yr a b) b2 hpb _ _)
   refine aa (fun h4=> ?_) fun h4=> ?_
   ·simp only [aK] at h4
    have e1:((k:Int)+(i:Int)).toNat=k+i:=by omega
    rw [e1,dh,dh,ax,bz]
    refine ⟨by omega,by omega,by omega,by omega,by omega,⟨hsb _,hpb _⟩,by omega,by omega,by omega,⟨rfl,rfl,by omega,by omega,?_⟩,by omega⟩
    rw [hs2,u7 (by rw [m9,b1];omega)]
    show ((mo xo _ _ _ _).map ae).set i [CD.int _] =_
    rw [Hp,b7,mo]
   ·simp only [aT] at h4
    have hi:i=136:=by omega
    subst hi
    refine ⟨⟨by omega,hsb⟩,R3 _ _,Ly _,by omega,⟨rfl,by omega,by omega,by omega,?_⟩,by omega⟩
    rw [show ((k:Int)+136).toNat / 136=k / 136+1 from by omega,fI,hsl,hs2,show 136*(k / 136)=k from by omega]
  ·simp only [aT] at h
   have hk2:k=(cu l).length:=by omega
   subst hk2
   exact ⟨hs,trivial⟩
 ·rintro s _ hs
  obtain ⟨b1,b2⟩:=ED (cu l) ((cu l).length / 136)
  have hsl:s.length=200:=by rw [hs,bA,b1]
  refine ⟨by omega,?_⟩
  rw [List.drop_zero,hs,nZ,ak,List.map_take]
theorem ap0:(base.with TR).Ok:=ac abs (ai aeI abs Tryz.func111 (by kernel_rfl) Tryz.call111 (by kernel_rfl) ah5)
end
end Go.Proofs.YteiecapbaeajdaaGreatDoor
