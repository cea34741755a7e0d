/-
 Once: the lock, the number that says that it is done.
-/
import Derived.Test.YteiecapbaeajdaaGreatDoorJ7
import Derived.Test.YteiecapbaeajdaaGreatDoorJ10
import Derived.Tactics
import Derived.Tactics2
import Derived.Defers
import Derived.Laws.Pointers
import Derived.RegionTactic
import Derived.RegionCalls
import Derived.ChangeAlike
import Derived.Test.YteiecapbaeajdaaGreatDoorJ8
open Nat renaming le_refl→ar5,xor→asA,shiftRight→asB,testBit_shiftRight→asC,testBit_or→asE,testBit_lt_two_pow→asF,lt_of_lt_of_le→asG,pow_le_pow_right→asH,add→asI,mul→asJ,mod→asK,div→asL,beq→asM,ble→asN,testBit_zero→asO,eq_of_beq_eq_true→asP,pow_zero→asQ,mul_one→anR,pow_succ→asR,mul_comm→asS,mul_left_comm→asT,add_mul→adS,mul_assoc→asU,testBit→asZ,testBit_mod_two_pow→as0,testBit_div_two_pow→as1,testBit_two_pow→as2,mod_lt→as3,sub_self→as7
open Option renaming bind_eq_some_iff→asz
open Bool renaming true_and→asD,xor→asW,false_and→asY,or_eq_true→as9
open Option.some renaming inj→asV
open List renaming range→asg,replicate→ab0,take→ar0,drop→ar1,getElem?_set→asX,map_map→as4,map_congr_left→as5,take_of_length_le→agv,drop_zero→as8,append_nil→aiz,length_take→ajw,drop_append→ata,drop_of_length_le→atb,nil_append→asp,take_append→af9,take_zero→atc
open Int renaming eq_ofNat_of_zero_le→as6
namespace Go.Proofs.YteiecapbaeajdaaGreatDoor
open Go Go.Avc Go.Proofs
set_option linter.unusedVariables false
set_option maxRecDepth 100000
noncomputable section
abbrev akn:Go.Conc.Locks.MuLink:= {lock:=321,unlock:=322,ilock:=325,iunlock:=326,lockSlow:=333,unlockSlow:=336,disable:=329,enable:=331,acquire:=332,relMerge:=334,cas32:=330,add32:=335,tMutex:=309,tIMutex:=307,tPMutex:=437,tPIMutex:=440,tPI32:=442,tUP:=444,tNoCopy:=301,tU32:=303}
theorem ZB:Go.Conc.Locks.MuLib Tryz.prog akn:=
 ⟨Tryz.func321,Tryz.func322,Tryz.func325,Tryz.func326,Tryz.func329,Tryz.func331,Tryz.func332,Tryz.func334,Tryz.func330,Tryz.func335,Tryz.underlying307,Tryz.runUnderlying307,Tryz.sizeOf307,Tryz.isAgg307,Tryz.zeroValue307,Tryz.underlying309,Tryz.runUnderlying309,Tryz.sizeOf309,Tryz.isAgg309,Tryz.zeroValue309,Tryz.underlying437,Tryz.runUnderlying437,Tryz.sizeOf437,Tryz.isAgg437,Tryz.zeroValue437,Tryz.underlying440,Tryz.runUnderlying440,Tryz.sizeOf440,Tryz.isAgg440,Tryz.zeroValue440,Tryz.underlying442,Tryz.runUnderlying442,Tryz.sizeOf442,Tryz.isAgg442,Tryz.zeroValue442,Tryz.underlying444,Tryz.runUnderlying444,Tryz.sizeOf444,Tryz.isAgg444,Tryz.zeroValue444,Tryz.underlying301,Tryz.runUnderlying301,Tryz.sizeOf301,Tryz.isAgg301,Tryz.zeroValue301,Tryz.underlying21,Tryz.runUnderlying21,Tryz.sizeOf21,Tryz.isAgg21,Tryz.zeroValue21,(by kernel_rfl)⟩
theorem af1 {a:Addr} {x:Int} {w:World} (hc:w.cell? a=some (.int .u32 x)):(callFunc 320 #[.pointer (some a)]).run Tryz.prog w= .ok (.value (.int .u32 x)) w:=
 run_call_load (P:=Tryz.prog) Tryz.func320 (by kernel_rfl) (by kernel_rfl) (by kernel_rfl) .u32 (by kernel_rfl) hc
theorem lock_free (a:Addr) (w:World) (hc:w.cell? a=some (.int .i32 0)) (hz:w.frozen? a=false):
  Calls Tryz.prog 321 #[.pointer (some a)] w fun e w'=>e= .returned (.tuple #[])∧w'=w.setCell a (.int .i32 1):=
 Go.MuLone.lock_free ZB a w hc hz
theorem unlock_deferred (a:Addr) (u:FrameMode) (w:World) (hc:w.cell? a=some (.int .i32 1)) (hz:w.frozen? a=false):
  CallsD Tryz.prog 322 #[.pointer (some a)] u w fun e u' w'=>u'=u∧(e= .returned (.tuple #[])∧w'=w.setCell a (.int .i32 0)):=
 Go.MuLone.unlock_deferred ZB a u w hc hz
theorem FN (a:Addr) (x:Value) (u:FrameMode) (w:World) (hc:w.cell? a=some x) (hz:w.frozen? a=false):
  CallsD Tryz.prog 323 #[.pointer (some a),.bool true] u w fun e u' w'=>u'=u∧(e= .returned (.tuple #[])∧w'=w.drew.setCell a (.int .u32 1)):=by
 have hc':w.drew.cell? a=some x:=by go_simp
 have hz':w.drew.frozen? a=false:=by go_simp
 have hst:=run_call_store (P:=Tryz.prog) Tryz.func327 (by kernel_rfl) (by kernel_rfl) (by kernel_rfl) (by kernel_rfl) (k:= .u32) (y:=1) hc' hz'
 go_enter_d Tryz.func323,Tryz.ntmps323
 go_wp2
 go_region_calls
 all_goals (go_end0;exact ⟨rfl,rfl⟩)
theorem Re (a:Addr) (x:Int) (w:World) (hc:w.cell? a=some (.int .u32 x)):Calls Tryz.prog 311 #[.pointer (some a)] w fun e w'=>e= .returned (.bool (!(x==0)))∧w'=w:=by
 have hl:=af1 hc
 go_enter Tryz.func311,Tryz.ntmps311
 go_wp2
 refine ⟨rfl,.bool (x !=0),?_,rfl,rfl⟩
 simp [results,Tryz.results311]
def OO (PC PM:List Int):Ct:= {ps:= [.ptr 0 0],bs:= [fj],pre:=fun | [.i _,.i _,.i _,.li z,.li m] =>z=fl∧m=jv | _=>False,res:=fun | [.i d,.i l,.i s,.li _,.li _] => .ret (.tup []) [fj] [.i d,.i l,.i s,.li PC,.li PM] | _=>ag}
def Wc (PC PM:List Int):Ct:= {ps:= [.ptr 0 0,.fb 298 [.ptr 0 0]],bs:= [fj],pre:=fun | [.i d,.i l,.i _,.li z,.li m] =>d=0∧l=0∧z=fl∧m=jv | _=>False,res:=fun | [.i _,.i _,.i s,.li _,.li _] => .ret (.tup []) [fj] [.i 1,.i 0,.i s,.li PC,.li PM] | _=>ag}
abbrev Ef (d l s:Int) (z m:List Int):Blk:= .cells 318 [.int .u32 d,.int .i32 l,.int .u32 s,.arrI 780 .u64 z,.arrI 36 .u64 m]
theorem apR {sp:ac} {PC PM:List Int} (hC:(base.with sp).Ok) (h298:b9 (base.with sp) 298 (aq (OO PC PM))):b9 (base.with sp) 312 (aq (Wc PC PM)):=by
 refine ws hC (fun svs hp ds=>∃ s,svs= [.ptr 0 0,.fb 298 [.ptr 0 0]] ∧hp= [Ef 0 0 s fl jv] ∧ds= [.i 0,.i 0,.i s,.li fl,.li jv]) ?_ (fun vs w _=>Tryz.call312 vs w) ?_
 ·rintro _ _ _ E Im ι w vs ⟨s,rfl,rfl,rfl⟩ _ _ hD hE hm hF hv
  obtain ⟨v0,_,rfl,⟨r,hr,rfl⟩,v1,_,rfl,⟨us,rfl,u0,_,rfl,⟨r',hr',rfl⟩,rfl⟩,rfl⟩:=hv
  rw [hr] at hr'
  cases hr'
  obtain ⟨_,e1,c1,z1,m1,l1⟩:=AE (p:= .ptr 0 1) hm ⟨r,hr,rfl⟩ rfl 1
  cases e1
  have m1':Mem (base.with sp) E [Ef 0 1 s fl jv] Im ι (w.setCell ⟨r,1,none⟩ (.int .i32 1)):=m1
  have hf:CallSem Tryz.prog 298 #[.pointer (some ⟨r,0,none⟩)] (w.setCell ⟨r,1,none⟩ (.int .i32 1)) (mG (base.with sp) E Im ι (w.setCell ⟨r,1,none⟩ (.int .i32 1)) 1 fun sv hp'=>sv= .tup [] ∧hp'= [Ef 0 1 s PC PM]):=by
   refine h298 [.ptr 0 0] [Ef 0 1 s fl jv] _ (fun b=>1≤b) ?_ E Im ι _ [_] m1' (fun b hb=>hF b hb) ⟨_,_,rfl,⟨r,hr,rfl⟩,rfl⟩
   have:(aq (OO PC PM) [.ptr 0 0] [Ef 0 1 s fl jv])= .need (fl=fl∧jv=jv) (.ret (.tup []) [(0,Ef 0 1 s PC PM)] []):=rfl
   rw [this]
   exact ⟨⟨rfl,rfl⟩,⟨rfl,rfl⟩,fun b h1 h2=>h1⟩
  have hld:(w.setCell ⟨r,1,none⟩ (.int .i32 1)).cell? ⟨r,0,none⟩=some (.int .u32 0):=by
   obtain ⟨_,g1,g2,_⟩:=AE (p:= .ptr 0 0) m1' ⟨r,hr,rfl⟩ rfl 1
   cases g1
   exact g2
  have hnot:∀ (x:Bool) (w:World),(Op.unary .not (.bool x)).run Tryz.prog w= .ok (.bool (!x)) w:=fun _ _=>rfl
  show Calls Tryz.prog 312 #[.pointer (some ⟨r,0,none⟩),.func (.func 298) #[.pointer (some ⟨r,0,none⟩)] #[]] w _
  go_enter_defers Tryz.func312,Tryz.ntmps312
  go_wp2_with (go_at_call 321;refine (lock_free ⟨r,1,none⟩ _ c1 z1).mono ?_;rintro e w' ⟨rfl,rfl⟩)
  go_wp2_with (go_at_call 311;refine (Re ⟨r,0,none⟩ 0 _ hld).mono ?_;rintro e w' ⟨rfl,rfl⟩)
  have hc298:Calls Tryz.prog 298 #[.pointer (some ⟨r,0,none⟩)] (w.setCell ⟨r,1,none⟩ (.int .i32 1)) (mG (base.with sp) E Im ι (w.setCell ⟨r,1,none⟩ (.int .i32 1)) 1 fun sv hp'=>sv= .tup [] ∧hp'= [Ef 0 1 s PC PM]):=by
   rcases hf with ⟨_,h⟩ | ⟨v,h,_⟩
   ·exact h
   ·rw [Tryz.call298] at h;cases h
  refine hc298.mono ?_
  rintro e w2 ⟨v,sv,hp2,Im2,ι2,rfl,⟨rfl,rfl⟩,⟨_,rfl,rfl⟩,m2,hlen,hk2,l2⟩
  go_wp2
  have hr2:ι2 0=some (.pointer (some ⟨r,0,none⟩)):=l2.hd 0 _ hr
  obtain ⟨m3,l3⟩:=m2.same (w':=w2.drew) ⟨rfl,rfl,rfl,ar5 _,fun _ _ _=>rfl⟩
  obtain ⟨_,e4,c4,z4,m4,l4⟩:=AE (p:= .ptr 0 0) m3 ⟨r,hr2,rfl⟩ rfl 1
  cases e4
  have m4':Mem (base.with sp) E [Ef 1 1 s PC PM] _ ι2 (w2.drew.setCell ⟨r,0,none⟩ (.int .u32 1)):=m4
  obtain ⟨_,e5,c9,z5,m5,l5⟩:=AE (p:= .ptr 0 1) m4' ⟨r,hr2,rfl⟩ rfl 0
  cases e5
  have m5':Mem (base.with sp) E [Ef 1 0 s PC PM] _ ι2 ((w2.drew.setCell ⟨r,0,none⟩ (.int .u32 1)).setCell ⟨r,1,none⟩ (.int .i32 0)):=m5
  refine leaves_cons (f:=323) (args:= #[.pointer (some ⟨r,0,none⟩),.bool true]) (by simp) (Tryz.call323 _ _) ?_
  refine (FN ⟨r,0,none⟩ _ .returning w2 c4 z4).mono ?_
  rintro e u' w'' ⟨rfl,rfl,rfl⟩
  refine leaves_cons (f:=322) (args:= #[.pointer (some ⟨r,1,none⟩)]) (by simp [settle]) (Tryz.call322 _ _) ?_
  refine (unlock_deferred ⟨r,1,none⟩ _ _ c9 z5).mono ?_
  rintro e u' w'' ⟨rfl,rfl,rfl⟩
  refine ⟨.tuple #[],by simp [results,Tryz.results312],?_⟩
  refine qB hC hE (((l1.trans l2).trans l3).trans (l4.trans l5)) hF (fun b hb=>hk2 b (fun h=>Nat.not_lt.2 h.1 hb)) m5' (sv:= .tup []) ⟨[],rfl,rfl⟩ _ ?_
  repeat (first | exact trivial | exact rfl | constructor)
 ·rintro d l s z m hz hm ⟨rfl,rfl,rfl,rfl⟩
  exact ⟨s,rfl,rfl,rfl⟩
end
end Go.Proofs.YteiecapbaeajdaaGreatDoor
namespace Go.Gr
set_option linter.unusedVariables false
open Go.NT
def lf:Nat:=21888242871839275222246405745257275088548364400416034343698204186575808495617
section
variable {σ:Type} (tn:σ→σ×Bool)
def bitF:Nat→σ→Option (σ×Bool)
 | 0,_=>none
 | n+1,s=>if (tn s).2=true then some (tn (tn s).1) else bitF n (tn (tn s).1).1
def kn (n:Nat):Nat→σ→Nat→Option (σ×Nat)
 | 0,s,v=>some (s,v)
 | k+1,s,v=>(bitF tn n s).bind fun y=>kn n k y.1 (2*v+y.2.toNat)
def elT (n:Nat):Nat→σ→Option (σ×Nat)
 | 0,_=>none
 | m+1,s=>(kn tn n 254 s 0).bind fun x=>if x.2<lf then some x else elT n m x.1
def fq (n:Nat):Nat→σ→Option σ
 | 0,s=>some s
 | c+1,s=>(elT tn n n s).bind fun y=>fq n c y.1
end
section
variable {σ:Type} {tn:σ→σ×Bool}
theorem zh:∀ {n m:Nat} {s:σ} {y},bitF tn n s=some y→n≤m→bitF tn m s=some y
 | 0,_,_,_,h,_=>by cases h
 | n+1,0,_,_,_,hm=>absurd hm (by omega)
 | n+1,m+1,s,y,h,hm=>by
  rw [bitF] at h ⊢
  split at h
  ·rename_i e;rw [if_pos e];exact h
  ·rename_i e;rw [if_neg e];exact zh h (by omega)
theorem qd {n m:Nat} (hm:n≤m):∀ {k:Nat} {s:σ} {v y},kn tn n k s v=some y→kn tn m k s v=some y
 | 0,_,_,_,h=>h
 | k+1,s,v,y,h=>by
  rw [kn] at h ⊢
  obtain ⟨x,h1,h2⟩:=asz.1 h
  rw [zh h1 hm]
  exact qd hm h2
theorem wN {n m:Nat} (hm:n≤m):∀ {a b:Nat} {s:σ} {y},elT tn n a s=some y→a≤b→elT tn m b s=some y
 | 0,_,_,_,h,_=>by cases h
 | a+1,0,_,_,_,hb=>absurd hb (by omega)
 | a+1,b+1,s,y,h,hb=>by
  rw [elT] at h ⊢
  obtain ⟨x,h1,h2⟩:=asz.1 h
  rw [qd hm h1]
  show (if x.2<lf then some x else elT tn m b x.1)=some y
  split at h2
  ·rename_i e;rw [if_pos e];exact h2
  ·rename_i e;rw [if_neg e];exact wN hm h2 (by omega)
theorem ju {n m:Nat} (hm:n≤m):∀ {c:Nat} {s y:σ},fq tn n c s=some y→fq tn m c s=some y
 | 0,_,_,h=>h
 | c+1,s,y,h=>by
  rw [fq] at h ⊢
  obtain ⟨x,h1,h2⟩:=asz.1 h
  rw [wN hm h1 hm]
  exact ju hm h2
theorem U2 {n a b:Nat} :∀ {s t u:σ},fq tn n a s=some t→fq tn n b t=some u→fq tn n (a+b) s=some u:=by
 induction a with
 | zero=>intro s t u h h2;cases h;rw [Nat.zero_add];exact h2
 | succ a ih=>
  intro s t u h h2
  rw [fq] at h
  obtain ⟨x,h1,h3⟩:=asz.1 h
  rw [show a+1+b=(a+b)+1 by omega,fq,h1]
  exact ih h3 h2
end
section
variable {σ τ:Type} {tn:σ→σ×Bool} {tm:τ→τ×Bool} {R:σ→τ→Prop} (hR:∀ s t,R s t→R (tn s).1 (tm t).1∧(tn s).2=(tm t).2)
include hR
theorem KD:∀ {n:Nat} {s:σ} {t:τ} {y},R s t→bitF tn n s=some y→∃ z,bitF tm n t=some z∧R y.1 z.1∧y.2=z.2
 | 0,_,_,_,_,h=>by cases h
 | n+1,s,t,y,r,h=>by
  obtain ⟨r1,e1⟩:=hR s t r
  obtain ⟨r2,e2⟩:=hR _ _ r1
  rw [bitF] at h
  rw [bitF,← e1]
  split at h
  ·rename_i e
   rw [if_pos e]
   cases h
   exact ⟨_,rfl,r2,e2⟩
  ·rename_i e
   rw [if_neg e]
   exact KD r2 h
theorem JE {n:Nat} :∀ {k:Nat} {s:σ} {t:τ} {v y},R s t→kn tn n k s v=some y→∃ z,kn tm n k t v=some z∧R y.1 z.1∧y.2=z.2
 | 0,s,t,v,y,r,h=>by cases h;exact ⟨_,rfl,r,rfl⟩
 | k+1,s,t,v,y,r,h=>by
  rw [kn] at h
  obtain ⟨x,h1,h2⟩:=asz.1 h
  obtain ⟨z,g1,g2,g3⟩:=KD hR r h1
  obtain ⟨z',g4,g5⟩:=JE (n:=n) g2 h2
  rw [kn,g1]
  refine ⟨z',?_,g5⟩
  show kn tm n k z.1 (2*v+z.2.toNat)=some z'
  rw [← g3]
  exact g4
theorem MO {n:Nat} :∀ {m:Nat} {s:σ} {t:τ} {y},R s t→elT tn n m s=some y→∃ z,elT tm n m t=some z∧R y.1 z.1∧y.2=z.2
 | 0,_,_,_,_,h=>by cases h
 | m+1,s,t,y,r,h=>by
  rw [elT] at h
  obtain ⟨x,h1,h2⟩:=asz.1 h
  obtain ⟨z,g1,g2,g3⟩:=JE hR r h1
  rw [elT,g1]
  show ∃ z',(if z.2<lf then some z else elT tm n m z.1)=some z'∧R y.1 z'.1∧y.2=z'.2
  rw [← g3]
  split at h2
  ·rename_i e
   rw [if_pos e]
   cases h2
   exact ⟨z,rfl,g2,g3⟩
  ·rename_i e
   rw [if_neg e]
   exact MO g2 h2
end
def wE (f:Nat→Bool):Bool:=((((f 0 ^^ f 13) ^^ f 23) ^^ f 38) ^^ f 51) ^^ f 62
def dQ (f:Nat→Bool):(Nat→Bool)×Bool:=(fun i=>if i<79 then f (i+1) else wE f,wE f)
def NR (S:Nat) (f:Nat→Bool):Prop:=∀ i,S.testBit i=(decide (i<80)&&f i)
def gm (S:Nat):Nat:=asA (asA (asA (asA (asA S (asB S 13)) (asB S 23)) (asB S 38)) (asB S 51)) (asB S 62)
def qT (S W:Nat):Nat:=Nat.lor (asB S 2) (Nat.shiftLeft (Nat.land W 3) 78)
theorem ML (S i:Nat):(gm S).testBit i=(((((S.testBit i ^^ S.testBit (13+i)) ^^ S.testBit (23+i)) ^^ S.testBit (38+i)) ^^ S.testBit (51+i)) ^^ S.testBit (62+i)):=by
 show (S ^^^ S >>> 13 ^^^ S >>> 23 ^^^ S >>> 38 ^^^ S >>> 51 ^^^ S >>> 62).testBit i=_
 simp only [Nat.testBit_xor,asC]
theorem NR.at {S:Nat} {f:Nat→Bool} (h:NR S f) {i:Nat} (hi:i<80):S.testBit i=f i:=by
 rw [h i,decide_eq_true hi,asD]
theorem Nn {S:Nat} {f:Nat→Bool} (h:NR S f):(gm S).testBit 0=(dQ f).2∧(gm S).testBit 1=(dQ (dQ f).1).2∧NR (qT S (gm S)) (dQ (dQ f).1).1:=by
 have e0:(gm S).testBit 0=wE f:=by
  rw [ML]
  unfold wE
  rw [← h.at (i:=0) (by omega),← h.at (i:=13) (by omega),← h.at (i:=23) (by omega),← h.at (i:=38) (by omega),← h.at (i:=51) (by omega),← h.at (i:=62) (by omega)]
 have e1:(gm S).testBit 1=wE (dQ f).1:=by
  rw [ML]
  show _=(((((f 1 ^^ f 14) ^^ f 24) ^^ f 39) ^^ f 52) ^^ f 63)
  rw [← h.at (i:=1) (by omega),← h.at (i:=14) (by omega),← h.at (i:=24) (by omega),← h.at (i:=39) (by omega),← h.at (i:=52) (by omega),← h.at (i:=63) (by omega)]
 refine ⟨e0,e1,fun i=> ?_⟩
 show (S >>> 2 |||((gm S &&&3) <<< 78)).testBit i=(decide (i<80)&&if i<79 then (if i+1<79 then f (i+1+1) else wE f) else wE (dQ f).1)
 rw [asE,asC,Nat.testBit_shiftLeft,Nat.testBit_and,h (2+i)]
 by_cases h1:i<78
 ·rw [if_pos (by omega),if_pos (by omega),show 2+i=i+1+1 by omega]
  simp [show ¬ 78≤i by omega,show i<80 by omega,show i+1+1<80 by omega]
 ·by_cases h2:i=78
  ·subst h2
   rw [e0]
   simp
  ·by_cases h3:i=79
   ·subst h3
    rw [e1]
    simp
    intro _
    decide
   ·have h4:(3:Nat).testBit (i-78)=false:=asF (asG (by decide:3<2 ^ 2) (asH (by decide) (by omega)))
    rw [h4]
    simp [show ¬ 2+i<80 by omega,show ¬ i<80 by omega]
noncomputable def run (S1 f:Nat):Nat→Nat→Nat→Nat→Bool:=
 Nat.rec (motive:=fun _=>Nat→Nat→Nat→Nat→Bool) (fun _ _ _ _=>false) (fun _ ih S k v c=>
  fr (gm S) fun W=>fr (qT S W) fun S'=>
   Nat.rec (motive:=fun _=>Bool) (ih S' k v c) (fun _ _=>
    fr (asI (asJ 2 v) (asK (asL W 2) 2)) fun v'=>
     Nat.rec (motive:=fun _=>Bool) (Bool.rec (motive:=fun _=>Bool) (ih S' 253 0 c) (Nat.rec (motive:=fun _=>Bool) (asM S' S1) (fun c' _=>ih S' 253 0 c') c) (asN (Nat.succ v') lf)) (fun k' _=>ih S' k' v' c) k) (asK W 2)) f
theorem aus (W:Nat):W.testBit 0=decide (W%2=1):=asO W
theorem avS (W:Nat):(W.testBit 1).toNat=W / 2%2:=by
 rw [show (1:Nat)=0+1 from rfl,Nat.testBit_succ,asO]
 have:W / 2%2=0∨W / 2%2=1:=by omega
 rcases this with h | h <;>rw [h] <;>rfl
theorem xe {f c:Nat} {s:Nat→Bool} {x} {S1:Nat} (h:kn dQ f 254 s 0=some x) (h1:x.2<lf→∃ s1,fq dQ f c x.1=some s1∧NR S1 s1) (h2:¬ x.2<lf→∃ s1,fq dQ f (c+1) x.1=some s1∧NR S1 s1):∃ s1,fq dQ (f+1) (c+1) s=some s1∧NR S1 s1:=by
 have g:=qd (m:=f+1) (by omega) h
 rw [fq,elT,g]
 show ∃ s1,((if x.2<lf then some x else elT dQ (f+1) f x.1).bind fun y=>fq dQ (f+1) c y.1)=some s1∧NR S1 s1
 split
 ·rename_i e
  obtain ⟨s1,g1,g2⟩:=h1 e
  exact ⟨s1,ju (by omega) g1,g2⟩
 ·rename_i e
  obtain ⟨s1,g1,g2⟩:=h2 e
  rw [fq] at g1
  obtain ⟨y,g3,g4⟩:=asz.1 g1
  rw [wN (m:=f+1) (by omega) g3 (ar5 _)]
  exact ⟨s1,ju (by omega) g4,g2⟩
theorem Aj (S1:Nat):∀ f S k v c (s:Nat→Bool),NR S s→run S1 f S k v c=true→
  ∃ x,kn dQ f (k+1) s v=some x∧(x.2<lf→∃ s1,fq dQ f c x.1=some s1∧NR S1 s1)∧(¬ x.2<lf→∃ s1,fq dQ f (c+1) x.1=some s1∧NR S1 s1)
 | 0,S,k,v,c,s,hs,h=>by cases h
 | f+1,S,k,v,c,s,hs,h=>by
  obtain ⟨p0,p1,p2⟩:=Nn hs
  have h':(fr (gm S) fun W=>fr (qT S W) fun S'=>
   Nat.rec (motive:=fun _=>Bool) (run S1 f S' k v c) (fun _ _=>
    fr (asI (asJ 2 v) (asK (asL W 2) 2)) fun v'=>
     Nat.rec (motive:=fun _=>Bool) (Bool.rec (motive:=fun _=>Bool) (run S1 f S' 253 0 c) (Nat.rec (motive:=fun _=>Bool) (asM S' S1) (fun c' _=>run S1 f S' 253 0 c') c) (asN (Nat.succ v') lf)) (fun k' _=>run S1 f S' k' v' c) k) (asK W 2))=true:=h
  rw [my,my] at h'
  clear h
  rw [aus] at p0
  rw [kn,bitF,← p0]
  have hm:asK (gm S) 2=0∨asK (gm S) 2=1:=by
   show gm S%2=0∨gm S%2=1
   omega
  rcases hm with hm | hm
  ·
   rw [hm] at h'
   have hm':gm S%2=0:=hm
   obtain ⟨x,g1,g2,g3⟩:=Aj S1 f _ k v c _ p2 h'
   rw [kn] at g1
   obtain ⟨y,g4,g5⟩:=asz.1 g1
   rw [if_neg (by rw [hm'];decide),g4]
   refine ⟨x,qd (by omega) g5,fun e=> ?_,fun e=> ?_⟩
   ·obtain ⟨s1,k1,k2⟩:=g2 e
    exact ⟨s1,ju (by omega) k1,k2⟩
   ·obtain ⟨s1,k1,k2⟩:=g3 e
    exact ⟨s1,ju (by omega) k1,k2⟩
  ·rw [hm] at h'
   have hm':gm S%2=1:=hm
   have hv:(2*v+((gm S).testBit 1).toNat)=asI (asJ 2 v) (asK (asL (gm S) 2) 2):=by rw [avS];rfl
   have h2:(fr (asI (asJ 2 v) (asK (asL (gm S) 2) 2)) fun v'=>
     Nat.rec (motive:=fun _=>Bool) (Bool.rec (motive:=fun _=>Bool) (run S1 f (qT S (gm S)) 253 0 c) (Nat.rec (motive:=fun _=>Bool) (asM (qT S (gm S)) S1) (fun c' _=>run S1 f (qT S (gm S)) 253 0 c') c) (asN (Nat.succ v') lf)) (fun k' _=>run S1 f (qT S (gm S)) k' v' c) k)=true:=h'
   rw [my,← hv] at h2
   clear h'
   rw [if_pos (by rw [hm'];rfl)]
   show ∃ x,kn dQ (f+1) k (dQ (dQ s).1).1 (2*v+((dQ (dQ s).1).2).toNat)=some x∧_
   rw [← p1]
   generalize 2*v+((gm S).testBit 1).toNat=v' at h2 ⊢
   cases k with
   | succ k=>
    have h2:run S1 f (qT S (gm S)) k v' c=true:=h2
    obtain ⟨x,g1,g2,g3⟩:=Aj S1 f _ k v' c _ p2 h2
    refine ⟨x,qd (by omega) g1,fun e=> ?_,fun e=> ?_⟩
    ·obtain ⟨s1,k1,k2⟩:=g2 e
     exact ⟨s1,ju (by omega) k1,k2⟩
    ·obtain ⟨s1,k1,k2⟩:=g3 e
     exact ⟨s1,ju (by omega) k1,k2⟩
   | zero=>
    have h2:Bool.rec (motive:=fun _=>Bool) (run S1 f (qT S (gm S)) 253 0 c) (Nat.rec (motive:=fun _=>Bool) (asM (qT S (gm S)) S1) (fun c' _=>run S1 f (qT S (gm S)) 253 0 c') c) (asN (Nat.succ v') lf)=true:=h2
    refine ⟨_,rfl,fun e=> ?_,fun e=> ?_⟩
    ·have e:v'<lf:=e
     rw [show asN (Nat.succ v') lf=true from Nat.ble_eq_true_of_le e] at h2
     cases c with
     | zero=>
      have h2:asM (qT S (gm S)) S1=true:=h2
      refine ⟨_,rfl,?_⟩
      rw [← asP h2]
      exact p2
     | succ c=>
      have h2:run S1 f (qT S (gm S)) 253 0 c=true:=h2
      obtain ⟨x,g1,g2,g3⟩:=Aj S1 f _ 253 0 c _ p2 h2
      exact xe g1 g2 g3
    ·have e:¬ v'<lf:=e
     rw [show asN (Nat.succ v') lf=false from by
      cases hb:asN (Nat.succ v') lf with
      | false=>rfl
      | true=>exact absurd (Nat.le_of_ble_eq_true hb) e] at h2
     have h2:run S1 f (qT S (gm S)) 253 0 c=true:=h2
     obtain ⟨x,g1,g2,g3⟩:=Aj S1 f _ 253 0 c _ p2 h2
     exact xe g1 g2 g3
theorem aa4 {S1 f S c:Nat} {s:Nat→Bool} (hs:NR S s) (h:run S1 f S 253 0 c=true):∃ s1,fq dQ (f+1) (c+1) s=some s1∧NR S1 s1:=by
 obtain ⟨x,g1,g2,g3⟩:=Aj S1 f S 253 0 c s hs h
 exact xe g1 g2 g3
def GX {σ:Type} (tn:σ→σ×Bool):Nat→σ→σ
 | 0,s=>s
 | k+1,s=>GX tn k (tn s).1
theorem FB {σ τ:Type} {tn:σ→σ×Bool} {tm:τ→τ×Bool} {R:σ→τ→Prop} (hR:∀ s t,R s t→R (tn s).1 (tm t).1∧(tn s).2=(tm t).2):∀ (k:Nat) {s:σ} {t:τ},R s t→R (GX tn k s) (GX tm k t)
 | 0,_,_,r=>r
 | k+1,s,t,r=>FB hR k (hR s t r).1
noncomputable def UA (S1 k:Nat):Nat→Bool:=
 Nat.rec (motive:=fun _=>Nat→Bool) (fun S=>asM S S1) (fun _ ih S=>fr (gm S) fun W=>fr (qT S W) ih) k
theorem MC {S1:Nat} :∀ (k:Nat) {S:Nat} {f:Nat→Bool},NR S f→UA S1 k S=true→NR S1 (GX dQ (2*k) f)
 | 0,S,f,h,e=>by
  have e:asM S S1=true:=e
  rw [← asP e]
  exact h
 | k+1,S,f,h,e=>by
  have e:(fr (gm S) fun W=>fr (qT S W) (UA S1 k))=true:=e
  rw [my,my] at e
  exact MC k (Nn h).2.2 e
section
variable {σ:Type} (tn:σ→σ×Bool) (n:Nat)
def bS (s:σ):σ:=((bitF tn n s).getD (s,false)).1
def bV (s:σ):Bool:=((bitF tn n s).getD (s,false)).2
def nS (s:σ):Nat→σ×Nat
 | 0=>(s,0)
 | k+1=>(bS tn n (nS s k).1,2*(nS s k).2+(bV tn n (nS s k).1).toNat)
def HD (s:σ):σ:=((elT tn n n s).getD (s,0)).1
def EF (s:σ):Nat:=((elT tn n n s).getD (s,0)).2
def zd (s:σ):Nat→σ
 | 0=>s
 | k+1=>HD tn n (zd s k)
def ndB:Nat→σ→Nat
 | 0,_=>0
 | k+1,s=>if (tn s).2=true then 0 else ndB k (tn (tn s).1).1+1
def ndE:Nat→σ→Nat
 | 0,_=>0
 | k+1,s=>if (nS tn n s 254).2<lf then 0 else ndE k (nS tn n s 254).1+1
end
section
variable {σ:Type} {tn:σ→σ×Bool} {n:Nat}
theorem zW {s:σ} {y} (h:bitF tn n s=some y):y=(bS tn n s,bV tn n s):=by
 unfold bS bV
 rw [h]
 rfl
theorem CJ {s:σ} {y} (h:elT tn n n s=some y):y=(HD tn n s,EF tn n s):=by
 unfold HD EF
 rw [h]
 rfl
theorem CM (s:σ):∀ k,(nS tn n s (k+1)).1=(nS tn n (bS tn n s) k).1∧(nS tn n s (k+1)).2=(bV tn n s).toNat*2 ^ k+(nS tn n (bS tn n s) k).2
 | 0=>⟨rfl,by show 2*0+_=_*2 ^ 0+0;rw [asQ,anR,Nat.mul_zero,Nat.zero_add,Nat.add_zero];rfl⟩
 | k+1=>by
  obtain ⟨h1,h2⟩:=CM s k
  constructor
  ·show bS tn n (nS tn n s (k+1)).1=bS tn n (nS tn n (bS tn n s) k).1
   rw [h1]
  ·show 2*(nS tn n s (k+1)).2+(bV tn n (nS tn n s (k+1)).1).toNat=_+(2*(nS tn n (bS tn n s) k).2+(bV tn n (nS tn n (bS tn n s) k).1).toNat)
   rw [h1,h2,asR,Nat.mul_add]
   rw [show (bV tn n s).toNat*(2 ^ k*2)=2*((bV tn n s).toNat*2 ^ k) by rw [asS (2 ^ k) 2,asT]]
   omega
theorem G0:∀ {k:Nat} {s:σ} {v y},kn tn n k s v=some y→y.1=(nS tn n s k).1∧y.2=v*2 ^ k+(nS tn n s k).2∧∀ j,j<k→∃ z,bitF tn n (nS tn n s j).1=some z
 | 0,s,v,y,h=>by cases h;exact ⟨rfl,by show v=v*2 ^ 0+0;omega,fun j hj=>absurd hj (Nat.not_lt_zero _)⟩
 | k+1,s,v,y,h=>by
  rw [kn] at h
  obtain ⟨x,h1,h2⟩:=asz.1 h
  obtain rfl:=zW h1
  obtain ⟨g1,g2,g3⟩:=G0 h2
  obtain ⟨e1,e2⟩:=CM (tn:=tn) (n:=n) s k
  refine ⟨g1.trans e1.symm,?_,fun j hj=> ?_⟩
  ·rw [g2,e2,asR]
   show (2*v+(bV tn n s).toNat)*2 ^ k+(nS tn n (bS tn n s) k).2=v*(2 ^ k*2)+((bV tn n s).toNat*2 ^ k+(nS tn n (bS tn n s) k).2)
   rw [adS,show v*(2 ^ k*2)=2*v*2 ^ k by rw [asS (2 ^ k) 2,asT,asU]]
   omega
  ·cases j with
   | zero=>exact ⟨_,h1⟩
   | succ j=>
    rw [(CM s j).1]
    exact g3 j (by omega)
theorem avT {s:σ} {y} (h:kn tn n 254 s 0=some y):y=nS tn n s 254∧∀ j,j<254→∃ z,bitF tn n (nS tn n s j).1=some z:=by
 obtain ⟨g1,g2,g3⟩:=G0 h
 refine ⟨Prod.ext g1 ?_,g3⟩
 rw [g2]
 omega
theorem Cr {m:Nat} {s:σ} {y} (h:elT tn n (m+1) s=some y):(∀ j,j<254→∃ z,bitF tn n (nS tn n s j).1=some z)∧(((nS tn n s 254).2<lf∧y=nS tn n s 254)∨(¬ (nS tn n s 254).2<lf∧elT tn n m (nS tn n s 254).1=some y)):=by
 rw [elT] at h
 obtain ⟨x,h1,h2⟩:=asz.1 h
 obtain ⟨rfl,g⟩:=avT h1
 refine ⟨g,?_⟩
 split at h2
 ·rename_i e
  exact .inl ⟨e,(asV h2).symm⟩
 ·rename_i e
  exact .inr ⟨e,h2⟩
theorem E9:∀ {m:Nat} {s:σ} {y},elT tn n m s=some y→ndE tn n (m+1) s=ndE tn n m s
 | 0,_,_,h=>by cases h
 | m+1,s,y,h=>by
  rcases (Cr h).2 with ⟨e,_⟩ | ⟨e,g⟩
  ·rw [show ndE tn n (m+1+1) s=0 from by rw [ndE,if_pos e],show ndE tn n (m+1) s=0 from by rw [ndE,if_pos e]]
  ·rw [ndE,if_neg e,E9 g]
   conv=>rhs;rw [ndE,if_neg e]
theorem agb {m:Nat} {s:σ} {y} (h:elT tn n (m+1) s=some y) (e:¬ (nS tn n s 254).2<lf):ndE tn n (m+1) (nS tn n s 254).1<ndE tn n (m+1) s:=by
 rcases (Cr h).2 with ⟨e',_⟩ | ⟨_,g⟩
 ·exact absurd e' e
 ·rw [E9 g]
  conv=>rhs;rw [ndE,if_neg e]
  omega
theorem tz {m:Nat} {s:σ} {y} (h:bitF tn (m+1) s=some y):((tn s).2=true∧y=tn (tn s).1)∨(¬ (tn s).2=true∧bitF tn m (tn (tn s).1).1=some y):=by
 rw [bitF] at h
 split at h
 ·rename_i e
  exact .inl ⟨e,(asV h).symm⟩
 ·rename_i e
  exact .inr ⟨e,h⟩
theorem C6:∀ {m:Nat} {s:σ} {y},bitF tn m s=some y→ndB tn (m+1) s=ndB tn m s
 | 0,_,_,h=>by cases h
 | m+1,s,y,h=>by
  rcases tz h with ⟨e,_⟩ | ⟨e,g⟩
  ·rw [show ndB tn (m+1+1) s=0 from by rw [ndB,if_pos e],show ndB tn (m+1) s=0 from by rw [ndB,if_pos e]]
  ·rw [ndB,if_neg e,C6 g]
   conv=>rhs;rw [ndB,if_neg e]
theorem aj5 {m:Nat} {s:σ} {y} (h:bitF tn (m+1) s=some y) (e:¬ (tn s).2=true):ndB tn (m+1) (tn (tn s).1).1<ndB tn (m+1) s:=by
 rcases tz h with ⟨e',_⟩ | ⟨_,g⟩
 ·exact absurd e' e
 ·rw [C6 g]
  conv=>rhs;rw [ndB,if_neg e]
  omega
end
theorem XW {σ:Type} {tn:σ→σ×Bool} {n:Nat} (s:σ):∀ k,(nS tn n s k).2<2 ^ k
 | 0=>by show 0<2 ^ 0;decide
 | k+1=>by
  have h:=XW (tn:=tn) (n:=n) s k
  show 2*(nS tn n s k).2+(bV tn n (nS tn n s k).1).toNat<2 ^ (k+1)
  have hb:(bV tn n (nS tn n s k).1).toNat≤1:=Bool.toNat_le _
  rw [asR]
  omega
theorem Hh {σ:Type} {tn:σ→σ×Bool} :∀ (k:Nat) (s:σ),GX tn (k+1) s=(tn (GX tn k s)).1
 | 0,s=>rfl
 | k+1,s=>Hh k (tn s).1
section
variable {σ:Type} {tn:σ→σ×Bool} {R:(Nat→Bool)→σ→Prop} (hR:∀ f s,R f s→R (dQ f).1 (tn s).1∧(dQ f).2=(tn s).2)
include hR
theorem NH {n c:Nat} {f:Nat→Bool} {s:σ} (r:R f s) (h:∃ t,fq dQ n (c+1) f=some t):(∃ y,elT tn n n s=some y)∧∃ f',R f' (HD tn n s)∧EF dQ n f=EF tn n s∧f'=HD dQ n f∧∃ t,fq dQ n c f'=some t:=by
 obtain ⟨t,h⟩:=h
 rw [fq] at h
 obtain ⟨x,h1,h2⟩:=asz.1 h
 obtain ⟨z,g1,g2,g3⟩:=MO hR r h1
 have e1:=CJ h1
 have e2:=CJ g1
 refine ⟨⟨z,g1⟩,x.1,?_,?_,?_,t,h2⟩
 ·rw [e2] at g2;exact g2
 ·rw [e1,e2] at g3;exact g3
 ·rw [e1]
theorem ahQ {n:Nat} {f:Nat→Bool} {s:σ} (r:R f s):∀ {c:Nat},(∃ t,fq dQ n c f=some t)→∀ k,k≤c→R (zd dQ n f k) (zd tn n s k)∧(k<c→(∃ y,elT tn n n (zd tn n s k)=some y)∧EF dQ n (zd dQ n f k)=EF tn n (zd tn n s k)):=by
 intro c h
 have key:∀ k,k≤c→R (zd dQ n f k) (zd tn n s k)∧∃ t,fq dQ n (c-k) (zd dQ n f k)=some t:=by
  intro k
  induction k with
  | zero=>intro _;exact ⟨r,h⟩
  | succ k ih=>
   intro hk
   obtain ⟨r1,g1⟩:=ih (by omega)
   rw [show c-k=(c-(k+1))+1 by omega] at g1
   obtain ⟨_,f',r2,_,rfl,g2⟩:=NH hR r1 g1
   exact ⟨r2,g2⟩
 intro k hk
 obtain ⟨r1,g1⟩:=key k hk
 refine ⟨r1,fun hk=> ?_⟩
 rw [show c-k=(c-(k+1))+1 by omega] at g1
 obtain ⟨g2,f',_,g3,_⟩:=NH hR r1 g1
 exact ⟨g2,g3⟩
end
end Go.Gr
namespace Go.Gr
open Go.NT
set_option linter.unusedVariables false
set_option maxRecDepth 100000
def S0:Nat:=1054779284662495806955078
theorem auR:run 999174705490707553717312 10678 1054779284662495806955078 253 0 14=true:=by decide+kernel
theorem avw:run 418328267167306447365908 9679 999174705490707553717312 253 0 14=true:=by decide+kernel
theorem auP:run 433363821783630878832079 9584 418328267167306447365908 253 0 14=true:=by decide+kernel
theorem at8:run 356328303007743741929154 10819 433363821783630878832079 253 0 14=true:=by decide+kernel
theorem atW:run 1055608989479224715550196 11059 356328303007743741929154 253 0 14=true:=by decide+kernel
theorem au8:run 564586389437900258055798 12252 1055608989479224715550196 253 0 14=true:=by decide+kernel
theorem auW:run 340977711709139159961964 10800 564586389437900258055798 253 0 14=true:=by decide+kernel
theorem avv:run 327123193798460977430752 8816 340977711709139159961964 253 0 14=true:=by decide+kernel
theorem atY:run 577162527295589100039751 9683 327123193798460977430752 253 0 14=true:=by decide+kernel
theorem avj:run 498078583995691842386800 10597 577162527295589100039751 253 0 14=true:=by decide+kernel
theorem anL:run 594832864600806802581479 11306 498078583995691842386800 253 0 14=true:=by decide+kernel
theorem aou:run 444706336920318979415915 10203 594832864600806802581479 253 0 14=true:=by decide+kernel
theorem apn:run 1013386232571974362401034 9568 444706336920318979415915 253 0 14=true:=by decide+kernel
def SQ:Nat:=1208925819174894048508930
theorem alj:UA S0 80 SQ=true:=by decide+kernel
def bJ:Nat:=200000
theorem step {S1 f S c d:Nat} {s:Nat→Bool} (hs:NR S s) (h:run S1 f S 253 0 c=true) (hf:f+1≤bJ) (hn:∀ s1,NR S1 s1→∃ t,fq dQ bJ d s1=some t):∃ t,fq dQ bJ (c+1+d) s=some t:=by
 obtain ⟨s1,g1,g2⟩:=aa4 hs h
 obtain ⟨t,g3⟩:=hn s1 g2
 exact ⟨t,U2 (ju hf g1) g3⟩
theorem anB:∀ s,NR S0 s→∃ t,fq dQ bJ 195 s=some t:=
 fun s0 h0=>step (d:=180) h0 auR (by decide) (fun s1 h1=>step (d:=165) h1 avw (by decide) (fun s2 h2=>step (d:=150) h2 auP (by decide) (fun s3 h3=>step (d:=135) h3 at8 (by decide) (fun s4 h4=>step (d:=120) h4 atW (by decide) (fun s5 h5=>step (d:=105) h5 au8 (by decide) (fun s6 h6=>step (d:=90) h6 auW (by decide) (fun s7 h7=>step (d:=75) h7 avv (by decide) (fun s8 h8=>step (d:=60) h8 atY (by decide) (fun s9 h9=>step (d:=45) h9 avj (by decide) (fun s10 h10=>step (d:=30) h10 anL (by decide) (fun s11 h11=>step (d:=15) h11 aou (by decide) (fun s12 h12=>step (d:=0) h12 apn (by decide) (fun s1 _=>⟨s1,rfl⟩)))))))))))))
end Go.Gr
namespace Go.Proofs.YteiecapbaeajdaaGreatDoor
open Go Go.Avc Go.Gr
set_option linter.unusedVariables false
abbrev qG:BPat:= .cells 429 [.arrB 80,i64]
abbrev Rg:=List Bool×Int
def oO (s:Rg) (i:Nat):Bool:=s.1.getD ((s.2+(i:Int))%80).toNat false
def yj (s:Rg):Nat→Bool
 | 0=>oO s 0
 | k+1=>asW (yj s k) (oO s ([13,23,38,51,62].getD k 0))
def bf (s:Rg):Rg×Bool:=((s.1.set s.2.toNat (yj s 5),(s.2+1)%80),yj s 5)
def oI (s:Rg):Prop:=s.1.length=80∧0≤s.2∧s.2<80
def avz:LD:=([13,23,38,51,62] :List Int).map ae
noncomputable def jm (s:Rg):Rg×Bool:=hid (bf s)
noncomputable def uH (s:Rg):Rg:=hid (bS bf bJ s)
noncomputable def Nr (s:Rg):Bool:=hid (bV bf bJ s)
noncomputable def Kt (s:Rg) (k:Nat):Rg×Nat:=hid (nS bf bJ s k)
noncomputable def yk (s:Rg):Rg:=hid (HD bf bJ s)
noncomputable def FO (s:Rg):Nat:=hid (EF bf bJ s)
def zX (s:Rg):Prop:=oI s∧∃ y,bitF bf bJ s=some y
def B3 (s:Rg):Prop:=oI s∧∃ y,elT bf bJ bJ s=some y
def gQ (v:Nat):List Int:=(asg 32).map fun j=>((v / 256 ^ j%256:Nat):Int)
noncomputable def BQ (v:Nat):List Int:=hid (de (gk ((gQ v).map ae)))
noncomputable def xR (s:Rg) (k:Nat):List Int:=hid (gQ ((nS bf bJ s k).2*2 ^ (254-k)))
def gT (n b:Int) (l:List Bool) (p:Int):Nat→List Bool
 | 0=>l
 | j+1=>(gT n b l p j).set (p+j).toNat (decide (dp .i64 (aL .i64 n (b-1-j)) 1=1))
noncomputable def kg (n b:Int) (l:List Bool) (p:Int):List Bool:=hid (gT n b l p b.toNat)
def f80:List Bool:=ab0 80 false
def IR:List Bool:=gT 1073741823 30 (gT 57 10 (gT 8 10 (gT 3 12 (gT 254 12 (gT 0 4 (gT 1 2 f80 0 2) 2 4) 6 12) 18 12) 30 10) 40 10) 50 30
noncomputable def JO (k:Nat):Rg:=hid (GX bf k (IR,0))
noncomputable def Ab:Rg:=JO 160
noncomputable def th (k:Nat):Rg:=hid (zd bf bJ Ab k)
noncomputable def Gf:Nat→List Int
 | 0=> []
 | k+1=>Gf k++BQ (FO (th k))
noncomputable def kY (k:Nat):List Int:=hid (Gf k++ab0 (780-4*k) 0)
def Is:Ct:= {ps:= [.ptr 0 0],bs:= [qG],pre:=fun | [.lb l,.i a] =>oI (l,a) | _=>False,res:=fun | [.lb l,.i a] => .ret .bool [qG] [.b (bf (l,a)).2,.lb (bf (l,a)).1.1,.i (bf (l,a)).1.2] | _=>ag}
def ah1:List Dat→Ann
 | [.lb l,.i a] => {cut:= [],loop:= [(3,[la 55 [(0,.ptr 0 0),(3,.bool),(15,.own 1),(16,i64),(17,i64)] [qG,.own 3 [.int .i64]] (fun
   | [.b b,.i n,.i i,.lb l',.i a',.r ks] =>n=5∧0≤i∧i≤5∧l'=l∧a'=a∧ks=avz∧b=yj (l,a) i.toNat
   | _=>False) (fun | [_,_,.i i,_,_,_] =>(5-i).toNat | _=>0)])]}
 | _=> {cut:= [],loop:= []}
noncomputable def D5:Ct:= {Is with res:=fun | [.lb l,.i a] => .ret .bool [qG] [.b (jm (l,a)).2,.lb (jm (l,a)).1.1,.i (jm (l,a)).1.2] | _=>ag}
theorem S3:D5=Is:=by
 unfold D5 Is jm
 simp only [al]
theorem aib {C:Ctx} (h:b9 C 317 (aq Is)):b9 C 317 (aq D5):=by
 rw [S3]
 exact h
noncomputable def aot:Ct:= {ps:= [.ptr 0 0],bs:= [qG],pre:=fun | [.lb l,.i a] =>zX (l,a) | _=>False,res:=fun | [.lb l,.i a] => .ret .bool [qG] [.b (Nr (l,a)),.lb (uH (l,a)).1,.i (uH (l,a)).2] | _=>ag}
def acw:List Dat→Ann
 | [.lb l,.i a] => {cut:= [],loop:= [(1,[la 12 [(0,.ptr 0 0)] [qG] (fun
   | [.lb l',.i a'] =>zX (l',a')∧bitF bf bJ (l',a')=bitF bf bJ (l,a)
   | _=>False) (fun | [.lb l',.i a'] =>ndB bf bJ (l',a') | _=>0)])]}
 | _=> {cut:= [],loop:= []}
noncomputable def aol:Ct:= {ps:= [.ptr 0 0],bs:= [qG],pre:=fun | [.lb l,.i a] =>B3 (l,a) | _=>False,res:=fun | [.lb l,.i a] => .ret w4 [qG] [.li (BQ (FO (l,a))),.lb (yk (l,a)).1,.i (yk (l,a)).2] | _=>ag}
noncomputable def aha:List Dat→Ann
 | [.lb l,.i a] =>⟨[],[(1,[la 30 [(0,.ptr 0 0),(2,.ptr 1 0)] [qG,qe] (fun
   | [.lb l',.i a',.li _] =>B3 (l',a')∧elT bf bJ bJ (l',a')=elT bf bJ bJ (l,a)
   | _=>False) (fun | [.lb l',.i a',.li _] =>ndE bf bJ bJ (l',a') | _=>0)])],
  [(3,[la 30 [(0,.ptr 0 0),(2,.ptr 1 0),(3,.ptr 2 0),(4,i64)] [qG,qe,.cells 79 [.arrI 32 .u8]] kf jS],fun
   | [.i _,.lb l0,.i a0,.li _,.li _] => [la 30 [(0,.ptr 0 0),(2,.ptr 1 0),(3,.ptr 2 0),(4,i64)] [qG,qe,.cells 79 [.arrI 32 .u8]] (fun
    | [.i i,.lb l',.i a',.li _,.li b] => -1≤i∧i≤253∧(l',a')=(Kt (l0,a0) (253-i).toNat).1∧b=xR (l0,a0) (253-i).toNat
    | _=>False) (fun | [.i i,_,_,_,_] =>(i+1).toNat | _=>0)]
   | _=> [])]⟩
 | _=> {cut:= [],loop:= []}
abbrev TX:BPat:= .cells 421 [.ptr 2 0]
noncomputable def amh:Ct:= {ps:= [i64,i64,.ptr 0 0,.ptr 1 0],bs:= [TX,.cells 3 [i64],qG],pre:=fun | [.i n,.i k,.i p,.lb l,.i _] =>0≤n∧n≤1073741823∧0≤k∧k≤30∧0≤p∧p+k≤80∧l.length=80 | _=>False,res:=fun
 | [.i n,.i k,.i p,.lb l,.i a] => .ret (.tup []) [TX,.cells 3 [i64],qG] [.i (p+k),.lb (kg n k l p),.i a]
 | _=>ag}
noncomputable def akM:List Dat→Ann
 | [.i n,.i k,.i p,.lb l,.i a] => {cut:= [],loop:= [(1,[la 25 [(0,i64),(2,.ptr 0 0),(3,.ptr 1 0),(6,i64)] [TX,.cells 3 [i64],qG] (fun
   | [.i n',.i i,.i p',.lb l',.i a'] =>n'=n∧a'=a∧-1≤i∧i<k∧p'=p+(k-1-i)∧l'=gT n k l p (k-1-i).toNat
   | _=>False) (fun | [_,.i i,_,_,_] =>(i+1).toNat | _=>0)])]}
 | _=> {cut:= [],loop:= []}
noncomputable def alS:Ct:= {ps:= [i64,i64,i64,i64],bs:= [],pre:=fun | [.i a,.i b,.i c,.i d] =>a=254∧b=3∧c=8∧d=57 | _=>False,res:=fun _=> .ret (.tup [.ptr 0 0,i64]) [qG] [.i 0,.lb Ab.1,.i Ab.2]}
noncomputable def ae1:List Dat→Ann:=fun _=> {cut:= [],loop:= [(14,[la 70 [(10,.ptr 0 0),(64,i64)] [.cells 421 [.ptr 1 0],qG] (fun
   | [.i i,.lb l,.i a] =>0≤i∧i≤160∧(l,a)=JO i.toNat
   | _=>False) (fun | [.i i,_,_] =>(160-i).toNat | _=>0)])]}
noncomputable def eI:List Int:=kY 195
noncomputable def dJ:List Int:=k9 9
noncomputable def uT:Ct:=OO eI dJ
noncomputable def Q7:List Dat→Ann
 | [.i d,.i l,.i s,.li _,.li _] =>⟨[],[(3,[la 31 [(0,.ptr 0 0),(2,.ptr 1 0),(14,i64)] [fj,qG] (fun
   | [.i i,.i d',.i l',.i s',.li z,.li m,.lb g,.i a] =>0≤i∧i≤65∧d'=d∧l'=l∧s'=s∧z=kY (3*i.toNat)∧m=dJ∧(g,a)=th (3*i.toNat)
   | _=>False) (fun | [.i i,_,_,_,_,_,_,_] =>(65-i).toNat | _=>0)])],
  [(6,[la 31 [(0,.ptr 0 0),(2,.ptr 1 0),(4,i64),(14,i64),(17,i64)] [fj,qG] kf jS],fun
   | [.i x0,.i y0,.i _,.i d0,.i l0,.i s0,.li _,.li m0,.lb _,.i _] => [la 31 [(0,.ptr 0 0),(2,.ptr 1 0),(4,i64),(14,i64),(17,i64)] [fj,qG] (fun
    | [.i x,.i y,.i j,.i d',.i l',.i s',.li z,.li m,.lb g,.i a] =>x=x0∧y=y0∧0≤j∧j≤3∧d'=d0∧l'=l0∧s'=s0∧m=m0∧z=kY (3*x0.toNat+j.toNat)∧(g,a)=th (3*x0.toNat+j.toNat)
    | _=>False) (fun | [_,_,.i j,_,_,_,_,_,_,_] =>(3-j).toNat | _=>0)]
   | _=> [])]⟩
 | _=> {cut:= [],loop:= []}
end Go.Proofs.YteiecapbaeajdaaGreatDoor
namespace Go.Proofs.YteiecapbaeajdaaGreatDoor
open Go Go.Avc Go.Proofs
set_option linter.unusedVariables false
set_option maxRecDepth 100000
noncomputable section
abbrev zr:LD:=
 [[.int 13],[.int 23],[.int 38],[.int 51],[.int 62]]
abbrev rT (a b:Int)(c:LD):Int:=
 a+((c.getD b.toNat []).getD 0 (.int 0)).toInt
def ahV:Prop:=
 ∀ (a:List Bool) (b:Int),
 a.length=80→
 oI (a,b)→
 (0≤b∧b<(↑(80:Nat):Int))∧
 b.toNat*1<(80:Nat)∧
 ((5:Nat)≤9223372036854775807→
 (((↑(5:Nat):Int)=5∧
 (0:Int)≤0∧
 (0:Int)≤5∧
 a=a∧
 b=b∧
 zr=zr∧
 a.getD (b.toNat*1) false=yj (a,b) 0)∧
 True)∧
 ∀ (c:Bool) (d e:Int) (f:List Bool) (g:Int) (h:LD),
 f.length=80→
 lM h→
 d=5∧
 0≤e∧
 e≤5∧f=a∧g=b∧h=zr∧c=yj (a,b) e.toNat→
 bif decide (e<d) then
 bR e h∧
 e.toNat<h.length∧
 iR (rT g e h)∧
 (0≤rT g e h∧(0:Int)<(80:Int))∧
 (0≤rT g e h%(80:Int)∧
 rT g e h%(80:Int)<(↑(80:Nat):Int))∧
 (rT g e h%(80:Int)).toNat*1<(80:Nat)∧
 iR (e+1)∧
 (d=5∧
 0≤e+1∧
 e+1≤5∧
 f=a∧
 g=b∧
 h=zr∧
 (c !=f.getD ((rT g e h%(80:Int)).toNat*1) false)=
 yj (a,b) (e+1).toNat)∧
 ((5:Int)-(e+1)).toNat<((5:Int)-e).toNat
 else
 (0≤g∧g<(↑(80:Nat):Int))∧
 g.toNat*1<(80:Nat)∧
 iR (g+1)∧
 (0≤g+1∧(0:Int)<(80:Int))∧
 c=(bf (a,b)).snd∧
 f.set (g.toNat*1) c=(bf (a,b)).fst.fst∧
 (g+1)%80=(bf (a,b)).fst.snd)
def R8:ac:=ak RN 317 (aq D5)
abbrev nJ (a:Int)(b:List Bool):List Bool×Int:=
 ((jm (b,a)).fst.fst,(jm (b,a)).fst.snd)
abbrev DH (a:Int)(b:List Bool):List Bool×Int:=
 ((jm (nJ a b)).fst.fst,
 (jm (nJ a b)).fst.snd)
def akg:Prop:=
 ∀ (a:List Bool) (b:Int),
 a.length=80→
 zX (a,b)→
 ((zX (a,b)∧
 Go.Gr.bitF bf 200000 (a,b)=Go.Gr.bitF bf 200000 (a,b))∧
 True)∧
 ∀ (c:List Bool) (d:Int),
 c.length=80→
 zX (c,d)∧
 Go.Gr.bitF bf 200000 (c,d)=Go.Gr.bitF bf 200000 (a,b)→
 oI (c,d)∧
 oI (nJ d c)∧
 bif !(jm (c,d)).snd then
 (zX (DH d c)∧
 Go.Gr.bitF bf 200000 (DH d c)=
 Go.Gr.bitF bf 200000 (a,b))∧
 Go.Gr.ndB bf 200000 (DH d c) <
 Go.Gr.ndB bf 200000 (c,d)
 else
 (jm (nJ d c)).snd=Nr (a,b)∧
 (jm (nJ d c)).fst.fst=(uH (a,b)).fst∧
 (jm (nJ d c)).fst.snd=(uH (a,b)).snd
def SG:ac:=ak R8 318 (aq aot)
abbrev E6 (a b:Int)(c d:List Bool):Prop:=
 B3 (c,a)∧
 Go.Gr.elT bf 200000 200000 (c,a)=Go.Gr.elT bf 200000 200000 (d,b)
abbrev zG (a:Int):Prop:=
 (a-(1:Int)+1).toNat<(a+1).toNat
abbrev zm (a:List Int):LD:=
 List.map (fun b=> [.int b]) (ar0 32 (ar1 0 a))
def akZ:Prop:=
 ∀ (a:List Bool) (b:Int),
 a.length=80→
 B3 (a,b)→
 ((B3 (a,b)∧
 Go.Gr.elT bf 200000 200000 (a,b)=
 Go.Gr.elT bf 200000 200000 (a,b))∧
 True)∧
 ∀ (c:List Bool) (d:Int) (e:List Int),
 c.length=80→
 e.length=4→
 E6 d b c a→
 (((-1:Int)≤253∧
 (253:Int)≤253∧
 (c,d)=(Kt (c,d) 0).fst∧
 ab0 32 0=xR (c,d) 0)∧
 True)∧
 ∀ (f:Int) (g:List Bool) (h:Int) (i j:List Int),
 g.length=80→
 i.length=4→
 j.length=32→
 (-1:Int)≤f∧
 f≤253∧
 (g,h)=(Kt (c,d) ((253:Int)-f).toNat).fst∧
 j=xR (c,d) ((253:Int)-f).toNat→
 bif decide (0≤f) then
 zX (g,h)∧
 bif Nr (g,h) then
 (0≤f∧(0:Int)<(8:Int)∧f≤IntKind.i64.max)∧
 (0≤f / 8∧f / 8<(↑(32:Nat):Int))∧
 (f / 8).toNat*1<(32:Nat)∧
 (0≤f∧(0:Int)<(8:Int))∧
 0≤f%(8:Int)∧
 (0≤f / 8∧f / 8<(↑(32:Nat):Int))∧
 (f / 8).toNat*1<(32:Nat)∧
 iR (f-(1:Int))∧
 ((-1:Int)≤f-(1:Int)∧
 f-(1:Int)≤253∧
 ((uH (g,h)).fst,(uH (g,h)).snd)=
 (Kt (c,d) ((253:Int)-(f-(1:Int))).toNat).fst∧
 j.set ((f / 8).toNat*1)
 (iq .u8 (j.getD ((f / 8).toNat*1) 0)
 (eG .u8 1 (f%(8:Int))))=
 xR (c,d) ((253:Int)-(f-(1:Int))).toNat)∧
 zG f
 else
 iR (f-(1:Int))∧
 ((-1:Int)≤f-(1:Int)∧
 f-(1:Int)≤253∧
 ((uH (g,h)).fst,(uH (g,h)).snd)=
 (Kt (c,d) ((253:Int)-(f-(1:Int))).toNat).fst∧
 j=xR (c,d) ((253:Int)-(f-(1:Int))).toNat)∧
 zG f
 else
 ((0:Int)≤0∧0≤(↑(32:Nat):Int)∧(↑(32:Nat):Int)≤(↑(32:Nat):Int)∧(0:Int)<(↑(32:Nat):Int))∧
 av (zm j)∧
 bif decide ((zm j).length≠32) then
 E6 h b g a∧
 Go.Gr.ndE bf 200000 200000 (g,h) <
 Go.Gr.ndE bf 200000 200000 (c,d)
 else
 bif
 decide
 ((ck (gk (zm j))
 [4891460686036598785,2896914383306846353,13281191951274694749,3486998266802970665]
 4).snd=
 (0:Int)) then
 E6 h b g a∧
 Go.Gr.ndE bf 200000 200000 (g,h) <
 Go.Gr.ndE bf 200000 200000 (c,d)
 else
 de (gk (zm j))=
 BQ (FO (a,b))∧
 g=(yk (a,b)).fst∧h=(yk (a,b)).snd
def Tc:ac:=ak SG 307 (aq aol)
def aiQ:Prop:=
 ∀ (a b c:Int) (d:List Bool) (e:Int),
 0≤a∧a≤1073741823∧0≤b∧b≤30∧0≤c∧c+b≤80∧d.length=80→
 iR (b-(1:Int))∧
 ((a=a∧
 e=e∧
 (-1:Int)≤b-(1:Int)∧
 b-(1:Int)<b∧c=c+(b-(1:Int)-(b-(1:Int)))∧d=gT a b d c (b-(1:Int)-(b-(1:Int))).toNat)∧
 True)∧
 ∀ (f g h:Int) (i:List Bool) (j:Int),
 f=a∧j=e∧(-1:Int)≤g∧g<b∧h=c+(b-(1:Int)-g)∧i=gT a b d c (b-(1:Int)-g).toNat→
 bif decide (0≤g) then
 0≤g∧
 (0≤h∧h<(↑(80:Nat):Int))∧
 h.toNat*1<(80:Nat)∧
 iR (h+1)∧
 iR (g-(1:Int))∧
 (f=a∧
 j=e∧
 (-1:Int)≤g-(1:Int)∧
 g-(1:Int)<b∧
 h+1=c+(b-(1:Int)-(g-(1:Int)))∧
 i.set (h.toNat*1) (decide (dp .i64 (aL .i64 f g) 1=1))=
 gT a b d c (b-(1:Int)-(g-(1:Int))).toNat)∧
 zG g
 else h=c+b∧i=kg a b d c∧j=e
def RO:ac:=ak Tc 316 (aq amh)
abbrev EW:List Bool:=
 kg 0 4 (kg 1 2 (ab0 80 false) 0)
 ((0:Int)+2)
abbrev iz:Int:=
 (0:Int)+2+4+12+12
abbrev zD (a b:Int):List Bool:=
 kg a 12
 (kg b 12 EW ((0:Int)+2+4))
 ((0:Int)+2+4+12)
def aet:Prop:=
 ∀ (a b c d:Int),
 a=254∧b=3∧c=8∧d=57→
 bif
 decide (a<(1:Int))||decide ((4095:Int)<a)||decide (b<(1:Int))||decide ((4095:Int)<b)||decide (c<(0:Int))||decide ((1023:Int)<c) ||
 decide (d<(0:Int)) ||
 decide ((1023:Int)<d) then
 Miss 2 eS
 else
 ((0:Int)≤1∧
 (1:Int)≤1073741823∧(0:Int)≤2∧(2:Int)≤30∧(0:Int)≤0∧(0:Int)+2≤80∧80=80)∧
 ((0:Int)≤0∧
 (0:Int)≤1073741823∧
 (0:Int)≤4∧
 (4:Int)≤30∧
 (0:Int)≤0+2∧
 (0:Int)+2+4≤80∧
 (kg (1:Int) (2:Int) (ab0 80 false) (0:Int)).length=80)∧
 (0≤a∧
 a≤1073741823∧
 (0:Int)≤12∧
 (12:Int)≤30∧
 (0:Int)≤0+2+4∧
 (0:Int)+2+4+12≤80∧EW.length=80)∧
 (0≤b∧
 b≤1073741823∧
 (0:Int)≤12∧
 (12:Int)≤30∧
 (0:Int)≤0+2+4+12∧
 iz≤80∧
 (kg a (12:Int) EW ((0:Int)+2+4)).length=
 80)∧
 (0≤c∧
 c≤1073741823∧
 (0:Int)≤10∧
 (10:Int)≤30∧
 0≤iz∧
 iz+10≤80∧(zD b a).length=80)∧
 (0≤d∧
 d≤1073741823∧
 (0:Int)≤10∧
 (10:Int)≤30∧
 0≤iz+10∧
 iz+10+10≤80∧
 (kg c (10:Int) (zD b a)
 iz).length=
 80)∧
 ((0:Int)≤1073741823∧
 (1073741823:Int)≤1073741823∧
 (0:Int)≤30∧
 (30:Int)≤30∧
 0≤iz+10+10∧
 iz+10+10+30≤80∧
 (kg d (10:Int)
 (kg c (10:Int) (zD b a)
 iz)
 (iz+10)).length=
 80)∧
 (((0:Int)≤0∧
 (0:Int)≤160∧
 (kg (1073741823:Int) (30:Int)
 (kg d (10:Int)
 (kg c (10:Int) (zD b a)
 iz)
 (iz+10))
 (iz+10+10),
 (0:Int))=
 JO 0)∧
 True)∧
 ∀ (e:Int) (f:List Bool) (g:Int),
 0≤e∧e≤160∧(f,g)=JO e.toNat→
 bif decide (e<(160:Int)) then
 oI (f,g)∧
 iR (e+1)∧
 (0≤e+1∧
 e+1≤160∧nJ g f=JO (e+1).toNat)∧
 ((160:Int)-(e+1)).toNat<((160:Int)-e).toNat
 else (0:Int)=0∧f=Ab.fst∧g=Ab.snd
def EZ:ac:=ak RO 306 (aq alS)
def Vw:Prop:=
 ∀ (n n_1 n_2:Int) (l l_1:List Int),
 l.length=(780:Nat)→
 l_1.length=(36:Nat)→
 l=fl∧l_1=jv→
 True∧
 ((254:Int)=(254:Int)∧(3:Int)=(3:Int)∧(8:Int)=(8:Int)∧(57:Int)=(57:Int))∧
 (((0:Int)≤(0:Int)∧
 (0:Int)≤(65:Int)∧
 n=n∧
 n_1=n_1∧
 n_2=n_2∧
 l=kY (0:Nat)∧
 k9 (9:Nat)=dJ∧
 (Ab.1,Ab.snd)=th (0:Nat))∧
 True)∧
 ∀ (n_3 n_4 n_5 n_6:Int) (l l_2:List Int) (l_3:List Bool) (n_7:Int),
 l.length=(780:Nat)→
 l_2.length=(36:Nat)→
 l_3.length=(80:Nat)→
 (0:Int)≤n_3∧
 n_3≤(65:Int)∧
 n_4=n∧
 n_5=n_1∧
 n_6=n_2∧
 l=kY ((3:Nat)*n_3.toNat)∧
 l_2=dJ∧(l_3,n_7)=th ((3:Nat)*n_3.toNat)→
 bif decide (n_3<(65:Int)) then
 ((n_3=n_3∧
 n_3=n_3∧
 (0:Int)≤(0:Int)∧
 (0:Int)≤(3:Int)∧
 n_4=n_4∧
 n_5=n_5∧
 n_6=n_6∧
 l_2=l_2∧
 l=kY ((3:Nat)*n_3.toNat+(0:Nat))∧
 (l_3,n_7)=th ((3:Nat)*n_3.toNat+(0:Nat)))∧
 True)∧
 ∀ (n_8 n_9 n_10 n_11 n_12 n_13:Int) (l l_4:List Int) (l_5:List Bool) (n_14:Int),
 l.length=(780:Nat)→
 l_4.length=(36:Nat)→
 l_5.length=(80:Nat)→
 n_8=n_3∧
 n_9=n_3∧
 (0:Int)≤n_10∧
 n_10≤(3:Int)∧
 n_11=n_4∧
 n_12=n_5∧
 n_13=n_6∧
 l_4=l_2∧
 l=kY ((3:Nat)*n_3.toNat+n_10.toNat)∧
 (l_5,n_14)=th ((3:Nat)*n_3.toNat+n_10.toNat)→
 bif decide (n_10<(3:Int)) then
 B3 (l_5,n_14)∧
 ((0:Int)≤n_8∧n_8<(↑(65:Nat):Int))∧
 ((0:Int)≤n_10∧n_10<(↑(3:Nat):Int))∧
 n_8.toNat*(12:Nat)+n_10.toNat*(4:Nat)+(4:Nat)≤(780:Nat)∧
 ((-9223372036854775808:Int)≤n_10+(1:Int)∧n_10+(1:Int)≤(9223372036854775807:Int))∧
 (n_8=n_3∧
 n_9=n_3∧
 (0:Int)≤n_10+(1:Int)∧
 n_10+(1:Int)≤(3:Int)∧
 n_11=n_4∧
 n_12=n_5∧
 n_13=n_6∧
 l_4=l_2∧
 ar0 (n_8.toNat*(12:Nat)+n_10.toNat*(4:Nat)) l++
 BQ (FO (l_5,n_14))++
 ar1 (n_8.toNat*(12:Nat)+n_10.toNat*(4:Nat)+(4:Nat)) l=
 kY ((3:Nat)*n_3.toNat+(n_10+(1:Int)).toNat)∧
 ((yk (l_5,n_14)).fst,
 (yk (l_5,n_14)).snd)=
 th ((3:Nat)*n_3.toNat+(n_10+(1:Int)).toNat))∧
 ((3:Int)-(n_10+(1:Int))).toNat<((3:Int)-n_10).toNat
 else
 ((-9223372036854775808:Int)≤n_9+(1:Int)∧n_9+(1:Int)≤(9223372036854775807:Int))∧
 ((0:Int)≤n_9+(1:Int)∧
 n_9+(1:Int)≤(65:Int)∧
 n_11=n∧
 n_12=n_1∧
 n_13=n_2∧
 l=kY ((3:Nat)*(n_9+(1:Int)).toNat)∧
 l_4=dJ∧
 (l_5,n_14)=th ((3:Nat)*(n_9+(1:Int)).toNat))∧
 ((65:Int)-(n_9+(1:Int))).toNat<((65:Int)-n_3).toNat
 else n_4=n∧n_5=n_1∧n_6=n_2∧l=eI∧l_2=dJ
theorem ao3:uT.VC (base.with EZ) Tryz.f298.results.toList Tryz.f298.ntmps (Tryz.f298.ntmps-uT.ps.length) (zH Tryz.f298) Q7=Vw:=by kernel_rfl
def Lh:ac:=ak EZ 298 (aq uT)
end
end Go.Proofs.YteiecapbaeajdaaGreatDoor
namespace Go.Proofs.YteiecapbaeajdaaGreatDoor
open Go Go.Avc Go.Gr
set_option linter.unusedVariables false
set_option maxRecDepth 100000
theorem LW (s:Rg):jm s=bf s:=al _
theorem QW (s:Rg):uH s=bS bf bJ s:=al _
theorem Rl (s:Rg):Nr s=bV bf bJ s:=al _
theorem J4 (s:Rg) (k:Nat):Kt s k=nS bf bJ s k:=al _
theorem NV (s:Rg):yk s=HD bf bJ s:=al _
theorem abr (s:Rg):FO s=EF bf bJ s:=al _
theorem zF (k:Nat):JO k=GX bf k (IR,0):=al _
theorem Eg (k:Nat):th k=zd bf bJ Ab k:=al _
theorem tB {s:Rg} (h:oI s):oI (bf s).1:=by
 obtain ⟨h1,h2,h3⟩:=h
 refine ⟨?_,?_,?_⟩
 ·show (s.1.set _ _).length=80
  rw [df,h1]
 ·show 0≤(s.2+1)%80
  omega
 ·show (s.2+1)%80<80
  omega
def PR (f:Nat→Bool) (s:Rg):Prop:=oI s∧∀ i,i<80→oO s i=f i
theorem O2 (f:Nat→Bool) (s:Rg) (h:PR f s):PR (dQ f).1 (bf s).1∧(dQ f).2=(bf s).2:=by
 obtain ⟨hw,hf⟩:=h
 have hb:yj s 5=wE f:=by
  show asW (asW (asW (asW (asW (oO s 0) (oO s 13)) (oO s 23)) (oO s 38)) (oO s 51)) (oO s 62)=_
  rw [hf 0 (by omega),hf 13 (by omega),hf 23 (by omega),hf 38 (by omega),hf 51 (by omega),hf 62 (by omega)]
  rfl
 refine ⟨⟨tB hw,fun i hi=> ?_⟩,hb.symm⟩
 obtain ⟨h1,h2,h3⟩:=hw
 show (s.1.set s.2.toNat (yj s 5)).getD (((s.2+1)%80+(i:Int))%80).toNat false=if i<79 then f (i+1) else wE f
 rw [ay,asX]
 by_cases h:i<79
 ·rw [if_pos h,if_neg (by omega),← ay,← hf (i+1) (by omega)]
  show _=s.1.getD ((s.2+((i+1:Nat):Int))%80).toNat false
  congr 1
  omega
 ·rw [if_neg h,if_pos (by omega),if_pos (by omega),hb]
  rfl
theorem agq {s:Rg} :∀ {n:Nat} {y},oI s→bitF bf n s=some y→oI y.1:=by
 intro n
 induction n generalizing s with
 | zero=>intro y _ h;cases h
 | succ n ih=>
  intro y hw h
  rcases tz h with ⟨_,rfl⟩ | ⟨_,h⟩
  ·exact tB (tB hw)
  ·exact ih (tB (tB hw)) h
theorem YE {s:Rg} (hw:oI s):∀ k,(∀ j,j<k→∃ z,bitF bf bJ (nS bf bJ s j).1=some z)→oI (nS bf bJ s k).1
 | 0,_=>hw
 | k+1,h=>by
  have ih:=YE hw k fun j hj=>h j (by omega)
  obtain ⟨z,hz⟩:=h k (by omega)
  have:=agq ih hz
  rw [zW hz] at this
  exact this
theorem aa0 {S:Nat} (h:S<2 ^ 80):NR S fun i=>S.testBit i:=fun i=>by
 by_cases hi:i<80
 ·rw [decide_eq_true hi,asD]
 ·rw [decide_eq_false hi,asY]
  exact asF (asG h (asH (by decide) (by omega)))
theorem ai3:∀ i,i<80→oO (IR,0) i=asZ SQ i:=by
 have h:(asg 80).all (fun i=>oO (IR,0) i==asZ SQ i)=true:=by decide+kernel
 intro i hi
 have:=List.all_eq_true.mp h i (List.mem_range.mpr hi)
 exact eq_of_beq this
theorem Z3:IR.length=80:=by decide+kernel
theorem Sa:PR (fun i=>asZ SQ i) (IR,0):=⟨⟨Z3,by decide,by decide⟩,ai3⟩
theorem RL:∃ f,PR f Ab∧∃ t,fq dQ bJ 195 f=some t:=by
 have h1:=FB (R:=PR) O2 160 Sa
 have h2:=MC 80 (aa0 (S:=SQ) (by decide+kernel)) alj
 rw [Ab,zF]
 exact ⟨_,h1,anB _ h2⟩
theorem ahx (k:Nat) (hk:k<195):B3 (th k):=by
 obtain ⟨f,h1,h2⟩:=RL
 obtain ⟨g1,g2⟩:=ahQ (R:=PR) O2 h1 h2 k (by omega)
 rw [Eg]
 exact ⟨g1.1,(g2 hk).1⟩
theorem anX (k:Nat):oI (JO k):=by
 have h1:=FB (R:=PR) O2 k Sa
 rw [zF]
 exact h1.1
theorem ZW (k:Nat):th (k+1)=yk (th k):=by rw [Eg,Eg,NV];rfl
theorem or8:∀ x:Fin 256,∀ i:Fin 8,iq .u8 ((x.val:Nat):Int) (eG .u8 1 ((i.val:Nat):Int))=((x.val |||2 ^ i.val:Nat):Int):=by decide+kernel
theorem aaj {V i:Nat} (j:Nat):(V |||2 ^ i) / 256 ^ j%256=if j=i / 8 then (V / 256 ^ j%256) |||2 ^ (i%8) else V / 256 ^ j%256:=by
 have e:(256:Nat) ^ j=2 ^ (8*j):=by rw [Nat.pow_mul]
 apply Nat.eq_of_testBit_eq
 intro b
 rw [e,show (256:Nat)=2 ^ 8 from rfl]
 split
 ·rename_i h
  rw [as0,as1,asE,asE,as0,as1,as2,as2]
  by_cases hb:b<8
  ·rw [decide_eq_true hb,asD,asD]
   congr 1
   apply decide_eq_decide.mpr
   omega
  ·rw [decide_eq_false hb,asY,asY,Bool.false_or]
   symm
   apply decide_eq_false
   omega
 ·rename_i h
  rw [as0,as1,asE,as0,as1,as2]
  by_cases hb:b<8
  ·rw [decide_eq_true hb,asD,asD,decide_eq_false (by omega),Bool.or_false]
  ·rw [decide_eq_false hb,asY,asY]
theorem pz (v:Nat):(gQ v).length=32:=by unfold gQ;rw [bp,List.length_range]
theorem AQ {v j:Nat} (hj:j<32):(gQ v).getD j 0=((v / 256 ^ j%256:Nat):Int):=by
 unfold gQ
 rw [ay,eW,List.getElem?_range hj]
 rfl
theorem HO {l m:List Int} (h:l.length=m.length) (hg:∀ j,j<l.length→l.getD j 0=m.getD j 0):l=m:=by
 apply List.ext_getElem h
 intro j h1 h2
 have:=hg j h1
 rw [ay,ay,cH h1,cH h2] at this
 exact this
theorem abU {V i:Nat} (hi:i<256):gQ (V |||2 ^ i)=(gQ V).set (i / 8) (iq .u8 ((gQ V).getD (i / 8) 0) (eG .u8 1 ((i%8:Nat):Int))):=by
 apply HO
 ·rw [df,pz,pz]
 ·intro j hj
  rw [pz] at hj
  rw [AQ hj,aaj]
  have hset:∀ x:Int,((gQ V).set (i / 8) x).getD j 0=if i / 8=j then x else (gQ V).getD j 0:=fun x=>by
   rw [ay,asX]
   split
   ·rename_i h
    rw [if_pos (by rw [pz];omega)]
    rfl
   ·rw [← ay]
  rw [hset]
  by_cases h:j=i / 8
  ·rw [if_pos h,if_pos h.symm,AQ (by omega),h]
   exact (or8 ⟨V / 256 ^ (i / 8)%256,as3 _ (by decide)⟩ ⟨i%8,as3 _ (by decide)⟩).symm
  ·rw [if_neg h,if_neg (fun e=>h e.symm),AQ hj]
theorem akv {v i:Nat} :2 ^ (i+1)*v+2 ^ i=2 ^ (i+1)*v |||2 ^ i:=Nat.two_pow_add_eq_or_of_lt (Nat.pow_lt_pow_right (by decide) (by omega)) v
theorem aaZ {v k:Nat} {b:Bool} (hk:k<254):gQ ((2*v+b.toNat)*2 ^ (253-k))=if b=true then (gQ (v*2 ^ (254-k))).set ((253-k) / 8) (iq .u8 ((gQ (v*2 ^ (254-k))).getD ((253-k) / 8) 0) (eG .u8 1 (((253-k)%8:Nat):Int))) else gQ (v*2 ^ (254-k)):=by
 have e:v*2 ^ (254-k)=2 ^ (253-k+1)*v:=by rw [asS,show 254-k=253-k+1 by omega]
 have e2:2*v*2 ^ (253-k)=2 ^ (253-k+1)*v:=by rw [asR,asS (2 ^ (253-k)) 2,asU 2 (2 ^ (253-k)),asU,asS v]
 cases b with
 | true=>
  rw [if_pos rfl,e,← abU (by omega),← akv,adS,e2]
  show gQ (_+1*_)=_
  rw [Nat.one_mul]
 | false=>
  rw [if_neg (by decide),e,adS,e2]
  show gQ (_+0*_)=_
  rw [Nat.zero_mul,Nat.add_zero]
theorem Rk:∀ (n v:Nat),rZ ((asg n).map fun j=>v / 256 ^ j%256)=v%256 ^ n
 | 0,v=>by show 0=v%1;omega
 | n+1,v=>by
  have ih:=Rk n (v / 256)
  rw [List.range_succ_eq_map,List.map_cons,as4]
  show v / 256 ^ 0%256+256*rZ _=_
  rw [asQ,Nat.div_one,asR,asS (256 ^ n) 256,Nat.mod_mul,← ih]
  congr 3
  apply as5
  intro j _
  show v / 256 ^ (j+1)%256=_
  rw [asR,asS (256 ^ j) 256,Nat.div_div_eq_div_mul]
theorem Ju (v:Nat):av ((gQ v).map ae):=by
 intro j
 rw [da]
 by_cases hj:j<32
 ·rw [show (gQ v).getD j 0=_ from AQ hj]
  have:=as3 (v / 256 ^ j) (show 256 > 0 by decide)
  exact ⟨by omega,by omega⟩
 ·rw [ay,gd (by rw [pz];omega)]
  exact ⟨by decide,by decide⟩
theorem aa8 (v n:Nat):dI (((asg n).map fun j=>((v / 256 ^ j%256:Nat):Int)).map ae)=(asg n).map fun j=>v / 256 ^ j%256:=by
 unfold dI
 rw [as4,as4]
 exact as5 fun j _=>aA _
theorem ajO {v:Nat} (h:v<256 ^ 32):bv ((gQ v).map ae)=v:=by
 have h1:=Rk 32 v
 rw [Nat.mod_eq_of_lt h,← aa8] at h1
 exact h1
end Go.Proofs.YteiecapbaeajdaaGreatDoor
namespace Go.Proofs.YteiecapbaeajdaaGreatDoor
open Go Go.Avc Go.Proofs Go.Gr
set_option linter.unusedVariables false
set_option linter.unusedSimpArgs false
set_option maxRecDepth 100000
theorem ahE:∀ j:Nat,j<5→∃ c:Nat,c≤62∧((([[CD.int 13],[CD.int 23],[CD.int 38],[CD.int 51],[CD.int 62]] :LD).getD ((j:Nat):Int).toNat []).getD 0 (CD.int 0)).toInt=(c:Int)∧ [13,23,38,51,62].getD j 0=c:=by
 intro j hj
 match j,hj with
 | 0,_=>exact ⟨13,by decide,rfl,rfl⟩
 | 1,_=>exact ⟨23,by decide,rfl,rfl⟩
 | 2,_=>exact ⟨38,by decide,rfl,rfl⟩
 | 3,_=>exact ⟨51,by decide,rfl,rfl⟩
 | 4,_=>exact ⟨62,by decide,rfl,rfl⟩
theorem ape:ahV:=by
 delta ahV lM iR bR zr rT
 rintro l a hl ⟨h1,h2,h3⟩
 have h2:0≤a:=h2
 have h3:a<80:=h3
 refine ⟨⟨h2,by omega⟩,by omega,fun _=>⟨⟨⟨rfl,by omega,by omega,rfl,rfl,rfl,?_⟩,trivial⟩,?_⟩⟩
 ·show l.getD (a.toNat*1) false=l.getD ((a+((0:Nat):Int))%80).toNat false
  congr 1
  omega
 rintro b n i l' a' ks _ _ ⟨rfl,g0,g1,rfl,rfl,rfl,rfl⟩
 obtain ⟨j,rfl⟩:=as6 g0
 refine aa (fun e=> ?_) fun e=> ?_
 ·have e:=au e
  obtain ⟨c,c1,c2,c3⟩:=ahE j (by omega)
  rw [c2]
  refine ⟨⟨g0,by show (j:Int)<5;omega⟩,by show ((j:Nat):Int).toNat<5;omega,⟨by omega,by omega⟩,⟨by omega,by decide⟩,⟨by omega,by omega⟩,by omega,⟨by omega,by omega⟩,⟨rfl,by omega,by omega,rfl,rfl,rfl,?_⟩,by omega⟩
  rw [show ((j:Int)+1).toNat=j+1 by omega,aA,yj,c3,anR]
  show (_ !=oO (l',a') c)=_
  cases yj (l',a') j <;>cases oO (l',a') c <;>rfl
 ·have e:=aw e
  have hj:j=5:=by omega
  subst hj
  refine ⟨⟨h2,h3⟩,by omega,⟨by omega,by omega⟩,⟨by omega,by decide⟩,rfl,?_,rfl⟩
  rw [anR]
  rfl
theorem Vm:(base.with R8).Ok:=ab Zj (aib (ai ah1 Zj Tryz.func317 (by kernel_rfl) Tryz.call317 (by kernel_rfl) ape))
theorem aq6:akg:=by
 delta akg nJ DH
 rintro l a hl h
 refine ⟨⟨⟨h,rfl⟩,trivial⟩,?_⟩
 rintro l' a' hl' ⟨⟨hw,y,hy⟩,he⟩
 have he:bitF bf bJ (l',a')=bitF bf bJ (l,a):=he
 show oI (l',a')∧oI (jm (l',a')).1∧bif !(jm (l',a')).2 then (zX (jm (jm (l',a')).1).1∧bitF bf bJ (jm (jm (l',a')).1).1=bitF bf bJ (l,a))∧ndB bf bJ (jm (jm (l',a')).1).1<ndB bf bJ (l',a') else (jm (jm (l',a')).1).2=Nr (l,a)∧(jm (jm (l',a')).1).1.1=(uH (l,a)).1∧(jm (jm (l',a')).1).1.2=(uH (l,a)).2
 rw [LW,LW,Rl,QW]
 refine ⟨hw,tB hw,?_⟩
 rcases tz (m:=199999) hy with ⟨e,rfl⟩ | ⟨e,g⟩
 ·rw [e]
  have hz:=zW (he.symm.trans hy)
  show _=bV bf bJ (l,a)∧_=(bS bf bJ (l,a)).1∧_=(bS bf bJ (l,a)).2
  exact ⟨congrArg (fun q=>q.2) hz,congrArg (fun q=>q.1.1) hz,congrArg (fun q=>q.1.2) hz⟩
 ·rw [Bool.eq_false_iff.mpr e]
  have g':=zh (m:=bJ) g (by decide)
  exact ⟨⟨⟨tB (tB hw),y,g'⟩,g'.trans (hy.symm.trans he)⟩,aj5 (m:=199999) hy e⟩
theorem WZ:(base.with SG).Ok:=ab Vm (ai acw Vm Tryz.func318 (by kernel_rfl) Tryz.call318 (by kernel_rfl) aq6)
theorem H2 (s:Rg) (k:Nat):xR s k=gQ ((nS bf bJ s k).2*2 ^ (254-k)):=al _
theorem auE:ab0 32 (0:Int)=gQ 0:=by decide+kernel
theorem avC (s:Rg):ab0 32 (0:Int)=xR s 0:=by
 rw [H2,show (nS bf bJ s 0).2=0 from rfl,Nat.zero_mul]
 exact auE
theorem aiw (s:Rg):xR s 254=gQ (nS bf bJ s 254).2:=by
 rw [H2,as7,asQ,anR]
theorem aaw {b:List Int} (h:b.length=32):(b.take 32).map (fun x=> [CD.int x])=b.map ae:=by
 rw [agv (by omega)]
 rfl
theorem atZ:(2:Nat) ^ 254<256 ^ 32:=by decide+kernel
theorem aoh {v:Nat} (h:v<256 ^ 32):(ck (gk ((gQ v).map ae)) pW 4).2=0↔¬ v<lf:=by
 have hl:((gQ v).map ae).length=32:=by rw [bp,pz]
 have h1:(gk ((gQ v).map ae)).length=4:=by rw [gk,fK,hl]
 have h2:af (gk ((gQ v).map ae)):=Ah _ _
 have h3:=(HY h1 h2).1
 rw [Sc (Ju v) hl,ajO h] at h3
 have e:(21888242871839275222246405745257275088548364400416034343698204186575808495617:Int)=(lf:Nat):=rfl
 rw [e] at h3
 rw [show pW=pW from rfl,h3]
 omega
theorem alG:akZ:=by
 delta akZ iR E6 zG zm
 rintro l a hl h
 refine ⟨⟨⟨h,rfl⟩,trivial⟩,?_⟩
 rintro l1 a1 z hl1 hz ⟨⟨hw,y,hy⟩,he⟩
 have he:elT bf bJ bJ (l1,a1)=elT bf bJ bJ (l,a):=he
 obtain ⟨hb,hd⟩:=Cr (m:=199999) hy
 have hwf:∀ k,k≤254→oI (nS bf bJ (l1,a1) k).1:=fun k hk=>YE hw k fun j hj=>hb j (by omega)
 refine ⟨⟨⟨by omega,by omega,?_,?_⟩,trivial⟩,?_⟩
 ·rw [J4]
  rfl
 ·exact avC _
 rintro i l3 a3 z3 b hl3 hz3 hb3 ⟨h0,h1,e1,rfl⟩
 rw [J4] at e1
 refine aa (fun e=> ?_) fun e=> ?_
 ·have e:=au e
  generalize hk:(253-i).toNat=k at *
  have hk2:k<254:=by omega
  have hk1:(253-(i-1)).toNat=k+1:=by omega
  have hbt:=hb k hk2
  have hw3:=hwf k (by omega)
  rw [← e1] at hbt hw3
  have hn:((uH (l3,a3)).fst,(uH (l3,a3)).snd)=(Kt (l1,a1) (k+1)).1:=by
   rw [J4,QW,e1]
   rfl
  have hby:xR (l1,a1) (k+1)=if Nr (l3,a3)=true then (xR (l1,a1) k).set ((253-k) / 8) (iq .u8 ((xR (l1,a1) k).getD ((253-k) / 8) 0) (eG .u8 1 (((253-k)%8:Nat):Int))) else xR (l1,a1) k:=by
   rw [H2,H2,Rl,e1]
   show gQ ((2*(nS bf bJ (l1,a1) k).2+(bV bf bJ (nS bf bJ (l1,a1) k).1).toNat)*2 ^ (254-(k+1)))=_
   rw [show 254-(k+1)=253-k by omega,aaZ hk2]
  rw [hk1,hn,hby]
  refine ⟨⟨hw3,hbt⟩,?_⟩
  have hi8:(i / 8).toNat*1=(253-k) / 8:=by omega
  have hm8:i%8=(((253-k)%8:Nat):Int):=by omega
  have hmx:IntKind.i64.max=9223372036854775807:=by decide
  refine aa (fun g=> ?_) fun g=> ?_
  ·rw [if_pos g,hi8,hm8]
   exact ⟨⟨e,by decide,by omega⟩,⟨by omega,by omega⟩,by omega,⟨e,by decide⟩,by omega,⟨by omega,by omega⟩,by omega,⟨by omega,by omega⟩,⟨by omega,by omega,rfl,rfl⟩,by omega⟩
  ·rw [if_neg (by rw [g];decide)]
   exact ⟨⟨by omega,by omega⟩,⟨by omega,by omega,rfl,rfl⟩,by omega⟩
 ·have e:=aw e
  rw [show (253-i).toNat=254 by omega] at e1 hb3 ⊢
  have hv:(nS bf bJ (l1,a1) 254).2<256 ^ 32:=Nat.lt_trans (XW _ 254) atZ
  rw [as8,aaw hb3,aiw]
  have hlen:((gQ (nS bf bJ (l1,a1) 254).2).map ae).length=32:=by rw [bp,pz]
  have hAr:=Ju (nS bf bJ (l1,a1) 254).2
  have hbo:=aoh hv
  have hof:BQ (nS bf bJ (l1,a1) 254).2=de (gk ((gQ (nS bf bJ (l1,a1) 254).2).map ae)):=al _
  generalize (gQ (nS bf bJ (l1,a1) 254).2).map ae=L at hlen hAr hbo hof ⊢
  refine ⟨⟨by omega,by decide,by decide,by decide⟩,hAr,?_⟩
  refine aa ?_ ?_
  ·intro g
   exact absurd hlen (au g)
  intro _
  rcases hB:decide ((ck (gk L) [4891460686036598785,2896914383306846353,13281191951274694749,3486998266802970665] 4).snd=0) with _ | _
  rotate_left
  ·have g:=hbo.mp (au hB)
   rcases hd with ⟨e',_⟩ | ⟨e',g2⟩
   ·exact absurd e' g
   ·have g3:=wN (ar5 bJ) g2 (show 199999≤bJ by decide)
    have g4:=agb (m:=199999) hy e'
    have hw3:=hwf 254 (ar5 _)
    rw [← e1] at g3 g4 hw3
    exact ⟨⟨⟨hw3,y,g3⟩,g3.trans (hy.symm.trans he)⟩,g4⟩
  ·have g:=fun k=>aw hB (hbo.mpr k)
   rcases hd with ⟨e',rfl⟩ | ⟨e',g2⟩
   ·have hz:=CJ (he.symm.trans hy)
    rw [abr,NV]
    have e2:EF bf bJ (l,a)=(nS bf bJ (l1,a1) 254).2:=(congrArg (fun q=>q.2) hz).symm
    have e3:HD bf bJ (l,a)=(nS bf bJ (l1,a1) 254).1:=(congrArg (fun q=>q.1) hz).symm
    rw [e2,e3,← e1,hof]
    exact ⟨rfl,rfl,rfl⟩
   ·exact absurd e' g
theorem XB:(base.with Tc).Ok:=ab WZ (ai aha WZ Tryz.func307 (by kernel_rfl) Tryz.call307 (by kernel_rfl) alG)
theorem apq:aiQ:=by
 delta aiQ iR zG
 rintro n k p l a ⟨h0,h1,h2,h3,h4,h5,h6⟩
 refine ⟨⟨by omega,by omega⟩,⟨⟨rfl,rfl,by omega,by omega,by omega,?_⟩,trivial⟩,?_⟩
 ·rw [show (k-1-(k-1)).toNat=0 by omega]
  rfl
 rintro n' i p' l' a' ⟨rfl,rfl,g0,g1,rfl,rfl⟩
 refine aa (fun e=> ?_) fun e=> ?_
 ·have e:=au e
  refine ⟨e,⟨by omega,by omega⟩,by omega,⟨by omega,by omega⟩,⟨by omega,by omega⟩,⟨rfl,rfl,by omega,by omega,by omega,?_⟩,by omega⟩
  rw [show (k-1-(i-1)).toNat=(k-1-i).toNat+1 by omega,gT,show ((k-1-i).toNat:Int)=k-1-i by omega,anR,show k-1-(k-1-i)=i by omega]
 ·have e:=aw e
  refine ⟨by omega,?_,rfl⟩
  unfold kg
  rw [al,show (k-1-i).toNat=k.toNat by omega]
theorem XP:(base.with RO).Ok:=ab XB (ai akM XB Tryz.func316 (by kernel_rfl) Tryz.call316 (by kernel_rfl) apq)
theorem Jj (n b:Int) (l:List Bool) (p:Int):∀ j,(gT n b l p j).length=l.length
 | 0=>rfl
 | j+1=>by rw [gT,df,Jj n b l p j]
theorem Ue (n b:Int) (l:List Bool) (p:Int):(kg n b l p).length=l.length:=by unfold kg;rw [al,Jj]
theorem aah:gT 1073741823 30 (gT 57 10 (gT 8 10 (gT 3 12 (gT 254 12 (gT 0 4 (gT 1 2 (ab0 80 false) 0 (2:Int).toNat) (0+2) (4:Int).toNat) (0+2+4) (12:Int).toNat) (0+2+4+12) (12:Int).toNat) (0+2+4+12+12) (10:Int).toNat) (0+2+4+12+12+10) (10:Int).toNat) (0+2+4+12+12+10+10) (30:Int).toNat=IR:=by decide+kernel
theorem al1:aet:=by
 delta aet iR nJ EW iz zD
 rintro n n1 n2 n3 ⟨rfl,rfl,rfl,rfl⟩
 refine aa (fun e=>absurd e (by decide)) fun _=> ?_
 simp only [Ue,List.length_replicate]
 refine ⟨by decide,by decide,by decide,by decide,by decide,by decide,by decide,⟨⟨by omega,by omega,?_⟩,trivial⟩,?_⟩
 ·rw [zF]
  simp only [kg,al]
  rw [aah]
  rfl
 rintro i l a ⟨g0,g1,g2⟩
 refine aa (fun e=> ?_) fun e=> ?_
 ·have e:=au e
  refine ⟨by rw [g2];exact anX _,⟨by omega,by omega⟩,⟨by omega,by omega,?_⟩,by omega⟩
  rw [show (i+1).toNat=i.toNat+1 by omega,g2,zF,zF,Hh,LW]
 ·have e:=aw e
  have:i=160:=by omega
  subst this
  have g2:(l,a)=Ab:=g2
  exact ⟨trivial,congrArg Prod.fst g2,congrArg Prod.snd g2⟩
theorem Xt:(base.with EZ).Ok:=ab XP (ai ae1 XP Tryz.func306 (by kernel_rfl) Tryz.call306 (by kernel_rfl) al1)
theorem NC (v:Nat):(BQ v).length=4:=by
 unfold BQ
 rw [al]
 exact lT _ _
theorem I3:∀ k,(Gf k).length=4*k
 | 0=>rfl
 | k+1=>by rw [Gf,ce,I3 k,NC];omega
theorem SS {k p:Nat} (hk:4*k+4≤780) (hp:p=4*k):ar0 p (kY k)++BQ (FO (th k))++ar1 (p+4) (kY k)=kY (k+1):=by
 unfold kY
 rw [al,al,Gf,adN (I3 k) (NC _) hk hp]
theorem afA:Vw:=by
 rintro d l s z m hz hm ⟨rfl,rfl⟩
 refine ⟨trivial,⟨rfl,rfl,rfl,rfl⟩,⟨⟨by omega,by omega,rfl,rfl,rfl,?_,rfl,?_⟩,trivial⟩,?_⟩
 ·unfold kY fl
  rw [al,al]
  rfl
 ·rw [Eg]
  rfl
 rintro i d' l' s' z m g a hz hm hg ⟨h0,h1,rfl,rfl,rfl,rfl,rfl,e2⟩
 refine aa (fun e=> ?_) fun e=> ?_
 ·have e:=au e
  refine ⟨⟨⟨rfl,rfl,by omega,by omega,rfl,rfl,rfl,rfl,rfl,e2⟩,trivial⟩,?_⟩
  rintro x y j d1 l1 s1 z1 m1 g1 a1 _ _ _ ⟨ex,ey,k0,k1,rfl,rfl,rfl,rfl,rfl,k2⟩
  subst ex
  refine aa (fun f=> ?_) fun f=> ?_
  ·have f:=au f
   have hp:x.toNat*12+j.toNat*4=4*(3*x.toNat+j.toNat):=by omega
   refine ⟨by rw [k2];exact ahx _ (by omega),⟨by omega,by omega⟩,⟨by omega,by omega⟩,by omega,⟨by omega,by omega⟩,⟨rfl,ey,by omega,by omega,rfl,rfl,rfl,rfl,?_,?_⟩,by omega⟩
   ·rw [k2,SS (by omega) hp,show 3*x.toNat+(j+1).toNat=3*x.toNat+j.toNat+1 by omega]
   ·rw [show 3*x.toNat+(j+1).toNat=3*x.toNat+j.toNat+1 by omega,ZW,← k2]
  ·have f:=aw f
   subst ey
   refine ⟨⟨by omega,by omega⟩,⟨by omega,by omega,rfl,rfl,rfl,?_,rfl,?_⟩,by omega⟩
   ·exact congrArg kY (by omega)
   ·rw [k2]
    exact congrArg th (by omega)
 ·have e:=aw e
  refine ⟨rfl,rfl,rfl,?_,rfl⟩
  exact congrArg kY (by omega)
theorem ahO:b9 (base.with EZ) 298 (aq uT):=Nh (fn:=Tryz.f298) (c:=zH Tryz.f298) (k:=Tryz.f298.ntmps-uT.ps.length) (ct:=uT) Xt Tryz.func298 (by kernel_rfl) Q7 (by kernel_rfl) (fun vs w _=>Tryz.call298 vs w) (by rw [ao3];exact afA)
theorem ane:(base.with Lh).Ok:=ab Xt ahO
end Go.Proofs.YteiecapbaeajdaaGreatDoor
namespace Go.Proofs.YteiecapbaeajdaaGreatDoor
open Go Go.Avc Go.Gr
set_option linter.unusedVariables false
def HU:List SV→List Blk→CR:=fun svs hp=>match svs with
 | [p] =>(match In hp p with
  | some (_,_,_,_,k',x,_)=>if k'= .u32 then .ret (.bool (!(decide (x=0)))) [] [] else .bad
  | none=> .bad)
 | _=> .bad
theorem PW {C:Ctx} {f:FuncId} (hrun:∀ (a:Addr) (x:Int) (w:World),w.cell? a=some (.int .u32 x)→CallSem C.P f #[.pointer (some a)] w fun e w'=>e= .returned (.bool (!(decide (x=0))))∧w'=w):b9 C f HU:=by
 intro svs hp K R h E Im ι w vs hm hRn hv
 unfold HU at h
 split at h
 ·rename_i p
  obtain ⟨vp,_,rfl,hp',rfl⟩:=hv
  split at h
  ·rename_i b c T a k' x d hn
   split at h
   ·rename_i hk
    subst hk
    obtain ⟨r,va,vd,rfl,h1,hl,h2,h3,h4⟩:=GP hm.hv hp' hn
    have hK:=h.1
    rw [aiz] at hK
    have post:mG C E Im ι w hp.length K (.returned (.bool (!(decide (x=0))))) w:=⟨_,_,hp,Im,ι,rfl,hK,rfl,hm,ar5 _,fun _ _=>rfl,Later.refl _ _ _⟩
    rcases hrun ⟨r,c,none⟩ x w (Go.Avc.cell_of_row h2 h3).1 with ⟨g1,g2⟩ | ⟨v,g1,g2,g3⟩
    ·exact .inl ⟨g1,g2.mono fun e w' ⟨e1,e2⟩=>by rw [e1,e2];exact post⟩
    ·refine .inr ⟨v,?_,?_⟩
     ·exact g1
     ·cases g2;exact post
   ·exact h.elim
  ·exact h.elim
 ·exact h.elim
theorem alo:b9 (base.with Lh) 311 HU:=PW fun a x w hc=> .inl ⟨Tryz.call311 _ w,(Re a x w hc).mono fun e w' ⟨h1,h2⟩=>⟨by rw [h1];rfl,h2⟩⟩
noncomputable def J8:ac:=ak Lh 311 HU
theorem Pa:(base.with J8).Ok:=ab ane alo
noncomputable def Tp:Ct:=Wc eI dJ
theorem akY:b9 (base.with J8) 312 (aq Tp):=apR Pa (Pa.spec 298)
noncomputable def QN:ac:=ak J8 312 (aq Tp)
theorem WH:(base.with QN).Ok:=ab Pa akY
abbrev BG:=Int×Int×Int×List Int×List Int
def kB (q:BG):Prop:=(q.1=0∧q.2.1=0∧q.2.2.2.1=fl∧q.2.2.2.2=jv)∨(q.1=1∧q.2.1=0∧q.2.2.2.1=eI∧q.2.2.2.2=dJ)
noncomputable def RA (q:BG):BG:=(1,0,q.2.2.1,eI,dJ)
def dP (q:BG):List Dat:= [.i q.1,.i q.2.1,.i q.2.2.1,.li q.2.2.2.1,.li q.2.2.2.2]
noncomputable def aoF:Ct:= {ps:= [.ptr 0 0,.fb 298 [.ptr 0 0]],bs:= [fj],pre:=fun | [.i d,.i l,.i s,.li z,.li m] =>kB (d,l,s,z,m) | _=>False,res:=fun
 | [.i d,.i l,.i s,.li z,.li m] => .ret (.tup []) [fj] [.i 1,.i 0,.i s,.li eI,.li dJ]
 | _=>ag}
noncomputable def eJ (r:Int):List Int:=hid ((eI.drop (12*r.toNat)).take 12)
noncomputable def alv:Ct:= {ps:= [.ptr 0 0,i64],bs:= [fj],pre:=fun | [.i r,.i d,.i l,.i s,.li z,.li m] =>0≤r∧r<65∧kB (d,l,s,z,m) | _=>False,res:=fun
 | [.i r,.i d,.i l,.i s,.li z,.li m] => .ret CV [fj] [.li (eJ r),.i 1,.i 0,.i s,.li eI,.li dJ]
 | _=>ag}
def cN (r:Int):Bool:=decide (r<4)||decide (61≤r)
noncomputable def Sq (full:Bool) (i:Nat) (x c:List Int):List Int:=if full=true∨i=0 then RX (mb x c) else mb x c
noncomputable def ja (full:Bool) (c v:List Int):Nat→List Int
 | 0=>v
 | i+1=>(ja full c v i).take (4*i)++Sq full i (vE (ja full c v i) i) (vE c i)++(ja full c v i).drop (4*i+4)
noncomputable def D9 (v:List Int) (r:Int):List Int:=hid (LM dJ (ja (cN r) (eJ r) v 3))
noncomputable def apf:Ct:= {ps:= [.ptr 0 0,CV,i64],bs:= [fj],pre:=fun | [.li v,.i r,.i d,.i l,.i s,.li z,.li m] =>0≤r∧r<65∧af v∧kB (d,l,s,z,m) | _=>False,res:=fun
 | [.li v,.i r,.i d,.i l,.i s,.li z,.li m] => .ret CV [fj] [.li (D9 v r),.i 1,.i 0,.i s,.li eI,.li dJ]
 | _=>ag}
noncomputable def ahg:List Dat→Ann
 | [.li v,.i r,.i _,.i _,.i s,.li _,.li _] => {cut:= [],loop:= [(4,[la 49 [(0,.ptr 0 0),(4,.ptr 1 0),(6,.ptr 2 0),(7,.ptr 3 0),(8,.bool),(19,i64)] [fj,QL,QL,QL] (fun
   | [.b f,.i i,.i d',.i l',.i s',.li z',.li m',.li v',.li _,.li c'] =>f=cN r∧0≤i∧i≤3∧d'=1∧l'=0∧s'=s∧z'=eI∧m'=dJ∧c'=eJ r∧v'=ja (cN r) (eJ r) v i.toNat
   | _=>False) (fun | [_,.i i,_,_,_,_,_,_,_,_] =>(3-i).toNat | _=>0)])]}
 | _=> {cut:= [],loop:= []}
noncomputable def GT (v:List Int):Nat→List Int
 | 0=>v
 | k+1=>D9 (GT v k) k
noncomputable def Dr (v:List Int):List Int:=hid (GT v 65)
noncomputable def amq:Ct:= {ps:= [.ptr 0 0,CV],bs:= [fj],pre:=fun | [.li v,.i d,.i l,.i s,.li z,.li m] =>af v∧kB (d,l,s,z,m) | _=>False,res:=fun
 | [.li v,.i d,.i l,.i s,.li z,.li m] => .ret CV [fj] [.li (Dr v),.i 1,.i 0,.i s,.li eI,.li dJ]
 | _=>ag}
noncomputable def akE:List Dat→Ann
 | [.li v,.i d,.i l,.i s,.li z,.li m] => {cut:= [],loop:= [(2,[la 15 [(0,.ptr 0 0),(3,.ptr 1 0),(4,.ptr 2 0),(6,i64)] [fj,QL,QL] (fun
   | [.i i,.i d',.i l',.i s',.li z',.li m',.li v',.li _] =>0≤i∧i≤65∧s'=s∧((i=0∧d'=d∧l'=l∧z'=z∧m'=m)∨(d'=1∧l'=0∧z'=eI∧m'=dJ))∧v'=GT v i.toNat
   | _=>False) (fun | [.i i,_,_,_,_,_,_,_] =>(65-i).toNat | _=>0)])]}
 | _=> {cut:= [],loop:= []}
def ia (l:LD):Prop:=∀ r∈l,∃ w:List Int,w.length=4∧af w∧r=cF w
noncomputable def iF (l:LD):LD:=hid (rf 4 3 (Dr (ku l)))
noncomputable def alE:Ct:= {ps:= [.agg [.ptr 0 0],.own 1],bs:= [fj,oe],pre:=fun | [.i d,.i l,.i s,.li z,.li m,.r x] =>x.length=3∧ia x∧kB (d,l,s,z,m) | _=>False,res:=fun
 | [.i d,.i l,.i s,.li z,.li m,.r x] => .ret (.tup []) [fj,oe] [.i 1,.i 0,.i s,.li eI,.li dJ,.r (iF x)]
 | _=>ag}
end Go.Proofs.YteiecapbaeajdaaGreatDoor
namespace Go.Proofs.YteiecapbaeajdaaGreatDoor
open Go Go.Avc Go.Proofs
set_option linter.unusedVariables false
set_option maxRecDepth 100000
noncomputable section
abbrev yB (a:Int):Prop:=
 (1:Int)=1∧
 (0:Int)=0∧
 a=a∧eI=eI∧dJ=dJ
def afg:Prop:=
 ∀ (a b c:Int) (d e:List Int),
 d.length=780→
 e.length=36→
 kB (a,b,c,d,e)→
 bif !!decide (a=0) then
 (a=0∧b=0∧d=fl∧e=jv)∧
 yB c
 else a=1∧b=0∧c=c∧d=eI∧e=dJ
def Sm:ac:=ak QN 304 (aq aoF)
def agh:Prop:=
 ∀ (a b c d:Int) (e f:List Int),
 e.length=780→
 f.length=36→
 0≤a∧a<(65:Int)∧kB (b,c,d,e,f)→
 kB (b,c,d,e,f)∧
 bif decide (a<(0:Int))||decide (65≤a) then
 [0,0,0,0,0,0,0,0,0,0,0,0] =
 eJ a∧
 yB d
 else
 (0≤a∧a<(↑(65:Nat):Int))∧
 a.toNat*12+12≤780∧
 ar0 12 (ar1 (a.toNat*12) eI)=eJ a∧
 yB d
def Te:ac:=ak Sm 300 (aq alv)
abbrev uI (a:Int):Prop:=
 a.toNat*4+4≤12
abbrev uD (a:Int)(b c:List Int):List Int:=
 ar0 (a.toNat*4) b++
 mb (ar0 4 (ar1 (a.toNat*4) b)) (ar0 4 (ar1 (a.toNat*4) c))++
 ar1 (a.toNat*4+4) b
def acF:Prop:=
 ∀ (a:List Int) (b c d e:Int) (f g:List Int),
 a.length=12→
 f.length=780→
 g.length=36→
 0≤b∧b<(65:Int)∧af a∧kB (c,d,e,f,g)→
 (0≤b∧b<(65:Int)∧kB (c,d,e,f,g))∧
 (((decide (b<(4:Int))||decide (61≤b))=cN b∧
 (0:Int)≤0∧
 (0:Int)≤3∧
 (1:Int)=1∧
 (0:Int)=0∧
 e=e∧
 eI=eI∧
 dJ=dJ∧
 eJ b=eJ b∧
 a=
 ja (cN b) (eJ b) a 0)∧
 True)∧
 ∀ (h:Bool) (i j k m:Int) (o p q r s:List Int),
 o.length=780→
 p.length=36→
 q.length=12→
 r.length=12→
 s.length=12→
 h=cN b∧
 0≤i∧
 i≤3∧
 j=1∧
 k=0∧
 m=e∧
 o=eI∧
 p=dJ∧
 s=eJ b∧
 q=
 ja (cN b) (eJ b) a
 i.toNat→
 bif decide (i<(3:Int)) then
 (0≤i∧i<(↑(3:Nat):Int))∧
 uI i∧
 (0≤i∧i<(↑(3:Nat):Int))∧
 uI i∧
 (af (ar0 4 (ar1 (i.toNat*4) q))∧
 af (ar0 4 (ar1 (i.toNat*4) s)))∧
 (0≤i∧i<(↑(3:Nat):Int))∧
 uI i∧
 bif h||decide (i=0) then
 (0≤i∧i<(↑(3:Nat):Int))∧
 uI i∧
 af
 (ar0 4 (ar1 (i.toNat*4) (uD i q s)))∧
 (0≤i∧i<(↑(3:Nat):Int))∧
 uI i∧
 iR (i+1)∧
 (h=cN b∧
 0≤i+1∧
 i+1≤3∧
 j=1∧
 k=0∧
 m=e∧
 o=eI∧
 p=dJ∧
 s=eJ b∧
 ar0 (i.toNat*4) (uD i q s)++
 RX
 (ar0 4
 (ar1 (i.toNat*4) (uD i q s)))++
 ar1 (i.toNat*4+4) (uD i q s)=
 ja (cN b)
 (eJ b) a (i+1).toNat)∧
 ((3:Int)-(i+1)).toNat<((3:Int)-i).toNat
 else
 iR (i+1)∧
 (h=cN b∧
 0≤i+1∧
 i+1≤3∧
 j=1∧
 k=0∧
 m=e∧
 o=eI∧
 p=dJ∧
 s=eJ b∧
 uD i q s=
 ja (cN b)
 (eJ b) a (i+1).toNat)∧
 ((3:Int)-(i+1)).toNat<((3:Int)-i).toNat
 else
 (af p∧af q)∧
 LM p q=D9 a b∧
 j=1∧k=0∧m=e∧o=eI∧p=dJ
def TF:ac:=ak Te 299 (aq apf)
def aeo:Prop:=
 ∀ (a:List Int) (b c d:Int) (e f:List Int),
 a.length=12→
 e.length=780→
 f.length=36→
 af a∧kB (b,c,d,e,f)→
 (((0:Int)≤0∧
 (0:Int)≤65∧
 d=d∧
 ((0:Int)=0∧b=b∧c=c∧e=e∧f=f∨
 b=1∧c=0∧e=eI∧f=dJ)∧
 a=GT a 0)∧
 True)∧
 ∀ (g h i j:Int) (k m o p:List Int),
 k.length=780→
 m.length=36→
 o.length=12→
 p.length=12→
 0≤g∧
 g≤65∧
 j=d∧
 (g=0∧h=b∧i=c∧k=e∧m=f∨
 h=1∧i=0∧k=eI∧m=dJ)∧
 o=GT a g.toNat→
 bif decide (g<(65:Int)) then
 (0≤g∧g<(65:Int)∧af o∧kB (h,i,j,k,m))∧
 iR (g+1)∧
 (0≤g+1∧
 g+1≤65∧
 j=d∧
 (g+1=0∧
 1=b∧0=c∧eI=e∧dJ=f∨
 (1:Int)=1∧
 (0:Int)=0∧
 eI=eI∧
 dJ=dJ)∧
 D9 o g=GT a (g+1).toNat)∧
 ((65:Int)-(g+1)).toNat<((65:Int)-g).toNat
 else
 o=Dr a∧
 h=1∧i=0∧j=d∧k=eI∧m=dJ
def RR:ac:=ak TF 297 (aq amq)
def afs:Prop:=
 ∀ (a b c:Int) (d e:List Int) (f:LD),
 d.length=780→
 e.length=36→
 lM f→
 f.length=3∧ia f∧kB (a,b,c,d,e)→
 lM f→
 bif decide ((↑f.length:Int)≠3) then
 a=1∧
 b=0∧c=c∧d=eI∧e=dJ∧f=iF f
 else
 3≤f.length∧
 3≤f.length∧
 (af (ku (ar0 3 (ar1 0 f)))∧
 kB (a,b,c,d,e))∧
 (1:Int)=1∧
 (0:Int)=0∧
 c=c∧
 eI=eI∧
 dJ=dJ∧
 gj f 0 f.length
 (rf 4 3 (Dr (ku (ar0 3 (ar1 0 f)))))=
 iF f
def S5:ac:=ak RR 344 (aq alE)
end
end Go.Proofs.YteiecapbaeajdaaGreatDoor
namespace Go.Proofs.YteiecapbaeajdaaGreatDoor
open Go Go.Avc Go.Proofs Go.Gr
set_option linter.unusedVariables false
set_option linter.unusedSimpArgs false
set_option maxRecDepth 100000
theorem alB:afg:=by
 delta afg yB
 rintro d l s z m _ _ h
 rcases h with ⟨h1,h2,h3,h4⟩ | ⟨h1,h2,h3,h4⟩
 ·have h1:d=0:=h1
  exact aa (fun _=>⟨⟨h1,h2,h3,h4⟩,rfl,rfl,rfl,rfl,rfl⟩) fun e=>absurd e (by subst h1;decide)
 ·have h1:d=1:=h1
  exact aa (fun e=>absurd e (by subst h1;decide)) fun _=>⟨h1,h2,rfl,h3,h4⟩
theorem Y1:(base.with Sm).Ok:=ab WH (ai am WH Tryz.func304 (by kernel_rfl) Tryz.call304 (by kernel_rfl) alB)
theorem arQ:agh:=by
 delta agh yB
 rintro n d l s z m _ _ ⟨h0,h1,h⟩
 refine ⟨h,aa (fun e=> ?_) fun _=>⟨⟨h0,by omega⟩,by omega,?_,rfl,rfl,rfl,rfl,rfl⟩⟩
 ·simp only [as9,aQ] at e
  omega
 ·unfold eJ
  rw [al,asS]
theorem XA:(base.with Te).Ok:=ab Y1 (ai am Y1 Tryz.func300 (by kernel_rfl) Tryz.call300 (by kernel_rfl) arQ)
theorem xv {l:List Int} (h:af l):∀ x∈l,ap x:=by
 intro x hx
 obtain ⟨i,hi,rfl⟩:=List.getElem_of_mem hx
 have:=h i
 rwa [ay,cH hi] at this
theorem jC {a b:List Int} (ha:af a) (hb:af b):af (a++b):=pD fun x hx=>by
 rcases List.mem_append.mp hx with h | h
 ·exact xv ha x h
 ·exact xv hb x h
theorem sC (n:Nat):af (ab0 n 0):=pD fun x hx=>by
 rw [List.eq_of_mem_replicate hx]
 exact ⟨by decide,by decide⟩
theorem rD {a:List Int} (h:af a) (n:Nat):af (a.drop n):=pD fun x hx=>xv h x (List.mem_of_mem_drop hx)
theorem ru {a:List Int} (h:af a) (n:Nat):af (a.take n):=pD fun x hx=>xv h x (List.mem_of_mem_take hx)
theorem aef (v:Nat):af (BQ v):=by
 unfold BQ
 rw [al]
 exact wI (Ah _ _)
theorem N6:∀ k,af (Gf k)
 | 0=>sC 0
 | k+1=>jC (N6 k) (aef _)
theorem adh:af eI:=by
 unfold eI kY
 rw [al]
 exact jC (N6 _) (sC _)
theorem adP {e:List Int} (h:af e):af (wo e):=by
 unfold wo
 rw [al]
 exact Fg h _ _ _
theorem Si:∀ k,k≤9→af (M2 k)
 | 0,_=>sC 0
 | k+1,hk=>jC (Si k (by omega)) (adP (JZ ⟨by omega,by omega⟩))
theorem Rb:af dJ:=by
 unfold dJ k9
 rw [al]
 exact jC (Si _ (ar5 _)) (sC _)
theorem Lj (r:Int):af (eJ r):=by
 unfold eJ
 rw [al]
 exact ru (rD adh _) _
theorem KF {a b:List Int} (ha:af a) (hb:af b):af (zx a b):=tp (tp (tp yF (fh (dL ha _ _) (dL hb _ _))) (fh (dL ha _ _) (dL hb _ _))) (fh (dL ha _ _) (dL hb _ _))
theorem afb {m v:List Int} (hm:af m) (hv:af v):af (LM m v):=jC (KF (ru (rD hm _) _) hv) (jC (KF (ru (rD hm _) _) hv) (KF (ru (rD hm _) _) hv))
theorem aal (m v:List Int):(LM m v).length=12:=by
 unfold LM
 rw [ce,ce,ry,ry,ry]
theorem aiq {e:List Int} (h:af e):af (RX e):=fh (fh (fh h h) (fh h h)) h
theorem aaI (a b:List Int):(mb a b).length=4:=xi (vW _ _ _)
theorem aeD {f:Bool} {i:Nat} {x c:List Int} (hx:af x) (hc:af c):af (Sq f i x c):=by
 unfold Sq
 split
 ·exact aiq (tp hx hc)
 ·exact tp hx hc
theorem zn {f:Bool} {c v:List Int} (hc:af c) (hv:af v):∀ i,af (ja f c v i)
 | 0=>hv
 | i+1=>jC (jC (ru (zn hc hv i) _) (aeD (dL (zn hc hv i) _ _) (dL hc _ _))) (rD (zn hc hv i) _)
theorem aiF {v:List Int} (hv:af v) (r:Int):af (D9 v r):=by
 unfold D9
 rw [al]
 exact afb Rb (zn (Lj r) hv 3)
theorem aaU (v:List Int) (r:Int):(D9 v r).length=12:=by
 unfold D9
 rw [al]
 exact aal _ _
theorem aa6 {u a:List Int} {p:Nat} (h:p+4≤u.length) (ha:a.length=4):((u.take p++a++u.drop (p+4)).drop p).take 4=a∧(u.take p++a++u.drop (p+4)).take p=u.take p∧(u.take p++a++u.drop (p+4)).drop (p+4)=u.drop (p+4):=by
 have hp:(u.take p).length=p:=by rw [ajw];omega
 refine ⟨?_,?_,?_⟩
 ·rw [fE,ata,atb (by omega),hp,as7,as8,asp,af9,agv (by omega),ha,as7,atc,aiz]
 ·rw [fE,af9,hp,as7,atc,aiz,List.take_take,Nat.min_self]
 ·rw [ata,atb (by rw [ce];omega),asp,ce,hp,ha,as7,as8]
theorem apU:acF:=by
 delta acF iR uI uD
 rintro v r d l s z m hv _ _ ⟨h0,h1,hw,hp⟩
 refine ⟨⟨h0,h1,hp⟩,⟨⟨rfl,by omega,by omega,rfl,rfl,rfl,rfl,rfl,rfl,rfl⟩,trivial⟩,?_⟩
 rintro f i d' l' s' z' m' u o c _ _ hu _ hc ⟨rfl,g0,g1,e1,e2,e3,e4,e5,rfl,rfl⟩
 obtain ⟨i,rfl⟩:=as6 g0
 have hok:=zn (f:=cN r) (Lj r) hw i
 rw [aA] at hu ⊢
 refine aa (fun e=> ?_) fun e=> ?_
 ·have e:=au e
  have hi:i<3:=by omega
  rw [show ((i:Int)+1).toNat=i+1 by omega,asS i 4]
  obtain ⟨p1,p2,p3⟩:=aa6 (u:=ja (cN r) (eJ r) v i) (a:=mb (vE (ja (cN r) (eJ r) v i) i) (vE (eJ r) i)) (p:=4*i) (by omega) (aaI _ _)
  have hx:af (vE (ja (cN r) (eJ r) v i) i):=dL hok _ _
  have hcx:af (vE (eJ r) i):=dL (Lj r) _ _
  have b1:(0:Int)≤i∧(i:Int)<((3:Nat):Int):=⟨by omega,by omega⟩
  have b2:4*i+4≤12:=by omega
  refine ⟨b1,b2,b1,b2,⟨hx,hcx⟩,b1,b2,aa (fun k=> ?_) fun k=> ?_⟩
  ·have k:cN r=true∨i=0:=by
    simp only [as9,aQ] at k
    rcases k with k | k
    ·exact .inl k
    ·exact .inr (by omega)
   have p1:ar0 4 (ar1 (4*i) (ar0 (4*i) (ja (cN r) (eJ r) v i)++mb (ar0 4 (ar1 (4*i) (ja (cN r) (eJ r) v i))) (ar0 4 (ar1 (4*i) (eJ r)))++ar1 (4*i+4) (ja (cN r) (eJ r) v i)))=mb (vE (ja (cN r) (eJ r) v i) i) (vE (eJ r) i):=p1
   have p2:ar0 (4*i) (ar0 (4*i) (ja (cN r) (eJ r) v i)++mb (ar0 4 (ar1 (4*i) (ja (cN r) (eJ r) v i))) (ar0 4 (ar1 (4*i) (eJ r)))++ar1 (4*i+4) (ja (cN r) (eJ r) v i))=ar0 (4*i) (ja (cN r) (eJ r) v i):=p2
   have p3:ar1 (4*i+4) (ar0 (4*i) (ja (cN r) (eJ r) v i)++mb (ar0 4 (ar1 (4*i) (ja (cN r) (eJ r) v i))) (ar0 4 (ar1 (4*i) (eJ r)))++ar1 (4*i+4) (ja (cN r) (eJ r) v i))=ar1 (4*i+4) (ja (cN r) (eJ r) v i):=p3
   rw [p1,p2,p3]
   refine ⟨b1,b2,tp hx hcx,b1,b2,⟨by omega,by omega⟩,⟨rfl,by omega,by omega,e1,e2,e3,e4,e5,rfl,?_⟩,by omega⟩
   rw [ja,Sq,if_pos k]
  ·have k:¬ (cN r=true∨i=0):=by
    simp only [Bool.or_eq_false_iff,aT] at k
    rintro (h | h)
    ·rw [k.1] at h;cases h
    ·exact k.2 (by omega)
   refine ⟨⟨by omega,by omega⟩,⟨rfl,by omega,by omega,e1,e2,e3,e4,e5,rfl,?_⟩,by omega⟩
   rw [ja,Sq,if_neg k]
   rfl
 ·have e:=aw e
  have hi:i=3:=by omega
  subst hi
  subst e5
  refine ⟨⟨Rb,hok⟩,?_,e1,e2,e3,e4,rfl⟩
  unfold D9
  rw [al]
theorem XU:(base.with TF).Ok:=ab XA (ai ahg XA Tryz.func299 (by kernel_rfl) Tryz.call299 (by kernel_rfl) apU)
theorem Jc {v:List Int} (h:af v):∀ k,af (GT v k)
 | 0=>h
 | k+1=>aiF (Jc h k) _
theorem ai5 {v:List Int} (h:af v):af (Dr v):=by
 unfold Dr
 rw [al]
 exact Jc h _
theorem abk (v:List Int):(Dr v).length=12:=by
 unfold Dr
 rw [al]
 exact aaU _ _
theorem apb:aeo:=by
 delta aeo iR
 rintro v d l s z m hv _ _ ⟨hw,hp⟩
 refine ⟨⟨⟨by omega,by omega,rfl,.inl ⟨rfl,rfl,rfl,rfl,rfl⟩,rfl⟩,trivial⟩,?_⟩
 rintro i d' l' s' z' m' u o _ _ _ _ ⟨g0,g1,rfl,hor,rfl⟩
 refine aa (fun e=> ?_) fun e=> ?_
 ·have e:=au e
  refine ⟨⟨g0,e,Jc hw _,?_⟩,⟨by omega,by omega⟩,⟨by omega,by omega,rfl,.inr ⟨rfl,rfl,rfl,rfl⟩,?_⟩,by omega⟩
  ·rcases hor with ⟨_,h1,h2,h3,h4⟩ | ⟨h1,h2,h3,h4⟩
   ·subst h1 h2 h3 h4
    exact hp
   ·exact .inr ⟨h1,h2,h3,h4⟩
  ·rw [show (i+1).toNat=i.toNat+1 by omega,GT,show ((i.toNat:Nat):Int)=i by omega]
 ·have e:=aw e
  have hi:i=65:=by omega
  rcases hor with ⟨h,_⟩ | ⟨h1,h2,h3,h4⟩
  ·omega
  ·subst hi
   refine ⟨?_,h1,h2,rfl,h3,h4⟩
   unfold Dr
   rw [al]
   rfl
theorem YW:(base.with RR).Ok:=ab XU (ai akE XU Tryz.func297 (by kernel_rfl) Tryz.call297 (by kernel_rfl) apb)
theorem G5 {w:List Int} (h:w.length=4):cF w=w.map CD.int:=by
 match w,h with
 | [_,_,_,_],_=>rfl
theorem F0:∀ {l:LD},ia l→af (ku l)∧(ku l).length=4*l.length
 | [],_=>⟨sC 0,rfl⟩
 | r::l,h=>by
  obtain ⟨w,h1,h2,rfl⟩:=h r List.mem_cons_self
  obtain ⟨h3,h4⟩:=F0 (l:=l) fun r hr=>h r (List.mem_cons_of_mem _ hr)
  have e:ku (cF w::l)=w++ku l:=by
   show (cF w).map CD.toInt++ku l=_
   rw [G5 h1,as4]
   congr 1
   exact (as5 fun x _=>rfl).trans (List.map_id w)
  rw [e]
  exact ⟨jC h2 h3,by rw [ce,h1,h4,List.length_cons];omega⟩
theorem Kw:∀ (m:Nat) {l:List Int},af l→l.length=4*m→ia (rf 4 m l)
 | 0,_,_,_=>fun r hr=>by cases hr
 | m+1,l,h,hl=>fun r hr=>by
  rcases List.mem_cons.mp hr with rfl | hr
  ·have h4:(l.take 4).length=4:=by rw [ajw];omega
   exact ⟨l.take 4,h4,ru h 4,(G5 h4).symm⟩
  ·exact Kw m (rD h 4) (by rw [eH];omega) r hr
theorem vu (l:LD):(iF l).length=3:=by
 unfold iF
 rw [al]
 exact tZ _ _ _
theorem S2 {l:LD} (h:ia l):ia (iF l):=by
 unfold iF
 rw [al]
 exact Kw 3 (ai5 (F0 h).1) (by rw [abk])
theorem aqq:afs:=by
 delta afs lM
 rintro d l s z m x _ _ _ ⟨hx,he,hp⟩ _
 have ht:ar0 3 (ar1 0 x)=x:=by rw [as8,agv (by omega)]
 refine aa (fun e=> ?_) fun _=> ?_
 ·have e:=au e
  omega
 ·rw [ht]
  refine ⟨by omega,by omega,⟨(F0 he).1,hp⟩,rfl,rfl,rfl,rfl,rfl,?_⟩
  rw [Nj (by rw [hx,tZ])]
  unfold iF
  rw [al]
theorem YT:(base.with S5).Ok:=ab YW (ai am YW Tryz.func344 (by kernel_rfl) Tryz.call344 (by kernel_rfl) aqq)
end Go.Proofs.YteiecapbaeajdaaGreatDoor
namespace Go.Proofs.YteiecapbaeajdaaGreatDoor
open Go Go.Avc Go.Gr
set_option linter.unusedVariables false
abbrev Rt:Pat:= .agg [.ptr 0 0]
abbrev Sf:=Int×Int×Int×BG×LD
def dF (x:Sf):List Dat:= [.i x.1,.i x.2.1,.i x.2.2.1] ++dP x.2.2.2.1++ [.r x.2.2.2.2]
noncomputable def aeZ (x:Sf):Sf:=(0,x.2.1,x.2.2.1+1,RA x.2.2.2.1,iF x.2.2.2.2)
noncomputable def MF (x:Sf):Sf:=if x.1=2 then aeZ x else x
def fb1 (x:Sf) (u:List CD):Sf:=(x.1+1,2,x.2.2.1,x.2.2.2.1,x.2.2.2.2.set x.1.toNat u)
noncomputable def GV (l:LD) (x:Sf):Nat→Sf
 | 0=>x
 | i+1=>fb1 (MF (GV l x i)) (cF (kR l i))
noncomputable def BP (x:Sf):Sf:=if x.2.1=2 then (0,0,x.2.2.1+1,RA x.2.2.2.1,iF x.2.2.2.2) else x
def fq1 (x:Sf):Sf:=(x.1,x.2.1+1,x.2.2)
noncomputable def G8 (x:Sf):Nat→Sf
 | 0=>x
 | i+1=>fq1 (BP (G8 x i))
noncomputable def HG (x:Sf):Nat→LD
 | 0=> []
 | i+1=>HG x i++ [cF (kR (BP (G8 x i)).2.2.2.2 (BP (G8 x i)).2.1.toNat)]
noncomputable def jO (l:LD) (x:Sf) (i:Nat):Sf:=hid (GV l x i)
noncomputable def bF (x:Sf) (i:Nat):Sf:=hid (G8 x i)
noncomputable def gO (x:Sf) (i:Nat):LD:=hid (HG x i)
def bh (m:Int) (x:Sf):Prop:=0≤x.1∧x.1≤2∧0≤x.2.1∧x.2.1≤2∧0≤x.2.2.1∧x.2.2.1≤m∧kB x.2.2.2.1∧x.2.2.2.2.length=3∧ia x.2.2.2.2
abbrev rW:List BPat:= [Hn,fj,oe]
noncomputable def iW (x:Sf):Sf:=hid (0,2,x.2.2.1+1,RA x.2.2.2.1,gj (iF x.2.2.2.2) 0 2 (ab0 2 [.int 0,.int 0,.int 0,.int 0]))
noncomputable def bI (k t n:Int) (d:LD) (x:Sf):Sf:=hid (GV (dn k t n d) x (dn k t n d).length)
noncomputable def mL (n:Int) (x:Sf):Nat→LD×Sf
 | 0=>([],x)
 | k+1=>((mL n x k).1++((kV (kR (gO (mL n x k).2 1) 0)).map ae).take (min 31 (n-(mL n x k).1.length)).toNat,bF (mL n x k).2 1)
noncomputable def bG (n:Int) (x:Sf):LD×Sf:=hid (mL n x ((n.toNat+30) / 31))
noncomputable def anN:Ct:= {ps:= [.ptr 0 0],bs:=rW,pre:=fun | [.i a,.i b,.i c,.i d,.i l,.i s,.li z,.li m,.r x] =>bh 1500000000 (a,b,c,(d,l,s,z,m),x) | _=>False,res:=fun
 | [.i a,.i b,.i c,.i d,.i l,.i s,.li z,.li m,.r x] => .ret (.tup []) rW [.i 0,.i b,.i (c+1),.i 1,.i 0,.i s,.li eI,.li dJ,.r (iF x)]
 | _=>ag}
noncomputable def aoj:Ct:= {ps:= [.ptr 0 0,.rd GQ],bs:=rW,pre:=fun | [.r u,.i a,.i b,.i c,.i d,.i l,.i s,.li z,.li m,.r x] =>bh 1000000000 (a,b,c,(d,l,s,z,m),x)∧ia u∧u.length≤1000000 | _=>False,res:=fun
 | [.r u,.i a,.i b,.i c,.i d,.i l,.i s,.li z,.li m,.r x] => .ret (.tup []) rW (dF (jO u (a,b,c,(d,l,s,z,m),x) u.length))
 | _=>ag}
noncomputable def ajG:List Dat→Ann
 | [.r u,.i a,.i b,.i c,.i d,.i l,.i s,.li z,.li m,.r x] => {cut:= [],loop:= [(2,[la 48 [(0,.ptr 0 0),(4,i64),(12,.rd GQ),(13,i64),(14,i64)] rW (fun
   | [.i q,.r u',.i n,.i i,.i a',.i b',.i c',.i d',.i l',.i s',.li z',.li m',.r x'] =>q=2∧u'=u∧n=u.length∧0≤i∧i≤n∧(a',b',c',(d',l',s',z',m'),x')=jO u (a,b,c,(d,l,s,z,m),x) i.toNat
   | _=>False) (fun | [_,_,.i n,.i i,_,_,_,_,_,_,_,_,_] =>(n-i).toNat | _=>0)])]}
 | _=> {cut:= [],loop:= []}
noncomputable def apV:Ct:= {ps:= [.ptr 0 0,i64],bs:=rW,pre:=fun | [.i n,.i a,.i b,.i c,.i d,.i l,.i s,.li z,.li m,.r x] =>bh 1000000000 (a,b,c,(d,l,s,z,m),x)∧n≤1000000 | _=>False,res:=fun
 | [.i n,.i a,.i b,.i c,.i d,.i l,.i s,.li z,.li m,.r x] => .ret (.own 3) [Hn,fj,oe,oe] (dF (bF (a,b,c,(d,l,s,z,m),x) n.toNat)++ [.r (gO (a,b,c,(d,l,s,z,m),x) n.toNat)])
 | _=>ag}
noncomputable def ab3:List Dat→Ann
 | [.i n,.i a,.i b,.i c,.i d,.i l,.i s,.li z,.li m,.r x] => {cut:= [],loop:= [(3,[la 47 [(0,.ptr 0 0),(5,.own 3),(7,i64),(8,i64)] [Hn,fj,oe,oe] (fun
   | [.i q,.i i,.i a',.i b',.i c',.i d',.i l',.i s',.li z',.li m',.r x',.r o] =>q=max n 0∧0≤i∧i≤q∧(a',b',c',(d',l',s',z',m'),x')=bF (a,b,c,(d,l,s,z,m),x) i.toNat∧o=gO (a,b,c,(d,l,s,z,m),x) i.toNat
   | _=>False) (fun | [.i q,.i i,_,_,_,_,_,_,_,_,_,_] =>(q-i).toNat | _=>0)])]}
 | _=> {cut:= [],loop:= []}
noncomputable def alL:Ct:= {ps:= [.ptr 0 0],bs:=rW,pre:=fun | [.i a,.i b,.i c,.i d,.i l,.i s,.li z,.li m,.r x] =>bh 1000000000 (a,b,c,(d,l,s,z,m),x) | _=>False,res:=fun
 | [.i a,.i b,.i c,.i d,.i l,.i s,.li z,.li m,.r x] => .ret (.tup []) rW (dF (iW (a,b,c,(d,l,s,z,m),x)))
 | _=>ag}
noncomputable def apA:Ct:= {ps:= [Rt,qS],bs:=rW,pre:=fun | [.i k,.i t,.i n,.r d0,.i a,.i b,.i c,.i d,.i l,.i s,.li z,.li m,.r x] =>bX d0∧bh 1000000000 (a,b,c,(d,l,s,z,m),x) | _=>False,res:=fun
 | [.i k,.i t,.i n,.r d0,.i a,.i b,.i c,.i d,.i l,.i s,.li z,.li m,.r x] => .ret (.tup []) rW (dF (bI k t n d0 (a,b,c,(d,l,s,z,m),x)))
 | _=>ag}
noncomputable def anx:Ct:= {ps:= [Rt],bs:=rW,pre:=fun | [.i a,.i b,.i c,.i d,.i l,.i s,.li z,.li m,.r x] =>bh 1000000000 (a,b,c,(d,l,s,z,m),x) | _=>False,res:=fun
 | [.i a,.i b,.i c,.i d,.i l,.i s,.li z,.li m,.r x] => .ret w4 rW (.li (kR (gO (a,b,c,(d,l,s,z,m),x) 1) 0)::dF (bF (a,b,c,(d,l,s,z,m),x) 1))
 | _=>ag}
abbrev ahH:Pat:= .fb 290 [Rt]
noncomputable def anq:Ct:= {ps:= [i64,ahH],bs:=rW,pre:=fun | [.i n,.i a,.i b,.i c,.i d,.i l,.i s,.li z,.li m,.r x] =>0≤n∧n≤100000∧bh 900000000 (a,b,c,(d,l,s,z,m),x) | _=>False,res:=fun
 | [.i n,.i a,.i b,.i c,.i d,.i l,.i s,.li z,.li m,.r x] => .ret (.own 3) [Hn,fj,oe,ob] (dF (bG n (a,b,c,(d,l,s,z,m),x)).2++ [.r (bG n (a,b,c,(d,l,s,z,m),x)).1])
 | _=>ag}
noncomputable def ale:List Dat→Ann
 | [.i n,.i a,.i b,.i c,.i d,.i l,.i s,.li z,.li m,.r x] => {cut:= [],loop:= [(2,[la 23 [(0,i64),(1,ahH),(5,.own 3)] [Hn,fj,oe,ob] (fun
   | [.i n',.i a',.i b',.i c',.i d',.i l',.i s',.li z',.li m',.r x',.r o] =>n'=n∧(o.length:Int)≤n∧(o,(a',b',c',(d',l',s',z',m'),x'))=mL n (a,b,c,(d,l,s,z,m),x) ((o.length+30) / 31)
   | _=>False) (fun | [.i n,_,_,_,_,_,_,_,_,_,.r o] =>(n-o.length).toNat | _=>0)])]}
 | _=> {cut:= [],loop:= []}
noncomputable def ap7:Ct:= {ps:= [Rt,i64],bs:=rW,pre:=fun | [.i n,.i a,.i b,.i c,.i d,.i l,.i s,.li z,.li m,.r x] =>0≤n∧n≤100000∧bh 900000000 (a,b,c,(d,l,s,z,m),x) | _=>False,res:=fun
 | [.i n,.i a,.i b,.i c,.i d,.i l,.i s,.li z,.li m,.r x] => .ret (.own 3) [Hn,fj,oe,ob] (dF (bG n (a,b,c,(d,l,s,z,m),x)).2++ [.r (bG n (a,b,c,(d,l,s,z,m),x)).1])
 | _=>ag}
noncomputable def alq:Ct:= {ps:= [Rt,i64],bs:=rW,pre:=fun | [.i n,.i a,.i b,.i c,.i d,.i l,.i s,.li z,.li m,.r x] =>bh 1000000000 (a,b,c,(d,l,s,z,m),x)∧n≤1000000 | _=>False,res:=fun
 | [.i n,.i a,.i b,.i c,.i d,.i l,.i s,.li z,.li m,.r x] => .ret (.tup [.own 3,i64]) [Hn,fj,oe,oe] (.i 0::dF (bF (a,b,c,(d,l,s,z,m),x) n.toNat)++ [.r (gO (a,b,c,(d,l,s,z,m),x) n.toNat)])
 | _=>ag}
end Go.Proofs.YteiecapbaeajdaaGreatDoor
namespace Go.Proofs.YteiecapbaeajdaaGreatDoor
open Go Go.Avc Go.Proofs
set_option linter.unusedVariables false
set_option maxRecDepth 100000
noncomputable section
def aiv:Prop:=
 ∀ (a b c d e f:Int) (g h:List Int) (i:LD),
 bh 1500000000 (a,b,c,(d,e,f,g,h),i)→
 (i.length=3∧ia i∧kB (d,e,f,g,h))∧
 iR (c+1)∧
 (0:Int)=0∧
 b=b∧
 c+1=c+1∧
 (1:Int)=1∧
 (0:Int)=0∧
 f=f∧
 eI=eI∧
 dJ=dJ∧
 iF i=iF i
def SE:ac:=ak S5 285 (aq anN)
abbrev fM (a b c d e f:Int)(g:LD)(h i:List Int):Prop:=
 bh 1000000000 (a,b,c,(d,e,f,h,i),g)
abbrev uy (a:Int)(b:LD):List Int:=
 [((b.getD a.toNat []).getD 0 (.int 0)).toInt,((b.getD a.toNat []).getD 1 (.int 0)).toInt,
 ((b.getD a.toNat []).getD 2 (.int 0)).toInt,((b.getD a.toNat []).getD 3 (.int 0)).toInt]
abbrev zP (a:Int)(b:LD):List CD:=
 [.int ((uy a b).getD 0 0),
 .int ((uy a b).getD 1 0),
 .int ((uy a b).getD 2 0),
 .int ((uy a b).getD 3 0)]
abbrev uF (a b:Int):Prop:=
 (a-(b+1)).toNat<(a-b).toNat
def ahr:Prop:=
 ∀ (a:LD) (b c d e f g:Int) (h i:List Int) (j:LD),
 lM a→
 fM b c d e f g j h i∧ia a∧a.length≤1000000→
 True∧
 (lM a→
 (((2:Int)=2∧
 a=a∧
 (↑a.length:Int)=(↑a.length:Int)∧
 (0:Int)≤0∧
 0≤(↑a.length:Int)∧(b,c,d,(e,f,g,h,i),j)=jO a (b,c,d,(e,f,g,h,i),j) 0)∧
 True)∧
 ∀ (k:Int) (m:LD) (o p q r s t u v:Int) (w x:List Int) (y:LD),
 lM m→
 k=2∧
 m=a∧
 o=(↑a.length:Int)∧
 0≤p∧p≤o∧(q,r,s,(t,u,v,w,x),y)=jO a (b,c,d,(e,f,g,h,i),j) p.toNat→
 bif decide (p<o) then
 bR p m∧
 p.toNat<m.length∧
 bif decide (q=k) then
 bh 1500000000 (q,r,s,(t,u,v,w,x),y)∧
 bR 0 (iF y)∧
 0<(iF y).length∧
 iR ((0:Int)+1)∧
 iR (p+1)∧
 (k=2∧
 m=a∧
 o=(↑a.length:Int)∧
 0≤p+1∧
 p+1≤o∧
 ((0:Int)+1,k,s+1,
 ((1:Int),0,v,eI,dJ),
 (iF y).set 0 (zP p m))=
 jO a (b,c,d,(e,f,g,h,i),j) (p+1).toNat)∧
 uF o p
 else
 bR q y∧
 q.toNat<y.length∧
 iR (q+1)∧
 iR (p+1)∧
 (k=2∧
 m=a∧
 o=(↑a.length:Int)∧
 0≤p+1∧
 p+1≤o∧
 (q+1,k,s,(t,u,v,w,x),y.set q.toNat (zP p m))=
 jO a (b,c,d,(e,f,g,h,i),j) (p+1).toNat)∧
 uF o p
 else
 q=(jO a (b,c,d,(e,f,g,h,i),j) a.length).fst∧
 r=(jO a (b,c,d,(e,f,g,h,i),j) a.length).snd.fst∧
 s=(jO a (b,c,d,(e,f,g,h,i),j) a.length).snd.snd.fst∧
 t=(jO a (b,c,d,(e,f,g,h,i),j) a.length).snd.snd.snd.fst.fst∧
 u=(jO a (b,c,d,(e,f,g,h,i),j) a.length).snd.snd.snd.fst.snd.fst∧
 v=(jO a (b,c,d,(e,f,g,h,i),j) a.length).snd.snd.snd.fst.snd.snd.fst∧
 w=(jO a (b,c,d,(e,f,g,h,i),j) a.length).snd.snd.snd.fst.snd.snd.snd.fst∧
 x=(jO a (b,c,d,(e,f,g,h,i),j) a.length).snd.snd.snd.fst.snd.snd.snd.snd∧
 y=(jO a (b,c,d,(e,f,g,h,i),j) a.length).snd.snd.snd.snd)
def Tg:ac:=ak SE 281 (aq aoj)
abbrev zp (a:LD):List Int:=
 [(((iF a).getD 0 []).getD 0 (.int 0)).toInt,
 (((iF a).getD 0 []).getD 1 (.int 0)).toInt,
 (((iF a).getD 0 []).getD 2 (.int 0)).toInt,
 (((iF a).getD 0 []).getD 3 (.int 0)).toInt]
abbrev yS (a b c d e f g:Int)(h:LD)(i j:List Int):Int:=
 (bF (a,b,c,(d,e,f,i,j),h) g.toNat).snd.snd.snd.fst.snd.fst
abbrev zy (a b c d e f g:Int)(h:LD)(i j:List Int):Int:=
 (bF (a,b,c,(d,e,f,i,j),h) g.toNat).snd.snd.snd.fst.snd.snd.fst
abbrev yG (a b c d e f g:Int)(h:LD)(i j:List Int):List Int:=
 (bF (a,b,c,(d,e,f,i,j),h) g.toNat).snd.snd.snd.fst.snd.snd.snd.fst
abbrev Af (a b c d e f g:Int)(h:LD)(i j:List Int):List Int:=
 (bF (a,b,c,(d,e,f,i,j),h) g.toNat).snd.snd.snd.fst.snd.snd.snd.snd
def ajj:Prop:=
 ∀ (a b c d e f g:Int) (h i:List Int) (j:LD),
 fM b c d e f g j h i∧a≤1000000→
 ((max a 0=max a 0∧
 (0:Int)≤0∧
 0≤max a 0∧
 (b,c,d,(e,f,g,h,i),j)=bF (b,c,d,(e,f,g,h,i),j) 0∧
 [] =gO (b,c,d,(e,f,g,h,i),j) 0)∧
 True)∧
 ∀ (k m o p q r s t:Int) (u v:List Int) (w x:LD),
 lM x→
 k=max a 0∧
 0≤m∧
 m≤k∧
 (o,p,q,(r,s,t,u,v),w)=bF (b,c,d,(e,f,g,h,i),j) m.toNat∧
 x=gO (b,c,d,(e,f,g,h,i),j) m.toNat→
 bif decide (m<k) then
 True∧
 bif decide (p=2) then
 bh 1500000000 (o,p,q,(r,s,t,u,v),w)∧
 bR 0 (iF w)∧
 0<(iF w).length∧
 aR (x.length+1) 32∧
 iR ((0:Int)+1)∧
 iR (m+1)∧
 (k=max a 0∧
 0≤m+1∧
 m+1≤k∧
 ((0:Int),0+1,q+1,
 ((1:Int),0,t,eI,dJ),
 iF w)=
 bF (b,c,d,(e,f,g,h,i),j) (m+1).toNat∧
 x++
 [[.int ((zp w).getD 0 0),
 .int ((zp w).getD 1 0),
 .int ((zp w).getD 2 0),
 .int ((zp w).getD 3 0)]] =
 gO (b,c,d,(e,f,g,h,i),j) (m+1).toNat)∧
 uF k m
 else
 bR p w∧
 p.toNat<w.length∧
 aR (x.length+1) 32∧
 iR (p+1)∧
 iR (m+1)∧
 (k=max a 0∧
 0≤m+1∧
 m+1≤k∧
 (o,p+1,q,(r,s,t,u,v),w)=bF (b,c,d,(e,f,g,h,i),j) (m+1).toNat∧
 x++ [zP p w] =
 gO (b,c,d,(e,f,g,h,i),j) (m+1).toNat)∧
 uF k m
 else
 o=(bF (b,c,d,(e,f,g,h,i),j) a.toNat).fst∧
 p=(bF (b,c,d,(e,f,g,h,i),j) a.toNat).snd.fst∧
 q=(bF (b,c,d,(e,f,g,h,i),j) a.toNat).snd.snd.fst∧
 r=(bF (b,c,d,(e,f,g,h,i),j) a.toNat).snd.snd.snd.fst.fst∧
 s=yS b c d e f g a j h i∧
 t=zy b c d e f g a j h i∧
 u=yG b c d e f g a j h i∧
 v=Af b c d e f g a j h i∧
 w=(bF (b,c,d,(e,f,g,h,i),j) a.toNat).snd.snd.snd.snd∧
 x=gO (b,c,d,(e,f,g,h,i),j) a.toNat
def So:ac:=ak Tg 284 (aq apV)
abbrev Ln:List CD:=
 [.int ([0,0,0,0].getD 0 0),.int ([0,0,0,0].getD 1 0),
 .int ([0,0,0,0].getD 2 0),.int ([0,0,0,0].getD 3 0)]
def agu:Prop:=
 ∀ (a b c d e f:Int) (g h:List Int) (i:LD),
 fM a b c d e f i g h→
 bh 1500000000 (a,b,c,(d,e,f,g,h),i)∧
 True∧
 ((0:Int)≤0∧
 (0:Int)≤2∧
 2≤(↑(iF i).length:Int)∧(0:Int)<(↑(iF i).length:Int))∧
 True∧
 0=(iW (a,b,c,(d,e,f,g,h),i)).fst∧
 2=(iW (a,b,c,(d,e,f,g,h),i)).snd.fst∧
 c+1=(iW (a,b,c,(d,e,f,g,h),i)).snd.snd.fst∧
 1=(iW (a,b,c,(d,e,f,g,h),i)).snd.snd.snd.fst.fst∧
 0=(iW (a,b,c,(d,e,f,g,h),i)).snd.snd.snd.fst.snd.fst∧
 f=(iW (a,b,c,(d,e,f,g,h),i)).snd.snd.snd.fst.snd.snd.fst∧
 eI=(iW (a,b,c,(d,e,f,g,h),i)).snd.snd.snd.fst.snd.snd.snd.fst∧
 dJ=(iW (a,b,c,(d,e,f,g,h),i)).snd.snd.snd.fst.snd.snd.snd.snd∧
 gj (iF i) 0 2
 [Ln,Ln] =
 (iW (a,b,c,(d,e,f,g,h),i)).snd.snd.snd.snd
def RU:ac:=ak So 283 (aq alL)
def ag3:Prop:=
 ∀ (a b c:Int) (d:LD) (e f g h i j:Int) (k m:List Int) (o:LD),
 lM d→
 bX d∧fM e f g h i j o k m→
 bX d∧
 (fM e f g h i j o k m∧
 ia (dn a b c d)∧
 (dn a b c d).length≤1000000)∧
 (jO (dn a b c d) (e,f,g,(h,i,j,k,m),o)
 (dn a b c d).length).fst=
 (bI a b c d (e,f,g,(h,i,j,k,m),o)).fst∧
 (jO (dn a b c d) (e,f,g,(h,i,j,k,m),o)
 (dn a b c d).length).snd.fst=
 (bI a b c d (e,f,g,(h,i,j,k,m),o)).snd.fst∧
 (jO (dn a b c d) (e,f,g,(h,i,j,k,m),o)
 (dn a b c d).length).snd.snd.fst=
 (bI a b c d (e,f,g,(h,i,j,k,m),o)).snd.snd.fst∧
 (jO (dn a b c d) (e,f,g,(h,i,j,k,m),o)
 (dn a b c d).length).snd.snd.snd.fst.fst=
 (bI a b c d (e,f,g,(h,i,j,k,m),o)).snd.snd.snd.fst.fst∧
 (jO (dn a b c d) (e,f,g,(h,i,j,k,m),o)
 (dn a b c d).length).snd.snd.snd.fst.snd.fst=
 (bI a b c d (e,f,g,(h,i,j,k,m),o)).snd.snd.snd.fst.snd.fst∧
 (jO (dn a b c d) (e,f,g,(h,i,j,k,m),o)
 (dn a b c d).length).snd.snd.snd.fst.snd.snd.fst=
 (bI a b c d (e,f,g,(h,i,j,k,m),o)).snd.snd.snd.fst.snd.snd.fst∧
 (jO (dn a b c d) (e,f,g,(h,i,j,k,m),o)
 (dn a b c d).length).snd.snd.snd.fst.snd.snd.snd.fst=
 (bI a b c d (e,f,g,(h,i,j,k,m),o)).snd.snd.snd.fst.snd.snd.snd.fst∧
 (jO (dn a b c d) (e,f,g,(h,i,j,k,m),o)
 (dn a b c d).length).snd.snd.snd.fst.snd.snd.snd.snd=
 (bI a b c d (e,f,g,(h,i,j,k,m),o)).snd.snd.snd.fst.snd.snd.snd.snd∧
 (jO (dn a b c d) (e,f,g,(h,i,j,k,m),o)
 (dn a b c d).length).snd.snd.snd.snd=
 (bI a b c d (e,f,g,(h,i,j,k,m),o)).snd.snd.snd.snd
def RI:ac:=ak RU 288 (aq apA)
abbrev vA (a b c d e f:Int)(g:LD)(h i:List Int):Int:=
 (bF (a,b,c,(d,e,f,h,i),g) 1).snd.snd.snd.fst.snd.fst
abbrev vg (a b c d e f:Int)(g:LD)(h i:List Int):Int:=
 (bF (a,b,c,(d,e,f,h,i),g) 1).snd.snd.snd.fst.snd.snd.fst
abbrev vN (a b c d e f:Int)(g:LD)(h i:List Int):List Int:=
 (bF (a,b,c,(d,e,f,h,i),g) 1).snd.snd.snd.fst.snd.snd.snd.fst
abbrev vn (a b c d e f:Int)(g:LD)(h i:List Int):List Int:=
 (bF (a,b,c,(d,e,f,h,i),g) 1).snd.snd.snd.fst.snd.snd.snd.snd
def aiN:Prop:=
 ∀ (a b c d e f:Int) (g h:List Int) (i:LD),
 fM a b c d e f i g h→
 (fM a b c d e f i g h∧(1:Int)≤1000000)∧
 bR 0 (gO (a,b,c,(d,e,f,g,h),i) 1)∧
 0<(gO (a,b,c,(d,e,f,g,h),i) 1).length∧
 [(((gO (a,b,c,(d,e,f,g,h),i) 1).getD 0 []).getD 0 (.int 0)).toInt,
 (((gO (a,b,c,(d,e,f,g,h),i) 1).getD 0 []).getD 1 (.int 0)).toInt,
 (((gO (a,b,c,(d,e,f,g,h),i) 1).getD 0 []).getD 2 (.int 0)).toInt,
 (((gO (a,b,c,(d,e,f,g,h),i) 1).getD 0 []).getD 3 (.int 0)).toInt] =
 kR (gO (a,b,c,(d,e,f,g,h),i) 1) 0∧
 (bF (a,b,c,(d,e,f,g,h),i) 1).fst=
 (bF (a,b,c,(d,e,f,g,h),i) 1).fst∧
 (bF (a,b,c,(d,e,f,g,h),i) 1).snd.fst=
 (bF (a,b,c,(d,e,f,g,h),i) 1).snd.fst∧
 (bF (a,b,c,(d,e,f,g,h),i) 1).snd.snd.fst=
 (bF (a,b,c,(d,e,f,g,h),i) 1).snd.snd.fst∧
 (bF (a,b,c,(d,e,f,g,h),i) 1).snd.snd.snd.fst.fst=
 (bF (a,b,c,(d,e,f,g,h),i) 1).snd.snd.snd.fst.fst∧
 vA a b c d e f i g h=vA a b c d e f i g h∧
 vg a b c d e f i g h=vg a b c d e f i g h∧
 vN a b c d e f i g h=vN a b c d e f i g h∧
 vn a b c d e f i g h=vn a b c d e f i g h∧
 (bF (a,b,c,(d,e,f,g,h),i) 1).snd.snd.snd.snd=
 (bF (a,b,c,(d,e,f,g,h),i) 1).snd.snd.snd.snd
def Q9:ac:=ak RI 290 (aq anx)
abbrev rH (a b c d e f g:Int)(h i:LD)(j k:List Int):LD:=
 List.map (fun m=> [.int m])
 (ar0 ((min 31 (a-↑h.length)).toNat-0)
 (ar1 0
 (kV
 (kR (gO (b,c,d,(e,f,g,j,k),i) 1) 0))))
abbrev uC (a b c d e f g:Int)(h:LD)(i j:List Int):Int:=
 (bG a (b,c,d,(e,f,g,i,j),h)).snd.snd.snd.snd.fst.snd.fst
abbrev wj (a b c d e f g:Int)(h:LD)(i j:List Int):Int:=
 (bG a (b,c,d,(e,f,g,i,j),h)).snd.snd.snd.snd.fst.snd.snd.fst
abbrev vK (a b c d e f g:Int)(h:LD)(i j:List Int):List Int:=
 (bG a (b,c,d,(e,f,g,i,j),h)).snd.snd.snd.snd.fst.snd.snd.snd.fst
abbrev vO (a b c d e f g:Int)(h:LD)(i j:List Int):List Int:=
 (bG a (b,c,d,(e,f,g,i,j),h)).snd.snd.snd.snd.fst.snd.snd.snd.snd
def ajm:Prop:=
 ∀ (a b c d e f g:Int) (h i:List Int) (j:LD),
 0≤a∧a≤100000∧bh 900000000 (b,c,d,(e,f,g,h,i),j)→
 ((a=a∧(↑(0:Nat):Int)≤a∧([],b,c,d,(e,f,g,h,i),j)=mL a (b,c,d,(e,f,g,h,i),j) 0)∧True)∧
 ∀ (k m o p q r s:Int) (t u:List Int) (v w:LD),
 lM w→
 k=a∧
 ↑w.length≤a∧
 (w,m,o,p,(q,r,s,t,u),v)=mL a (b,c,d,(e,f,g,h,i),j) ((w.length+30) / 31)→
 lM w→
 bif decide (↑w.length<k) then
 fM m o p q r s v t u∧
 af
 (kR (gO (m,o,p,(q,r,s,t,u),v) 1) 0)∧
 (lM w→
 iR (k-↑w.length)∧
 ((0:Int)≤0∧
 0≤min 31 (k-↑w.length)∧min 31 (k-↑w.length)≤(↑(32:Nat):Int)∧(0:Int)<(↑(32:Nat):Int))∧
 aR (w.length+(rH k m o p q r s w v t u).length) 1∧
 (k=a∧
 (↑(w++rH k m o p q r s w v t u).length:Int)≤a∧
 (w++rH k m o p q r s w v t u,
 (bF (m,o,p,(q,r,s,t,u),v) 1).fst,
 (bF (m,o,p,(q,r,s,t,u),v) 1).snd.fst,
 (bF (m,o,p,(q,r,s,t,u),v) 1).snd.snd.fst,
 ((bF (m,o,p,(q,r,s,t,u),v) 1).snd.snd.snd.fst.fst,
 vA m o p q r s v t u,vg m o p q r s v t u,
 vN m o p q r s v t u,vn m o p q r s v t u),
 (bF (m,o,p,(q,r,s,t,u),v) 1).snd.snd.snd.snd)=
 mL a (b,c,d,(e,f,g,h,i),j)
 (((w++rH k m o p q r s w v t u).length+30) / 31))∧
 (k-(↑(w++rH k m o p q r s w v t u).length:Int)).toNat<(k-↑w.length).toNat)
 else
 m=(bG a (b,c,d,(e,f,g,h,i),j)).snd.fst∧
 o=(bG a (b,c,d,(e,f,g,h,i),j)).snd.snd.fst∧
 p=(bG a (b,c,d,(e,f,g,h,i),j)).snd.snd.snd.fst∧
 q=(bG a (b,c,d,(e,f,g,h,i),j)).snd.snd.snd.snd.fst.fst∧
 r=uC a b c d e f g j h i∧
 s=wj a b c d e f g j h i∧
 t=vK a b c d e f g j h i∧
 u=vO a b c d e f g j h i∧
 v=(bG a (b,c,d,(e,f,g,h,i),j)).snd.snd.snd.snd.snd∧
 w=(bG a (b,c,d,(e,f,g,h,i),j)).fst
def SY:ac:=ak Q9 289 (aq anq)
def aiV:Prop:=
 ∀ (a b c d e f g:Int) (h i:List Int) (j:LD),
 0≤a∧a≤100000∧bh 900000000 (b,c,d,(e,f,g,h,i),j)→
 (0≤a∧a≤100000∧bh 900000000 (b,c,d,(e,f,g,h,i),j))∧
 (bG a (b,c,d,(e,f,g,h,i),j)).snd.fst=(bG a (b,c,d,(e,f,g,h,i),j)).snd.fst∧
 (bG a (b,c,d,(e,f,g,h,i),j)).snd.snd.fst=
 (bG a (b,c,d,(e,f,g,h,i),j)).snd.snd.fst∧
 (bG a (b,c,d,(e,f,g,h,i),j)).snd.snd.snd.fst=
 (bG a (b,c,d,(e,f,g,h,i),j)).snd.snd.snd.fst∧
 (bG a (b,c,d,(e,f,g,h,i),j)).snd.snd.snd.snd.fst.fst=
 (bG a (b,c,d,(e,f,g,h,i),j)).snd.snd.snd.snd.fst.fst∧
 uC a b c d e f g j h i=uC a b c d e f g j h i∧
 wj a b c d e f g j h i=wj a b c d e f g j h i∧
 vK a b c d e f g j h i=vK a b c d e f g j h i∧
 vO a b c d e f g j h i=vO a b c d e f g j h i∧
 (bG a (b,c,d,(e,f,g,h,i),j)).snd.snd.snd.snd.snd=
 (bG a (b,c,d,(e,f,g,h,i),j)).snd.snd.snd.snd.snd∧
 (bG a (b,c,d,(e,f,g,h,i),j)).fst=
 (bG a (b,c,d,(e,f,g,h,i),j)).fst
def QS:ac:=ak SY 286 (aq ap7)
def agW:Prop:=
 ∀ (a b c d e f g:Int) (h i:List Int) (j:LD),
 fM b c d e f g j h i∧a≤1000000→
 (fM b c d e f g j h i∧a≤1000000)∧
 (0:Int)=0∧
 (bF (b,c,d,(e,f,g,h,i),j) a.toNat).fst=(bF (b,c,d,(e,f,g,h,i),j) a.toNat).fst∧
 (bF (b,c,d,(e,f,g,h,i),j) a.toNat).snd.fst=
 (bF (b,c,d,(e,f,g,h,i),j) a.toNat).snd.fst∧
 (bF (b,c,d,(e,f,g,h,i),j) a.toNat).snd.snd.fst=
 (bF (b,c,d,(e,f,g,h,i),j) a.toNat).snd.snd.fst∧
 (bF (b,c,d,(e,f,g,h,i),j) a.toNat).snd.snd.snd.fst.fst=
 (bF (b,c,d,(e,f,g,h,i),j) a.toNat).snd.snd.snd.fst.fst∧
 yS b c d e f g a j h i=yS b c d e f g a j h i∧
 zy b c d e f g a j h i=zy b c d e f g a j h i∧
 yG b c d e f g a j h i=yG b c d e f g a j h i∧
 Af b c d e f g a j h i=Af b c d e f g a j h i∧
 (bF (b,c,d,(e,f,g,h,i),j) a.toNat).snd.snd.snd.snd=
 (bF (b,c,d,(e,f,g,h,i),j) a.toNat).snd.snd.snd.snd∧
 gO (b,c,d,(e,f,g,h,i),j) a.toNat=
 gO (b,c,d,(e,f,g,h,i),j) a.toNat
def Jm:ac:=ak QS 287 (aq alq)
end
end Go.Proofs.YteiecapbaeajdaaGreatDoor
namespace Go.Proofs.YteiecapbaeajdaaGreatDoor
open Go Go.Avc Go.Proofs Go.Gr
set_option linter.unusedVariables false
set_option linter.unusedSimpArgs false
set_option maxRecDepth 100000
theorem bc {m m':Int} (h:m≤m') {x:Sf} (k:bh m x):bh m' x:=⟨k.1,k.2.1,k.2.2.1,k.2.2.2.1,k.2.2.2.2.1,Int.le_trans k.2.2.2.2.2.1 h,k.2.2.2.2.2.2⟩
theorem Sd (q:BG):kB (RA q):= .inr ⟨rfl,rfl,rfl,rfl⟩
theorem Ka {l:LD} (h:ia l) (i:Nat):af (kR l i)∧(i<l.length→l.getD i [] =cF (kR l i)):=by
 by_cases hi:i<l.length
 ·have hg:l.getD i [] =l[i] :=by rw [ay,cH hi];rfl
  obtain ⟨w,h1,h2,h3⟩:=h _ (List.getElem_mem hi)
  have e:kR l i=w:=by
   unfold kR
   rw [hg,h3]
   exact XJ h1
  rw [e,hg]
  exact ⟨h2,fun _=>h3⟩
 ·have hg:l.getD i [] = [] :=by rw [ay,gd (by omega)];rfl
  refine ⟨?_,fun k=>absurd k hi⟩
  unfold kR
  rw [hg]
  exact yF
theorem acj {l:LD} (h:ia l) (i:Nat) {w:List Int} (h1:w.length=4) (h2:af w):ia (l.set i (cF w)):=fun r hr=>by
 rcases List.mem_or_eq_of_mem_set hr with hr | hr
 ·exact h r hr
 ·exact ⟨w,h1,h2,hr⟩
theorem NA {m:Int} {x:Sf} (h:bh m x):bh (m+1) (aeZ x):=by
 obtain ⟨h1,h2,h3,h4,h5,h6,h7,h8,h9⟩:=h
 exact ⟨Int.le_refl 0,by show (0:Int)≤2;decide,h3,h4,by show 0≤x.2.2.1+1;omega,by show x.2.2.1+1≤m+1;omega,Sd _,vu _,S2 h9⟩
theorem ajk {m:Int} {x:Sf} (h:bh m x):bh (m+1) (MF x)∧(MF x).1<2:=by
 unfold MF
 split
 ·exact ⟨NA h,by show (0:Int)<2;decide⟩
 ·have:=h.2.1
  exact ⟨bc (by omega) h,by omega⟩
theorem ahd {m:Int} {x:Sf} (h:bh m x) (h2:x.1<2) {w:List Int} (hl:w.length=4) (hw:af w):bh m (fb1 x (cF w)):=by
 obtain ⟨h1,_,h3,h4,h5,h6,h7,h8,h9⟩:=h
 exact ⟨by show 0≤x.1+1;omega,by show x.1+1≤2;omega,by show (0:Int)≤2;decide,by show (2:Int)≤2;decide,h5,h6,h7,by show (x.2.2.2.2.set _ _).length=3;rw [df];exact h8,acj h9 _ hl hw⟩
theorem Kp {m:Int} {x:Sf} (h:bh m x) {l:LD} (hl:ia l):∀ i:Nat,bh (m+i) (GV l x i)
 | 0=>bc (by omega) h
 | i+1=>by
  obtain ⟨h1,h2⟩:=ajk (Kp h hl i)
  exact bc (by omega) (ahd h1 h2 rfl (Ka hl i).1)
theorem QX {m:Int} {x:Sf} (h:bh m x):bh (m+1) (BP x)∧(BP x).2.1<2:=by
 unfold BP
 split
 ·obtain ⟨h1,h2,h3,h4,h5,h6,h7,h8,h9⟩:=NA h
  exact ⟨⟨h1,h2,Int.le_refl 0,by show (0:Int)≤2;decide,h5,h6,h7,h8,h9⟩,by show (0:Int)<2;decide⟩
 ·have:=h.2.2.2.1
  exact ⟨bc (by omega) h,by omega⟩
theorem ajp {m:Int} {x:Sf} (h:bh m x) (h2:x.2.1<2):bh m (fq1 x):=by
 obtain ⟨h1,h2',h3,h4,h5,h6,h7,h8,h9⟩:=h
 exact ⟨h1,h2',by show 0≤x.2.1+1;omega,by show x.2.1+1≤2;omega,h5,h6,h7,h8,h9⟩
theorem yQ {m:Int} {x:Sf} (h:bh m x):∀ i:Nat,bh (m+i) (G8 x i)
 | 0=>bc (by omega) h
 | i+1=>by
  obtain ⟨h1,h2⟩:=QX (yQ h i)
  exact bc (by omega) (ajp h1 h2)
theorem Gw (x:Sf):∀ i,(HG x i).length=i
 | 0=>rfl
 | i+1=>by rw [HG,ce,Gw x i];rfl
theorem SB {m:Int} {x:Sf} (h:bh m x):∀ i,ia (HG x i)
 | 0=>fun r hr=>by cases hr
 | i+1=>fun r hr=>by
  rcases List.mem_append.mp hr with hr | hr
  ·exact SB h i r hr
  ·rw [List.mem_singleton] at hr
   exact ⟨_,rfl,(Ka (QX (yQ h i)).1.2.2.2.2.2.2.2.2 _).1,hr⟩
theorem uR (l:LD) (x:Sf) (i:Nat):jO l x i=GV l x i:=al _
theorem rY (x:Sf) (i:Nat):bF x i=G8 x i:=al _
theorem qa (x:Sf) (i:Nat):gO x i=HG x i:=al _
theorem RV (k t n:Int) (d:LD) (x:Sf):bI k t n d x=GV (dn k t n d) x (dn k t n d).length:=al _
theorem Rf (x:Sf):iW x=(0,2,x.2.2.1+1,RA x.2.2.2.1,gj (iF x.2.2.2.2) 0 2 (ab0 2 [.int 0,.int 0,.int 0,.int 0])):=al _
theorem arv:aiv:=by
 delta aiv iR
 rintro a b c d l s z m x ⟨h1,h2,h3,h4,h5,h6,h7,h8,h9⟩
 have h5:0≤c:=h5
 have h6:c≤1500000000:=h6
 exact ⟨⟨h8,h9,h7⟩,⟨by omega,by omega⟩,rfl,rfl,rfl,rfl,rfl,rfl,rfl,rfl,rfl⟩
theorem Yu:(base.with SE).Ok:=ab YT (ai am YT Tryz.func285 (by kernel_rfl) Tryz.call285 (by kernel_rfl) arv)
theorem aqh:ahr:=by
 delta ahr lM iR bR fM uy zP uF
 rintro u a b c d l s z m x hu ⟨h,he,hl⟩
 refine ⟨trivial,fun _=>⟨⟨⟨rfl,rfl,rfl,by omega,by omega,(uR u (a,b,c,(d,l,s,z,m),x) 0).symm⟩,trivial⟩,?_⟩⟩
 generalize (a,b,c,(d,l,s,z,m),x)=X at *
 rintro q u' n i a' b' c' d' l' s' z' m' x' _ ⟨rfl,rfl,rfl,g0,g1,g2⟩
 obtain ⟨i,rfl⟩:=as6 g0
 have hk:=Kp h he i
 rw [aA,uR] at g2
 rw [← g2] at hk
 rw [aA]
 refine aa (fun e=> ?_) fun e=> ?_
 ·have e:=au e
  have hx3:x'.length=3:=hk.2.2.2.2.2.2.2.1
  have hp3:=vu x'
  have h1:0≤a':=hk.1
  have h2:a'≤2:=hk.2.1
  refine ⟨⟨g0,e⟩,by omega,aa (fun k=> ?_) fun k=> ?_⟩
  ·have k:=au k
   refine ⟨bc (by omega) hk,⟨by omega,by omega⟩,by omega,⟨by omega,by omega⟩,⟨by omega,by omega⟩,⟨rfl,rfl,rfl,by omega,by omega,?_⟩,by omega⟩
   rw [show ((i:Int)+1).toNat=i+1 by omega,uR,GV,← g2,MF,if_pos k]
   rfl
  ·have k:=aw k
   refine ⟨⟨by omega,by omega⟩,by omega,⟨by omega,by omega⟩,⟨by omega,by omega⟩,⟨rfl,rfl,rfl,by omega,by omega,?_⟩,by omega⟩
   rw [show ((i:Int)+1).toNat=i+1 by omega,uR,GV,← g2,MF,if_neg k]
   rfl
 ·have e:=aw e
  have hi:u'.length=i:=by omega
  rw [hi,uR,← g2]
  exact ⟨rfl,rfl,rfl,rfl,rfl,rfl,rfl,rfl,rfl⟩
theorem YI:(base.with Tg).Ok:=ab Yu (ai ajG Yu Tryz.func281 (by kernel_rfl) Tryz.call281 (by kernel_rfl) aqh)
theorem amb:ajj:=by
 delta ajj lM iR aR bR fM uy zP uF zp yS zy yG Af
 rintro n a b c d l s z m x ⟨h,hn⟩
 refine ⟨⟨⟨rfl,by omega,by omega,(rY (a,b,c,(d,l,s,z,m),x) 0).symm,(qa (a,b,c,(d,l,s,z,m),x) 0).symm⟩,trivial⟩,?_⟩
 generalize (a,b,c,(d,l,s,z,m),x)=X at *
 rintro q i a' b' c' d' l' s' z' m' x' o _ ⟨rfl,g0,g1,g2,rfl⟩
 obtain ⟨i,rfl⟩:=as6 g0
 have hk:=yQ h i
 rw [aA,rY] at g2
 rw [← g2] at hk
 have ho:(gO X i).length=i:=by rw [qa,Gw]
 rw [aA]
 refine aa (fun e=> ?_) fun e=> ?_
 ·have e:=au e
  have hx3:x'.length=3:=hk.2.2.2.2.2.2.2.1
  have hp3:=vu x'
  have h1:0≤b':=hk.2.2.1
  have h2:b'≤2:=hk.2.2.2.1
  refine ⟨trivial,aa (fun k=> ?_) fun k=> ?_⟩
  ·have k:=au k
   refine ⟨bc (by omega) hk,⟨by omega,by omega⟩,by omega,⟨by omega,by omega⟩,⟨by omega,by omega⟩,⟨by omega,by omega⟩,⟨rfl,by omega,by omega,?_,?_⟩,by omega⟩
   ·rw [show ((i:Int)+1).toNat=i+1 by omega,rY,G8,← g2,BP,if_pos k]
    rfl
   ·rw [show ((i:Int)+1).toNat=i+1 by omega,qa,qa,HG,← g2,BP,if_pos k]
    rfl
  ·have k:=aw k
   refine ⟨⟨by omega,by omega⟩,by omega,⟨by omega,by omega⟩,⟨by omega,by omega⟩,⟨by omega,by omega⟩,⟨rfl,by omega,by omega,?_,?_⟩,by omega⟩
   ·rw [show ((i:Int)+1).toNat=i+1 by omega,rY,G8,← g2,BP,if_neg k]
    rfl
   ·rw [show ((i:Int)+1).toNat=i+1 by omega,qa,qa,HG,← g2,BP,if_neg k]
    rfl
 ·have e:=aw e
  have hi:n.toNat=i:=by omega
  rw [hi,rY,← g2]
  exact ⟨rfl,rfl,rfl,rfl,rfl,rfl,rfl,rfl,rfl,rfl⟩
theorem XN:(base.with So).Ok:=ab YI (ai ab3 YI Tryz.func284 (by kernel_rfl) Tryz.call284 (by kernel_rfl) amb)
theorem al2:agu:=by
 delta agu fM Ln
 rintro a b c d l s z m x h
 have hp:=vu x
 rw [Rf]
 exact ⟨bc (by decide) h,trivial,⟨by omega,by omega,by omega,by omega⟩,trivial,rfl,rfl,rfl,rfl,rfl,rfl,rfl,rfl,rfl⟩
theorem WE:(base.with RU).Ok:=ab XN (ai am XN Tryz.func283 (by kernel_rfl) Tryz.call283 (by kernel_rfl) al2)
theorem acW (k t n:Int):af [Le k t n,0,0,0] :=pD fun x hx=>by
 simp only [List.mem_cons,List.not_mem_nil,or_false] at hx
 rcases hx with rfl | rfl | rfl | rfl
 ·exact zE _ _
 all_goals exact ⟨by decide,by decide⟩
theorem DW (l:LD):af (jp l)∧(jp l).length=4:=by
 unfold jp
 rw [al,as8]
 exact ⟨wI (QV (Mq Ps).2 4),Aw _⟩
theorem Oe (k t n:Int) (l:LD):ia (dn k t n l):=by
 unfold dn
 split
 ·intro r hr
  rcases List.mem_cons.mp hr with rfl | hr
  ·exact ⟨_,Aw _,wI (acW k t n),rfl⟩
  ·obtain ⟨q,_,rfl⟩:=List.mem_map.mp hr
   exact ⟨_,(DW _).2,(DW _).1,rfl⟩
 ·intro r hr
  cases hr
theorem aqg:ag3:=by
 delta ag3 lM fM
 rintro k t n l a b c d l1 s z m x _ ⟨hb,h⟩
 have hl:=Lk k t n l
 have hb2:=hb.2
 rw [RV,uR]
 exact ⟨hb,⟨h,Oe k t n l,by omega⟩,rfl,rfl,rfl,rfl,rfl,rfl,rfl,rfl,rfl⟩
theorem VS:(base.with RI).Ok:=ab WE (ai am WE Tryz.func288 (by kernel_rfl) Tryz.call288 (by kernel_rfl) aqg)
theorem aqn:aiN:=by
 delta aiN bR fM vA vg vN vn
 rintro a b c d l s z m x h
 have ho:(gO (a,b,c,(d,l,s,z,m),x) 1).length=1:=by rw [qa,Gw]
 exact ⟨⟨h,by decide⟩,⟨by omega,by omega⟩,by omega,rfl,rfl,rfl,rfl,rfl,rfl,rfl,rfl,rfl,rfl⟩
theorem YY:(base.with Q9).Ok:=ab VS (ai am VS Tryz.func290 (by kernel_rfl) Tryz.call290 (by kernel_rfl) aqn)
theorem GC {m:Int} (n:Int) {x:Sf} (h:bh m x) (hn:0≤n):∀ k:Nat,bh (m+k) (mL n x k).2∧((mL n x k).1.length:Int)=min (31*(k:Int)) n
 | 0=>⟨bc (by omega) h,by show ((0:Nat):Int)=_;omega⟩
 | k+1=>by
  obtain ⟨h1,h2⟩:=GC n h hn k
  rw [mL]
  refine ⟨?_,?_⟩
  ·show bh _ (bF _ 1)
   rw [rY]
   exact bc (by omega) (yQ h1 1)
  ·rw [ce,ajw,bp,AT]
   omega
theorem Z8 (b:List Int) (k:Nat):(b.take k).map (fun x=> [CD.int x])=(b.map ae).take k:=by
 rw [← List.map_take]
 rfl
theorem anW:ajm:=by
 delta ajm lM iR aR fM vA vg vN vn rH uC wj vK vO
 rintro n a b c d l s z m x ⟨h0,h1,h⟩
 refine ⟨⟨⟨rfl,by omega,rfl⟩,trivial⟩,?_⟩
 generalize hX:(a,b,c,(d,l,s,z,m),x)=X at *
 rintro n' a' b' c' d' l' s' z' m' x' o _ ⟨rfl,g1,g2⟩ _
 generalize hk:(o.length+30) / 31=k at g2
 obtain ⟨f1,f2⟩:=GC n' h h0 k
 rw [← g2] at f1 f2
 have f1:bh (900000000+(k:Int)) (a',b',c',(d',l',s',z',m'),x'):=f1
 have f2:(o.length:Int)=min (31*(k:Int)) n':=f2
 generalize hX2:(a',b',c',(d',l',s',z',m'),x')=X' at *
 have hes:ia (gO X' 1):=by rw [qa];exact SB f1 1
 refine aa (fun e=> ?_) fun e=> ?_
 ·have e:=au e
  rw [as8,Nat.sub_zero,Z8]
  have hlen:(o++((kV (kR (gO X' 1) 0)).map ae).take (min 31 (n'-(o.length:Int))).toNat).length=o.length+(min 31 (n'-(o.length:Int))).toNat:=by
   rw [ce,ajw,bp,AT]
   omega
  have hlen2:(((kV (kR (gO X' 1) 0)).map ae).take (min 31 (n'-(o.length:Int))).toNat).length=(min 31 (n'-(o.length:Int))).toNat:=by
   rw [ajw,bp,AT]
   omega
  refine ⟨bc (by omega) f1,(Ka hes 0).1,fun _=>⟨⟨by omega,by omega⟩,⟨by omega,by omega,by omega,by omega⟩,⟨by omega,by omega⟩,⟨rfl,by omega,?_⟩,by omega⟩⟩
  rw [show ((o++((kV (kR (gO X' 1) 0)).map ae).take (min 31 (n'-(o.length:Int))).toNat).length+30) / 31=k+1 by omega,mL,← g2]
 ·have e:=aw e
  have hke:(n'.toNat+30) / 31=k:=by omega
  have hf:bG n' X=mL n' X ((n'.toNat+30) / 31):=al _
  rw [hf,hke,← g2,← hX2]
  exact ⟨rfl,rfl,rfl,rfl,rfl,rfl,rfl,rfl,rfl,rfl⟩
theorem Yh:(base.with SY).Ok:=ab YY (ai ale YY Tryz.func289 (by kernel_rfl) Tryz.call289 (by kernel_rfl) anW)
theorem anF:aiV:=by
 delta aiV uC wj vK vO
 exact fun n a b c d l s z m x h=>⟨h,rfl,rfl,rfl,rfl,rfl,rfl,rfl,rfl,rfl,rfl⟩
theorem XC:(base.with QS).Ok:=ab Yh (ai am Yh Tryz.func286 (by kernel_rfl) Tryz.call286 (by kernel_rfl) anF)
theorem am2:agW:=by
 delta agW fM yS zy yG Af
 exact fun n a b c d l s z m x h=>⟨h,rfl,rfl,rfl,rfl,rfl,rfl,rfl,rfl,rfl,rfl,rfl⟩
theorem HT:(base.with Jm).Ok:=ab XC (ai am XC Tryz.func287 (by kernel_rfl) Tryz.call287 (by kernel_rfl) am2)
end Go.Proofs.YteiecapbaeajdaaGreatDoor
namespace Go.Proofs.YteiecapbaeajdaaGreatDoor
open Go Go.Avc Go.Gr
set_option linter.unusedVariables false
abbrev gAf:BPat:= .cells 185 [.rd eg,i64,.ptr 5 0]
abbrev ss:List BPat:= [Wn,gA,WG,fj,oe]
abbrev nd:List BPat:= [Wn,gAf,WG,fj,oe,eB]
def VM (tg:List Int) (it:LD) (p:Int) (x:Sf):List Dat:= .li tg:: .r it:: .i p::dF x
def dFX (tg:List Int) (it:LD) (p:Int) (x:Sf) (w:Int):List Dat:=VM tg it p x++ [.i w]
abbrev Tf:=Int×LD×Int×Sf×Int
noncomputable def dK (it:LD) (t:Int) (d:LD) (p:Int) (x:Sf):Tf:=hid <|
 if a9 t d≠0 then (a9 t d,[],p,x,a9 t d) else if cm it p 1 t (aX t d)=false then (10,[],p,x,10) else if cG t d≠0 then (cG t d,[],p+1,x,cG t d) else (0,[],p+1,bI 1 t (aX t d) d x,0)
noncomputable def fB (it:LD) (n p:Int) (x:Sf):Tf:=hid <|
 if cm it p 2 1 n=false then (10,[],p,x,10) else (0,(bG n (bI 2 1 n [] x)).1,p+1,(bG n (bI 2 1 n [] x)).2,0)
noncomputable def dD (it:LD) (n p:Int) (x:Sf):Tf:=hid <|
 if cm it p 2 3 n=false then (10,[],p,x,10) else (0,gO (bI 2 3 n [] x) n.toNat,p+1,bF (bI 2 3 n [] x) n.toNat,0)
noncomputable def gL (it:LD) (p:Int) (x:Sf):Tf:=hid <|
 if cm it p 3 0 1=false then (10,[],p,x,10) else (0,[],p+1,iW (bI 3 0 1 [] x),0)
noncomputable def fFi (it:LD) (p:Int) (x:Sf):Tf:=hid <| if p=it.length then (0,[],p,x,0) else (12,[],p,x,12)
noncomputable def aev (tg:List Int) (it:LD) (r:Tf):Res:= .ite (decide (r.2.2.2.2=0)) (.ret i64 ss (.i r.1::VM tg it r.2.2.1 r.2.2.2.1)) (.ret i64 nd (.i r.1::dFX tg it r.2.2.1 r.2.2.2.1 r.2.2.2.2))
noncomputable def alb (o:BPat) (tg:List Int) (it:LD) (r:Tf):Res:= .ite (decide (r.2.2.2.2=0)) (.ret (.tup [.own 5,i64]) [Wn,gA,WG,fj,oe,o] (.i r.1::VM tg it r.2.2.1 r.2.2.2.1++ [.r r.2.1])) (.ret (.tup [.nils,i64]) nd (.i r.1::dFX tg it r.2.2.1 r.2.2.2.1 r.2.2.2.2))
def mM (it:LD) (p:Int) (x:Sf):Prop:=az it p∧bh 700000000 x
def akN:Ct:= {ps:= [.ptr 0 0],bs:=ss,pre:=fun _=>True,res:=fun
 | [.li tg,.r it,.i p,.i a,.i b,.i c,.i d,.i l,.i s,.li z,.li m,.r x] => .ret i64 ss [.i 0,.li tg,.r it,.i p,.i a,.i b,.i c,.i d,.i l,.i s,.li z,.li m,.r x]
 | _=>ag}
def afI:Ct:= {ps:= [.ptr 0 0],bs:=nd,pre:=fun _=>True,res:=fun
 | [.li tg,.r it,.i p,.i a,.i b,.i c,.i d,.i l,.i s,.li z,.li m,.r x,.i w] => .ret i64 nd [.i w,.li tg,.r it,.i p,.i a,.i b,.i c,.i d,.i l,.i s,.li z,.li m,.r x,.i w]
 | _=>ag}
def akP:Ct:= {ps:= [.ptr 0 0,qS],bs:=ss,pre:=fun | [.i _,.i _,.i _,.r _,.li _,.r it,.i p,.i a,.i b,.i c,.i d,.i l,.i s,.li z,.li m,.r x] =>az it p | _=>False,res:=fun
 | [.i k,.i t,.i n,.r _,.li tg,.r it,.i p,.i a,.i b,.i c,.i d,.i l,.i s,.li z,.li m,.r x] => .ite (cm it p k t n) (.ret i64 ss [.i 0,.li tg,.r it,.i (p+1),.i a,.i b,.i c,.i d,.i l,.i s,.li z,.li m,.r x]) (.ret i64 nd [.i 10,.li tg,.r it,.i p,.i a,.i b,.i c,.i d,.i l,.i s,.li z,.li m,.r x,.i 10])
 | _=>ag}
def ad0:Ct:= {ps:= [.ptr 0 0,qS],bs:=nd,pre:=fun | [.i _,.i _,.i _,.r _,.li _,.r it,.i p,.i a,.i b,.i c,.i d,.i l,.i s,.li z,.li m,.r x,.i w] =>az it p∧w≠0 | _=>False,res:=fun
 | [.i k,.i t,.i n,.r _,.li tg,.r it,.i p,.i a,.i b,.i c,.i d,.i l,.i s,.li z,.li m,.r x,.i w] => .ret i64 nd [.i w,.li tg,.r it,.i p,.i a,.i b,.i c,.i d,.i l,.i s,.li z,.li m,.r x,.i w]
 | _=>ag}
def abC:Ct:= {ps:= [.ptr 0 0],bs:=ss,pre:=fun _=>True,res:=fun
 | [.li tg,.r it,.i p,.i a,.i b,.i c,.i d,.i l,.i s,.li z,.li m,.r x] => .ite (decide (p=it.length)) (.ret i64 ss [.i 0,.li tg,.r it,.i p,.i a,.i b,.i c,.i d,.i l,.i s,.li z,.li m,.r x]) (.ret i64 nd [.i 12,.li tg,.r it,.i p,.i a,.i b,.i c,.i d,.i l,.i s,.li z,.li m,.r x,.i 12])
 | _=>ag}
def ah4:Ct:= {ps:= [.ptr 0 0],bs:=nd,pre:=fun _=>True,res:=fun
 | [.li tg,.r it,.i p,.i a,.i b,.i c,.i d,.i l,.i s,.li z,.li m,.r x,.i w] => .ret i64 nd [.i w,.li tg,.r it,.i p,.i a,.i b,.i c,.i d,.i l,.i s,.li z,.li m,.r x,.i w]
 | _=>ag}
noncomputable def aek:Ct:= {ps:= [.ptr 0 0,i64,rb],bs:=ss,pre:=fun | [.i _,.r d0,.li _,.r it,.i p,.i a,.i b,.i c,.i d,.i l,.i s,.li z,.li m,.r x] =>bX d0∧mM it p (a,b,c,(d,l,s,z,m),x) | _=>False,res:=fun
 | [.i t,.r d0,.li tg,.r it,.i p,.i a,.i b,.i c,.i d,.i l,.i s,.li z,.li m,.r x] =>aev tg it (dK it t d0 p (a,b,c,(d,l,s,z,m),x))
 | _=>ag}
def aei:Ct:= {ps:= [.ptr 0 0,i64,rb],bs:=nd,pre:=fun | [.i _,.r _,.li _,.r _,.i _,.i a,.i b,.i c,.i d,.i l,.i s,.li z,.li m,.r x,.i w] =>w≠0 | _=>False,res:=fun
 | [.i _,.r _,.li tg,.r it,.i p,.i a,.i b,.i c,.i d,.i l,.i s,.li z,.li m,.r x,.i w] => .ret i64 nd [.i w,.li tg,.r it,.i p,.i a,.i b,.i c,.i d,.i l,.i s,.li z,.li m,.r x,.i w]
 | _=>ag}
noncomputable def akm:Ct:= {ps:= [.ptr 0 0,i64],bs:=ss,pre:=fun | [.i n,.li _,.r it,.i p,.i a,.i b,.i c,.i d,.i l,.i s,.li z,.li m,.r x] =>0≤n∧n≤1000∧mM it p (a,b,c,(d,l,s,z,m),x) | _=>False,res:=fun
 | [.i n,.li tg,.r it,.i p,.i a,.i b,.i c,.i d,.i l,.i s,.li z,.li m,.r x] =>alb ob tg it (fB it n p (a,b,c,(d,l,s,z,m),x))
 | _=>ag}
def ST:Ct:= {ps:= [.ptr 0 0,i64],bs:=nd,pre:=fun | [.i _,.li _,.r it,.i p,.i a,.i b,.i c,.i d,.i l,.i s,.li z,.li m,.r x,.i w] =>az it p∧w≠0 | _=>False,res:=fun
 | [.i _,.li tg,.r it,.i p,.i a,.i b,.i c,.i d,.i l,.i s,.li z,.li m,.r x,.i w] => .ret (.tup [.nils,i64]) nd [.i w,.li tg,.r it,.i p,.i a,.i b,.i c,.i d,.i l,.i s,.li z,.li m,.r x,.i w]
 | _=>ag}
noncomputable def aiX:Ct:= {ps:= [.ptr 0 0,i64],bs:=ss,pre:=fun | [.i n,.li _,.r it,.i p,.i a,.i b,.i c,.i d,.i l,.i s,.li z,.li m,.r x] =>0≤n∧n≤1000∧mM it p (a,b,c,(d,l,s,z,m),x) | _=>False,res:=fun
 | [.i n,.li tg,.r it,.i p,.i a,.i b,.i c,.i d,.i l,.i s,.li z,.li m,.r x] =>alb oe tg it (dD it n p (a,b,c,(d,l,s,z,m),x))
 | _=>ag}
def akr:Ct:=ST
noncomputable def adp:Ct:= {ps:= [.ptr 0 0],bs:=ss,pre:=fun | [.li _,.r it,.i p,.i a,.i b,.i c,.i d,.i l,.i s,.li z,.li m,.r x] =>mM it p (a,b,c,(d,l,s,z,m),x) | _=>False,res:=fun
 | [.li tg,.r it,.i p,.i a,.i b,.i c,.i d,.i l,.i s,.li z,.li m,.r x] =>aev tg it (gL it p (a,b,c,(d,l,s,z,m),x))
 | _=>ag}
def ad7:Ct:= {ps:= [.ptr 0 0],bs:=nd,pre:=fun | [.li _,.r it,.i p,.i a,.i b,.i c,.i d,.i l,.i s,.li z,.li m,.r x,.i w] =>az it p∧w≠0 | _=>False,res:=fun
 | [.li tg,.r it,.i p,.i a,.i b,.i c,.i d,.i l,.i s,.li z,.li m,.r x,.i w] => .ret i64 nd [.i w,.li tg,.r it,.i p,.i a,.i b,.i c,.i d,.i l,.i s,.li z,.li m,.r x,.i w]
 | _=>ag}
noncomputable def fC (it:LD) (k t n:Int) (d:LD) (p:Int) (x:Sf):Tf:=hid <|
 if k=0 then dK it t d p x else if k=1 then fB it n p x else if k=2 then ((dD it n p x).1,II (dD it n p x).2.1,(dD it n p x).2.2) else if k=3 then gL it p x else fFi it p x
def aV (k t:Int):Int:=if k=1 then 0 else if k=2∧t=1 then 1 else if k=2 then 2 else 3
abbrev FF:Pat:= .tup [i64,.skip,.skip]
noncomputable def avi (tg:List Int) (it:LD) (r:Tr):Res:= .ite (decide (r.2.2.2.2=0)) (.ret FF me (.i r.1::dA tg it r.2.2.1 r.2.2.2.1)) (.ret FF np (.i r.1::dX tg it r.2.2.1 r.2.2.2.1 r.2.2.2.2))
noncomputable def avp (tg:List Int) (it:LD) (r:Tf):Res:= .ite (decide (r.2.2.2.2=0)) (.ret FF ss (.i r.1::VM tg it r.2.2.1 r.2.2.2.1)) (.ret FF nd (.i r.1::dFX tg it r.2.2.1 r.2.2.2.1 r.2.2.2.2))
def Fp (k n:Int):Prop:=k=2→0≤n∧n≤1000
noncomputable def ain:Ct:= {ps:= [.ptr 0 0,qS],bs:=me,pre:=fun | [.i k,.i t,.i n,.r d,.li _,.r it,.i p,.i a,.i b,.i c,.r s] =>bX d∧Fp k n∧mN it p (a,b,c,s) | _=>False,res:=fun
 | [.i k,.i t,.i n,.r d,.li tg,.r it,.i p,.i a,.i b,.i c,.r s] =>avi tg it (c5 it (aV k t) t n d p (a,b,c,s))
 | _=>ag}
noncomputable def agi:Ct:= {ps:= [.ptr 0 0,qS],bs:=np,pre:=fun | [.i k,.i t,.i n,.r d,.li _,.r it,.i p,.i _,.i _,.i _,.r _,.i w] =>az it p∧w≠0 | _=>False,res:=fun
 | [.i k,.i t,.i n,.r d,.li tg,.r it,.i p,.i a,.i b,.i c,.r s,.i w] => .ret FF np [.i w,.li tg,.r it,.i p,.i a,.i b,.i c,.r s,.i w]
 | _=>ag}
noncomputable def ajs:Ct:= {ps:= [.ptr 0 0,qS],bs:=ss,pre:=fun | [.i k,.i t,.i n,.r d0,.li _,.r it,.i p,.i a,.i b,.i c,.i d,.i l,.i s,.li z,.li m,.r x] =>bX d0∧Fp k n∧mM it p (a,b,c,(d,l,s,z,m),x) | _=>False,res:=fun
 | [.i k,.i t,.i n,.r d0,.li tg,.r it,.i p,.i a,.i b,.i c,.i d,.i l,.i s,.li z,.li m,.r x] =>avp tg it (fC it (aV k t) t n d0 p (a,b,c,(d,l,s,z,m),x))
 | _=>ag}
noncomputable def ahu:Ct:= {ps:= [.ptr 0 0,qS],bs:=nd,pre:=fun | [.i k,.i t,.i n,.r _,.li _,.r it,.i p,.i a,.i b,.i c,.i d,.i l,.i s,.li z,.li m,.r x,.i w] =>az it p∧w≠0 | _=>False,res:=fun
 | [.i k,.i t,.i n,.r _,.li tg,.r it,.i p,.i a,.i b,.i c,.i d,.i l,.i s,.li z,.li m,.r x,.i w] => .ret FF nd [.i w,.li tg,.r it,.i p,.i a,.i b,.i c,.i d,.i l,.i s,.li z,.li m,.r x,.i w]
 | _=>ag}
end Go.Proofs.YteiecapbaeajdaaGreatDoor
