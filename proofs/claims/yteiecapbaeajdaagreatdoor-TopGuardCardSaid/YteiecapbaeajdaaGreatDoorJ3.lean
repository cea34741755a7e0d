/-
 AVC, part P: an operation of a region whose order isn't given, done whenever it may be.
-/
import Derived.Test.YteiecapbaeajdaaGreatDoorJ2
import Derived.Laws.Sem
open Nat renaming zero_add→aeE,le_refl→ar5,lt_trichotomy→atE,lt_or_ge→atI,le_of_not_lt→atL,zero_le→asq,le_of_lt→atM,strongRecOn→at3,beq→asM,blt→awj,ble_eq→awk,ble→asN
open List renaming mem_append_left→atC,getElem?_append_left→aeU,getElem?_append_right→ae5,getElem?_cons_zero→adx,take_add_one→atF,range→asg,getElem?_range→atG,mem_cons→atH,all_eq_true→atJ,mem_range→atu,getElem?_eq_some_iff→adW,any_eq_true→atN,replicate→ab0,append_nil→aiz
open Bool renaming false_eq_true→aiI,or_eq_true→as9,or_eq_false_iff→ate,not_eq_true'→atf
open Option renaming getD_some→atD
open Option.some renaming injEq→ada
open Array renaming getElem?_eq_some_iff→asu,getElem?_eq_getElem→atK
namespace Go.Avc
set_option linter.unusedVariables false
set_option linter.unusedSimpArgs false
section
variable {C:Ctx} {E B:Ent}
theorem Mem.congr {hp hp':List Blk} {Im:Nat→Prop} {ι:Nat→Option Value} {w:World} (m:Mem C E hp Im ι w) (h:∀ b,hp'.getD b .none=hp.getD b .none):Mem C E hp' Im ι w:=
 ⟨fun b v hb=>by rw [h];exact m.hv b v hb,⟨m.mr.imlt,fun b v r h1=>m.mr.imm b v r (by rwa [h] at h1),fun b b' v v' r h1 h2=>m.mr.sep b b' v v' r (by rwa [h] at h1) (by rwa [h] at h2),fun b v r h1=>m.mr.mine b v r (by rwa [h] at h1)⟩,m.since,m.glob⟩
theorem BM {all:Array Oper} {o:Oper} {s:AS} {tmS:List SV} {hpS:List Blk} {p q:Prop} (hl:∀ t,t∈o.looksAt all→aH tmS t=aH s.tm t) (h:dz all o s p q):dz all o ⟨tmS,hpS⟩ p q:=by
 unfold dz at h ⊢
 split at h
 ·exact h
 ·rename_i j want hg
  cases hd:(all[j]?).bind (·.dst) with
  | none=>rw [hd] at h;simpa using h
  | some d=>
   rw [hd] at h
   simp only
   rw [hl d (by unfold Oper.looksAt;rw [hg];simp [hd])]
   exact h
theorem L6 {all:Array Oper} {o:Oper} {s:AS} {p q:Prop} (h:dz all o s p q):(dz all o s True False∧p)∨(dz all o s False True∧q):=by
 unfold dz at h ⊢
 split at h
 ·exact .inl ⟨trivial,h⟩
 ·rename_i j want hg
  cases hd:(all[j]?).bind (·.dst) with
  | none=>rw [hd] at h;exact .inr ⟨trivial,h⟩
  | some d=>
   rw [hd] at h
   simp only at h ⊢
   split at h
   ·rename_i b hb
    by_cases hbw:b=want
    ·exact .inl ⟨⟨fun _=>trivial,fun h'=>(h' hbw).elim⟩,h.1 hbw⟩
    ·exact .inr ⟨⟨fun h'=>(hbw h').elim,fun _=>trivial⟩,h.2 hbw⟩
   ·exact .inr ⟨trivial,h⟩
   ·exact h.elim
structure Sched (C:Ctx) (all:Array Oper) (o:Oper) (s:AS) (A:List Nat) (E:Ent) (tmS:List SV) (hpS:List Blk) (Im:Nat→Prop) (ι:Nat→Option Value) (a:Act) (w:World):Prop where
 rel:Rel C E ⟨tmS,hpS⟩ Im ι a w
 len:tmS.length=s.tm.length
 tm:∀ t,t∈o.looksAt all→aH tmS t=aH s.tm t
 hp:∀ b,A.contains b=true→hpS.getD b .none=s.hp.getD b .none
structure EffOk (C:Ctx) (all:Array Oper) (o:Oper) (s:AS) (e:Eff):Prop where
 dst:e.dst=o.dst
 base:e.base=s.hp.length
 keys:∀ b,cR e.upd b≠none→b<e.base
 does:∀ E Im ι w a tmS hpS,Sched C all o s e.acc E tmS hpS Im ι a w→(∀ b,e.base≤b→b<e.base+e.news.length→ι b=none)→
  ∀ hpF,(∀ b,hpF.getD b .none=(e.hpW b).getD (hpS.getD b .none))→∀ (next:Act→World→Prop) (Q:Exit→Act→World→Prop),
   (∀ a' w' Im' ι',Rel C E ((⟨tmS,hpF⟩:AS).put e.dst e.sv) Im' ι' a' w'→(∀ b,¬ (e.base≤b∧b<e.base+e.news.length)→ι' b=ι b)→Later Im ι w Im' ι' w'→next a' w')→
   (Region.wanted o (yielded all a.tmps)=true∧o.wp C.P a w next Q)∨(Region.wanted o (yielded all a.tmps)=false∧next (a.put o.dst undef) w)
theorem dC {all:Array Oper} {o:Oper} {s:AS} {A:List Nat} (h:dz all o s True False) {tmS:List SV} {hpS:List Blk} {Im:Nat→Prop} {ι:Nat→Option Value} {a:Act} {w:World} (hs:Sched C all o s A E tmS hpS Im ι a w):
  Region.wanted o (yielded all a.tmps)=true:=by
 rcases sX (s:=⟨tmS,hpS⟩) hs.rel.tm (BM hs.tm h) with ⟨h1,_⟩ | ⟨_,h2⟩
 ·exact h1
 ·exact h2.elim
theorem FU {all:Array Oper} {o:Oper} {s:AS} {A:List Nat} (h:dz all o s False True) {tmS:List SV} {hpS:List Blk} {Im:Nat→Prop} {ι:Nat→Option Value} {a:Act} {w:World} (hs:Sched C all o s A E tmS hpS Im ι a w):
  Region.wanted o (yielded all a.tmps)=false:=by
 rcases sX (s:=⟨tmS,hpS⟩) hs.rel.tm (BM hs.tm h) with ⟨_,h2⟩ | ⟨h1,_⟩
 ·exact h2.elim
 ·exact h1
theorem Bx (d:Option Tmp) (sv:SV) (A:List Nat) (n:Nat) (x:Blk) (y:Blk) {b:Nat} :((Eff.mk d sv A [] n [x]).hpW b).getD y=if b=n then x else y:=by
 unfold Eff.hpW
 simp only
 by_cases h:n≤b
 ·rw [if_pos h]
  by_cases hb:b=n
  ·subst hb;simp
  ·rw [if_neg hb,gd (by simp;omega)];rfl
 ·rw [if_neg h,if_neg (by omega)];rfl
theorem Cz (d:Option Tmp) (sv:SV) (A:List Nat) (n:Nat) (y:Blk) {b:Nat} :((Eff.mk d sv A [] n []).hpW b).getD y=y:=by
 unfold Eff.hpW
 simp only
 split <;>rfl
theorem ni (d:Option Tmp) (sv:SV) (A:List Nat) (n:Nat) (x:Blk) (y:Blk) {b b0:Nat} (h0:b0<n):((Eff.mk d sv A [(b0,x)] n []).hpW b).getD y=if b=b0 then x else y:=by
 unfold Eff.hpW
 simp only [cR]
 by_cases h:n≤b
 ·rw [if_pos h,if_neg (by omega)];rfl
 ·rw [if_neg h]
  by_cases hb:b=b0
  ·subst hb;simp
  ·rw [if_neg hb,if_neg (Ne.symm hb)];rfl
theorem Gp (d:Option Tmp) (sv:SV) (A:List Nat) (n:Nat) (x z:Blk) (y:Blk) {b b0:Nat} (h0:b0<n):((Eff.mk d sv A [(b0,x)] n [z]).hpW b).getD y=if b=n then z else if b=b0 then x else y:=by
 unfold Eff.hpW
 simp only [cR]
 by_cases h:n≤b
 ·rw [if_pos h]
  by_cases hb:b=n
  ·subst hb;simp
  ·rw [if_neg hb,if_neg (by omega),gd (by simp;omega)];rfl
 ·have hbn:¬ b=n:=by omega
  simp only [h,hbn,if_false]
  by_cases hb:b=b0
  ·subst hb;simp
  ·rw [if_neg hb,if_neg (Ne.symm hb)];rfl
theorem pT {b0 n:Nat} {x:Blk} (h:b0<n):∀ b,cR [(b0,x)] b≠none→b<n:=fun b hb=>by
 simp only [cR] at hb
 by_cases e:b0=b
 ·omega
 ·simp [e] at hb
theorem fP {A:List Nat} {hp:List Blk} {b:Nat} (h:aM ((bn A 0 hp).getD b .none)=true):A.contains b=true∧aM (hp.getD b .none)=true∧b<hp.length:=by
 have h':=h
 rw [n8,aeE] at h
 split at h
 ·rename_i hA
  exact ⟨hA,h,by have:=mV h';rwa [se] at this⟩
 ·cases h
def vJ (w:World) (Im:Nat→Prop) (ι:Nat→Option Value) (A:List Nat) (hpM:List Blk):Ent:=⟨w,Im,ι,fun r=>∃ b v,A.contains b=true∧ι b=some v∧aM (hpM.getD b .none)=true∧aB v=some r,[]⟩
theorem vH (hC:C.Ok) {all:Array Oper} {o:Oper} {s:AS} {A:List Nat} {K:Eff→Prop} (hw:dz all o s True False):
  ∀ r,(∀ E Im ι w a tmS hpS,Sched C all o s A E tmS hpS Im ι a w→bi C.P Im ι w ((execOp a.eval o).run C.P w) r)→kH C o A s K r→∃ e,EffOk C all o s e∧K e
 | .bad,_,h=>h.elim
 | .need p r,hs,h=>vH hC hw r (fun E Im ι w a tmS hpS k=>hs E Im ι w a tmS hpS k h.1) h.2
 | .know p r,hs,h=>vH hC hw r (fun E Im ι w a tmS hpS k=>(hs E Im ι w a tmS hpS k).2) h
 | .split b r1 r2,hs,h=>by
  cases hb:b with
  | true=>exact vH hC hw r1 (fun E Im ι w a tmS hpS k=>(hs E Im ι w a tmS hpS k).1 hb) (h.1 hb)
  | false=>exact vH hC hw r2 (fun E Im ι w a tmS hpS k=>(hs E Im ι w a tmS hpS k).2 hb) (h.2 hb)
 | .val sv,hs,h=>by
  refine ⟨_,⟨rfl,rfl,fun b hb=>absurd rfl hb,fun E Im ι w a tmS hpS k hn hpF hF next Q hK=> .inl ⟨dC hw k,?_⟩⟩,h⟩
  obtain ⟨v,hr,hv⟩:=hs E Im ι w a tmS hpS k
  unfold Oper.wp
  rw [hr]
  exact hK _ _ Im ι (k.rel.put (Later.refl _ _ _) (k.rel.mem.congr fun b=>by rw [hF,Cz]) o.dst hv) (fun _ _=>rfl) (Later.refl _ _ _)
 | .new T cs,hs,h=>by
  refine ⟨_,⟨rfl,rfl,fun b hb=>absurd rfl hb,fun E Im ι w a tmS hpS k hn hpF hF next Q hK=> .inl ⟨dC hw k,?_⟩⟩,h⟩
  obtain ⟨vs,hr,hv⟩:=hs E Im ι w a tmS hpS k
  unfold Oper.wp
  rw [hr]
  obtain ⟨hm,hl⟩:=ND (c:=s.hp.length) (hp':=hpF) k.rel.mem (hn _ (ar5 _) (by simp)) (fun b hb=>by rw [hF,Bx,if_neg hb]) (by rw [hF,Bx,if_pos rfl]) hv
  exact hK _ _ Im _ (k.rel.put hl hm o.dst ⟨_,ιset_same _ _ _,rfl⟩) (fun b hb=>ιset_other _ _ _ fun e=>hb ⟨by simp [e],by simp [e]⟩) hl
 | .newRo sv,hs,h=>by
  refine ⟨_,⟨rfl,rfl,fun b hb=>absurd rfl hb,fun E Im ι w a tmS hpS k hn hpF hF next Q hK=> .inl ⟨dC hw k,?_⟩⟩,h⟩
  obtain ⟨v,w',hr,hg,hv⟩:=hs E Im ι w a tmS hpS k
  unfold Oper.wp
  rw [hr]
  have hl:=fF hg k.rel.mem.mr.imlt (fun k h=>by cases h) (Im':=fun i=>Im i∨(w.heap.size≤i∧i<w'.heap.size)) (ι:=ι) (ι':=ι) (fun _ h=> .inl h) (fun _ _ h=>h)
  have hm:Mem C E hpF (fun i=>Im i∨(w.heap.size≤i∧i<w'.heap.size)) ι w':=by
   refine Mem.congr ?_ (hp:=hpS) (fun b=>by rw [hF,Cz])
   exact (Mem.same k.rel.mem hg).1
  exact hK _ _ _ ι (k.rel.put hl hm o.dst hv) (fun _ _=>rfl) hl
 | .newOwn c T e l,hs,h=>by
  refine ⟨_,⟨rfl,rfl,fun b hb=>absurd rfl hb,fun E Im ι w a tmS hpS k hn hpF hF next Q hK=> .inl ⟨dC hw k,?_⟩⟩,h⟩
  obtain ⟨v,w',xs,hr,hg,hsl,ho,hf,hk⟩:=hs E Im ι w a tmS hpS k
  unfold Oper.wp
  rw [hr]
  obtain ⟨hm,hl⟩:=Gm (c:=s.hp.length) (hp':=hpF) k.rel.mem (hn _ (ar5 _) (by simp)) (fun b hb=>by rw [hF,Bx,if_neg hb]) (by rw [hF,Bx,if_pos rfl]) hg ho hf hk
  exact hK _ _ Im _ (k.rel.put hl hm o.dst (Hz (ιset_same _ _ _) hsl)) (fun b hb=>ιset_other _ _ _ fun e=>hb ⟨by simp [e],by simp [e]⟩) hl
 | .upd b (.cells T cs),hs,h=>by
  obtain ⟨hA,hlv,hlt⟩:=fP h.1
  refine ⟨_,⟨rfl,rfl,pT hlt,fun E Im ι w a tmS hpS k hn hpF hF next Q hK=> .inl ⟨dC hw k,?_⟩⟩,h.2⟩
  obtain ⟨r,vs,cur,T',hb,hr0,rfl,hr,hv⟩:=hs E Im ι w a tmS hpS k
  unfold Oper.wp
  rw [hr]
  obtain ⟨hm,hl⟩:=rO (hp':=hpF) k.rel.mem hb (by rw [show (⟨tmS,hpS⟩:AS).hp=hpS from rfl,k.hp b hA];exact hlv) hr0 (fun b' hb'=>by rw [hF,ni _ _ _ _ _ _ hlt,if_neg hb']) (by rw [hF,ni _ _ _ _ _ _ hlt,if_pos rfl]) hv
  exact hK _ _ Im ι (k.rel.put hl hm o.dst mY) (fun _ _=>rfl) hl
 | .upd b (.own T e l),hs,h=>by
  obtain ⟨hA,hlv,hlt⟩:=fP h.1
  refine ⟨_,⟨rfl,rfl,pT hlt,fun E Im ι w a tmS hpS k hn hpF hF next Q hK=> .inl ⟨dC hw k,?_⟩⟩,h.2⟩
  obtain ⟨v,w',xs,hb,hr,hg,_,ho,hf⟩:=hs E Im ι w a tmS hpS k
  unfold Oper.wp
  rw [hr]
  obtain ⟨hm,hl⟩:=rg (hp':=hpF) k.rel.mem hb (by rw [show (⟨tmS,hpS⟩:AS).hp=hpS from rfl,k.hp b hA];exact hlv) hg (fun b' hb'=>by rw [hF,ni _ _ _ _ _ _ hlt,if_neg hb']) (by rw [hF,ni _ _ _ _ _ _ hlt,if_pos rfl]) ho hf
  exact hK _ _ Im ι (k.rel.put hl hm o.dst mY) (fun _ _=>rfl) hl
 | .upd b .none,hs,h=>by
  obtain ⟨hA,hlv,hlt⟩:=fP h.1
  exact ⟨_,⟨rfl,rfl,pT hlt,fun E Im ι w a tmS hpS k hn hpF hF next Q hK=>(hs E Im ι w a tmS hpS k).elim⟩,h.2⟩
 | .upd b (.ro ..),hs,h=>by
  obtain ⟨hA,hlv,hlt⟩:=fP h.1
  exact ⟨_,⟨rfl,rfl,pT hlt,fun E Im ι w a tmS hpS k hn hpF hF next Q hK=>(hs E Im ι w a tmS hpS k).elim⟩,h.2⟩
 | .cpy b (.own T e l),hs,h=>by
  obtain ⟨hA,hlv,hlt⟩:=fP h.1
  refine ⟨_,⟨rfl,rfl,pT hlt,fun E Im ι w a tmS hpS k hn hpF hF next Q hK=> .inl ⟨dC hw k,?_⟩⟩,h.2⟩
  obtain ⟨v,w',xs,u,hb,hr,hg,_,ho,hf⟩:=hs E Im ι w a tmS hpS k
  unfold Oper.wp
  rw [hr]
  obtain ⟨hm,hl⟩:=rg (hp':=hpF) k.rel.mem hb (by rw [show (⟨tmS,hpS⟩:AS).hp=hpS from rfl,k.hp b hA];exact hlv) hg (fun b' hb'=>by rw [hF,ni _ _ _ _ _ _ hlt,if_neg hb']) (by rw [hF,ni _ _ _ _ _ _ hlt,if_pos rfl]) ho hf
  exact hK _ _ Im ι (k.rel.put hl hm o.dst trivial) (fun _ _=>rfl) hl
 | .cpy b .none,hs,h=>by
  obtain ⟨hA,hlv,hlt⟩:=fP h.1
  exact ⟨_,⟨rfl,rfl,pT hlt,fun E Im ι w a tmS hpS k hn hpF hF next Q hK=>(hs E Im ι w a tmS hpS k).elim⟩,h.2⟩
 | .cpy b (.cells ..),hs,h=>by
  obtain ⟨hA,hlv,hlt⟩:=fP h.1
  exact ⟨_,⟨rfl,rfl,pT hlt,fun E Im ι w a tmS hpS k hn hpF hF next Q hK=>(hs E Im ι w a tmS hpS k).elim⟩,h.2⟩
 | .cpy b (.ro ..),hs,h=>by
  obtain ⟨hA,hlv,hlt⟩:=fP h.1
  exact ⟨_,⟨rfl,rfl,pT hlt,fun E Im ι w a tmS hpS k hn hpF hF next Q hK=>(hs E Im ι w a tmS hpS k).elim⟩,h.2⟩
 | .app b T e l,hs,h=>by
  obtain ⟨hA,hlv,hlt⟩:=fP h.1
  refine ⟨_,⟨rfl,rfl,pT hlt,fun E Im ι w a tmS hpS k hn hpF hF next Q hK=> .inl ⟨dC hw k,?_⟩⟩,h.2⟩
  obtain ⟨v,v',w',xs,hb,hr,hg,hsl,ho,hf,hk⟩:=hs E Im ι w a tmS hpS k
  unfold Oper.wp
  rw [hr]
  obtain ⟨hm,hl⟩:=MP (c:=s.hp.length) (hp':=hpF) k.rel.mem hb (hn _ (ar5 _) (by simp)) (by rw [show (⟨tmS,hpS⟩:AS).hp=hpS from rfl,k.hp b hA];exact hlv) hg
   (fun b' h1 h2=>by rw [hF,Gp _ _ _ _ _ _ _ hlt,if_neg h2,if_neg h1]) (by rw [hF,Gp _ _ _ _ _ _ _ hlt,if_pos rfl]) (by rw [hF,Gp _ _ _ _ _ _ _ hlt,if_neg (by omega),if_pos rfl]) ho hf hk
  exact hK _ _ Im _ (k.rel.put hl hm o.dst ⟨ιset_same _ _ _,hsl⟩) (fun b hb=>ιset_other _ _ _ fun e=>hb ⟨by simp [e],by simp [e]⟩) hl
 | .frz b sv,hs,h=>by
  obtain ⟨hA,hlv,hlt⟩:=fP h.1
  refine ⟨_,⟨rfl,rfl,pT hlt,fun E Im ι w a tmS hpS k hn hpF hF next Q hK=> .inl ⟨dC hw k,?_⟩⟩,h.2⟩
  obtain ⟨v,v',w',hb,hr,hg,hv⟩:=hs E Im ι w a tmS hpS k
  unfold Oper.wp
  rw [hr]
  obtain ⟨hm,hl⟩:=MW (hp':=hpF) k.rel.mem hb (by rw [show (⟨tmS,hpS⟩:AS).hp=hpS from rfl,k.hp b hA];exact hlv) hg (fun b' hb'=>by rw [hF,ni _ _ _ _ _ _ hlt,if_neg hb']) (by rw [hF,ni _ _ _ _ _ _ hlt,if_pos rfl])
  exact hK _ _ _ ι (k.rel.put hl hm o.dst hv) (fun _ _=>rfl) hl
 | .anyB f,_,h=>h.elim
 | .call f svs,hs,h=>by
  obtain ⟨sv,upd,news,h1,h2,h3⟩:=CR.dr_wp (hp:=bn A 0 s.hp) _ h
  refine ⟨_,⟨rfl,rfl,fun b hb=>(yK h1 hb).2,fun E Im ι w a tmS hpS k hn hpF hF next Q hK=> .inl ⟨dC hw k,?_⟩⟩,h2⟩
  obtain ⟨vs,hv,hr⟩:=hs E Im ι w a tmS hpS k
  unfold Oper.wp
  rw [hr]
  have hM:∀ b,(bn A 0 s.hp).getD b .none=if A.contains b then hpS.getD b .none else .none:=fun b=>by
   rw [n8,aeE]
   split
   ·rename_i hA;rw [k.hp b hA]
   ·rfl
  have hlen:=se A s.hp 0
  have hMem:Mem C (vJ w Im ι A (bn A 0 s.hp)) (bn A 0 s.hp) Im ι w:=by
   have m:=k.rel.mem
   have hlv:∀ b,aM ((bn A 0 s.hp).getD b .none)=true→A.contains b=true∧aM (hpS.getD b .none)=true:=fun b hb=>by
    obtain ⟨g1,g2,_⟩:=fP hb
    exact ⟨g1,by rw [k.hp b g1];exact g2⟩
   exact ⟨HV.mask m.hv k.hp,⟨m.mr.imlt,fun b v r g=>m.mr.imm b v r (hlv b g).2,fun b b' v v' r g g'=>m.mr.sep b b' v v' r (hlv b g).2 (hlv b' g').2,fun b v r g1 g2 g3=> .inr ⟨b,v,(hlv b g1).1,g2,g1,g3⟩⟩,⟨rfl,rfl,rfl,ar5 _,fun _ _ _=>rfl,fun _ _ h=>h,fun _ h=>h,fun _ h=> .inl h⟩,m.glob⟩
  have hc:=hC.spec f svs (bn A 0 s.hp) (fun sv' hp'=>sv'=sv∧hp'=bq (bn A 0 s.hp) upd++news) (fun b=>s.hp.length≤b∧b<s.hp.length+news.length)
   (CR.wp_mono (fun sv' hp' g=>⟨g,fun b g1 g2=>by
    rw [g.2,ce,ig,hlen] at g2
    rw [hlen] at g1
    exact ⟨g1,g2⟩⟩) _ h3) (vJ w Im ι A (bn A 0 s.hp)) Im ι w vs hMem (fun b hb=>hn b hb.1 hb.2) hv
  have hpost:∀ v w',mG C (vJ w Im ι A (bn A 0 s.hp)) Im ι w (bn A 0 s.hp).length (fun sv' hp'=>sv'=sv∧hp'=bq (bn A 0 s.hp) upd++news) (.returned v) w'→next (a.put o.dst v) w':=by
   rintro v w' ⟨v',sv',hp',Im',ι',g1,⟨rfl,rfl⟩,g3,g4,gn,g5,g6⟩
   cases g1
   rw [ce,ig,hlen] at g5
   have hX:∀ b,(bq (bn A 0 s.hp) upd++news).getD b .none=((if s.hp.length≤b then news[b-s.hp.length]? else cR upd b)).getD ((bn A 0 s.hp).getD b .none):=fun b=>by
    rw [pK,hlen]
   have hm:Mem C E hpF Im' ι' w':=Mem.frame (hpM:=bn A 0 s.hp) (n:=s.hp.length) (k:=news.length) k.rel.mem hM g4 g5 (fun b g1 g2=>hn b g1 g2)
    (fun b hb=>by
     rw [hF,hX]
     show (if s.hp.length≤b then news[b-s.hp.length]? else cR upd b).getD _=_
     rcases hb with hA | ⟨g7,g8⟩
     ·rw [hM,if_pos hA]
     ·rw [if_pos g7]
      rw [show news[b-s.hp.length]? =some (news[b-s.hp.length]'(by omega)) from cH _]
      rfl)
    (fun b g7 g8=>by
     rw [hF]
     show (if s.hp.length≤b then news[b-s.hp.length]? else cR upd b).getD _=_
     by_cases g9:s.hp.length≤b
     ·rw [if_pos g9,gd (by omega)];rfl
     ·rw [if_neg g9]
      cases hu:cR upd b with
      | none=>rfl
      | some y=>
       have:=(yK h1 (i:=b) (by rw [hu];simp)).1
       rw [g7] at this;cases this)
   exact hK _ _ Im' ι' (k.rel.put g6 hm o.dst g3) g5 g6
  rcases hc with ⟨c1,c2⟩ | ⟨v,c1,c2⟩
  ·rw [c1]
   show Calls _ _ _ _ _
   refine Calls.mono c2 fun e w' he=> ?_
   cases e with
   | returned v=>exact hpost v w' he
   | panicked c=>obtain ⟨v',sv,hp',Im',ι',h1,_⟩:=he;cases h1
   | outgrown=>obtain ⟨v',sv,hp',Im',ι',h1,_⟩:=he;cases h1
  ·rw [c1]
   exact hpost v w c2
theorem ajH (hC:C.Ok) {all:Array Oper} {o:Oper} {s:AS} {K:Eff→Prop}
  (h:dz all o s (kH C o (si C.glob s o.op) s K (iL C.P C.zero (s.ev C.glob) (bn (si C.glob s o.op) 0 s.hp) o.op)) (K ⟨o.dst,.undef,[],[],s.hp.length,[]⟩)):
  ∃ e,EffOk C all o s e∧K e:=by
 rcases L6 h with ⟨h1,h2⟩ | ⟨h1,h2⟩
 ·refine vH hC h1 _ (fun E Im ι w a tmS hpS k=> ?_) h2
  refine Kv hC.zero k.rel.mem.mr.imlt (HV.mask k.rel.mem.hv k.hp) fun x hx=> ?_
  have hv:=Ee (hp:=s.hp) k.rel.tm k.rel.mem.glob x
  cases x with
  | tmp t=>
   have ht:t∈o.looksAt all:=by
    unfold Oper.looksAt
    refine atC _ (List.mem_filterMap.2 ⟨.tmp t,by simpa using hx,rfl⟩)
   have e1:s.ev C.glob (.tmp t)=AS.ev C.glob ⟨tmS,s.hp⟩ (.tmp t):=(k.tm t ht).symm
   rw [e1];exact hv
  | const v=>exact hv
  | global g=>exact hv
  | func f=>exact hv
 ·refine ⟨_,⟨rfl,rfl,fun b hb=>absurd rfl hb,fun E Im ι w a tmS hpS k hn hpF hF next Q hK=> .inr ⟨FU h1 k,?_⟩⟩,h2⟩
  exact hK _ _ Im ι (k.rel.put (Later.refl _ _ _) (k.rel.mem.congr fun b=>by rw [hF,Cz]) o.dst mY) (fun _ _=>rfl) (Later.refl _ _ _)
end
end Go.Avc
namespace Go.Avc
set_option linter.unusedVariables false
set_option linter.unusedSimpArgs false
section
variable {V:Type}
def ln (S:Nat→Bool):List (Nat→Option V)→Nat→(Nat→V)→(Nat→V)
 | [],_,st=>st
 | e::es,i,st=>ln S es (i+1) (if S i then fun l=>(e l).getD (st l) else st)
theorem iQ {S S':Nat→Bool} {l:Nat} :∀ (es:List (Nat→Option V)) (i:Nat) (st st':Nat→V),(∀ j e,es[j]? =some e→e l≠none→S (i+j)=S' (i+j))→st l=st' l→ln S es i st l=ln S' es i st' l
 | [],_,_,_,_,h=>h
 | e::es,i,st,st',h,hst=>by
  refine iQ es (i+1) _ _ (fun j e' hj hl=>by
   have:=h (j+1) e' (by simpa using hj) hl
   rwa [show i+(j+1)=i+1+j from by omega] at this) ?_
  cases he:e l with
  | none=>
   have h1:(if S i then fun l=>(e l).getD (st l) else st) l=st l:=by split <;>simp [he]
   have h2:(if S' i then fun l=>(e l).getD (st' l) else st') l=st' l:=by split <;>simp [he]
   rw [h1,h2,hst]
  | some x=>
   have h0:=h 0 e rfl (by rw [he];simp)
   rw [Nat.add_zero] at h0
   rw [h0]
   split
   ·simp [he]
   ·exact hst
theorem lu {S:Nat→Bool} {l:Nat} (es:List (Nat→Option V)) (i:Nat) (st:Nat→V) (h:∀ j e,es[j]? =some e→e l≠none→S (i+j)=false):ln S es i st l=st l:=by
 have:=iQ (S:=S) (S':=fun _=>false) es i st st h rfl
 rw [this]
 clear this h
 induction es generalizing i st with
 | nil=>rfl
 | cons e es ih=>exact ih (i+1) st
theorem nR {S S':Nat→Bool} {l k:Nat} (hSk:S k=false) (hS':∀ j,S' j=(decide (j=k)||S j)):∀ (es:List (Nat→Option V)) (i:Nat) (st:Nat→V) (e:Nat→Option V),i≤k→es[k-i]? =some e→
  (∀ j e',es[j]? =some e'→k<i+j→e' l≠none→e l≠none→S (i+j)=false)→ln S' es i st l=(e l).getD (ln S es i st l)
 | [],i,st,e,_,h,_=>by simp at h
 | e0::es,i,st,e,hi,h,hn=>by
  by_cases hik:i=k
  ·subst hik
   rw [Nat.sub_self] at h
   cases h
   have h1:S' i=true:=by rw [hS'];simp
   simp only [ln,h1,hSk,if_true]
   simp only [aiI,if_false]
   cases he:e0 l with
   | none=>
    rw [Option.getD_none]
    refine iQ es (i+1) _ _ (fun j e' hj hl=> ?_) (by simp [he])
    rw [hS',decide_eq_false (by omega)]
    rfl
   | some x=>
    rw [atD]
    rw [lu es (i+1) _ (fun j e' hj hl=> ?_)]
    ·simp [he]
    ·rw [hS',decide_eq_false (by omega),Bool.false_or]
     have:=hn (j+1) e' (by simpa using hj) (by omega) hl (by rw [he];simp)
     rwa [show i+(j+1)=i+1+j from by omega] at this
  ·have h1:S' i=S i:=by rw [hS',decide_eq_false hik];rfl
   simp only [ln,h1]
   have hkk:(e0::es)[k-i]? =es[k-(i+1)]? :=by
    rw [show k-i=(k-(i+1))+1 from by omega]
    rfl
   rw [hkk] at h
   exact nR hSk hS' es (i+1) _ e (by omega) h (fun j e' hj hlt h2 h3=>by
    have:=hn (j+1) e' (by simpa using hj) (by omega) h2 h3
    rwa [show i+(j+1)=i+1+j from by omega] at this)
theorem oo (es:List (Nat→Option V)) (T:Nat→Nat→V) (hT:∀ i e,es[i]? =some e→∀ l,T (i+1) l=(e l).getD (T i l)) (l:Nat):∀ k,k≤es.length→ln (fun j=>decide (j<k)) es 0 (T 0) l=T k l
 | 0,_=>lu es 0 _ fun j e _ _=>by simp
 | k+1,h=>by
  have hk:es[k]? =some es[k] :=cH (by omega)
  rw [nR (S:=fun j=>decide (j<k)) (k:=k) (by simp) (fun j=>by
   by_cases h1:j=k
   ·simp [h1]
   ·by_cases h2:j<k
    ·simp [h2];omega
    ·simp [h1,h2];omega) es 0 (T 0) es[k] (by omega) (by simp) (fun j e' _ h1 _ _=>by simp;omega)]
  rw [oo es T hT l k (by omega),hT k es[k] hk]
end
def ql (ops:Array Oper) (S:Nat→Bool):Prop:=∀ j o,S j=true→ops[j]? =some o→∀ e∈o.after,Region.binds .any e=true→S e.on=true
theorem MI {ops:Array Oper} {S:Nat→Bool} (hS:ql ops S):∀ (l:List Oper) (m:List Nat),ops.toList.drop m.length=l→(∀ j i,(m.getD j 0).testBit i=true→S j=true→S i=true)→
  ∀ j i,((Ut l m).getD j 0).testBit i=true→S j=true→S i=true
 | [],m,_,h=>h
 | o::rest,m,hl,h=>by
  refine MI hS rest _ ?_ ?_
  ·rw [ce,List.length_singleton,← List.drop_drop,hl];rfl
  ·intro j i hb hj
   rcases atE j m.length with hlt | heq | hgt
   ·refine h j i ?_ hj
    rwa [ay,aeU hlt,← ay] at hb
   ·subst heq
    rw [ay,ae5 (ar5 _),Nat.sub_self] at hb
    simp only [adx,atD] at hb
    have ho:ops[m.length]? =some o:=by
     have:(ops.toList.drop m.length)[0]? =some o:=by rw [hl];rfl
     simpa using this
    have key:∀ (es:List Edge) (acc:Nat),(∀ e∈es,e∈o.after)→(acc.testBit i=true→S i=true)→(es.foldl (fun acc e=>if Region.binds .any e then acc |||(1 <<< e.on) |||m.getD e.on 0 else acc) acc).testBit i=true→S i=true:=by
     intro es
     induction es with
     | nil=>exact fun acc _ ha hb=>ha hb
     | cons e es ih=>
      intro acc he ha hb
      refine ih _ (fun e' h'=>he e' (by simp [h'])) ?_ hb
      intro hb'
      dsimp only at hb'
      by_cases hbind:Region.binds .any e=true
      ·rw [if_pos hbind,Nat.testBit_or,Nat.testBit_or,as9,as9] at hb'
       have hon:=hS _ o hj ho e (he e (by simp)) hbind
       rcases hb' with (h1 | h1) | h1
       ·exact ha h1
       ·rw [Nat.one_shiftLeft,Nat.testBit_two_pow] at h1
        have:e.on=i:=by simpa using h1
        rwa [this] at hon
       ·exact h _ _ h1 hon
      ·rw [if_neg hbind] at hb'
       exact ha hb'
    exact key _ 0 (fun e he=>by simpa using he) (fun h0=>by simp at h0) hb
   ·rw [ay,gd (by simp;omega)] at hb
    simp at hb
end Go.Avc
namespace Go.Avc
set_option linter.unusedVariables false
set_option linter.unusedSimpArgs false
section
variable {C:Ctx} {E B:Ent}
def st (s:AS) (es:List Eff) (i:Nat):AS:=(es.take i).foldl AS.app s
theorem u6 (s:AS) (es:List Eff):st s es 0=s:=rfl
theorem AA (s:AS) (es:List Eff) (i:Nat) (e:Eff) (h:es[i]? =some e):st s es (i+1)=(st s es i).app e:=by
 unfold st
 rw [atF,h]
 simp
theorem ER (hC:C.Ok) {all:Array Oper} {K:AS→List (List Nat×List Nat)→Prop} :∀ (l:List Oper) (s:AS) (ks:List (List Nat×List Nat)),qL C all l s ks K→
  ∃ es:List Eff,es.length=l.length∧(∀ i o e,l[i]? =some o→es[i]? =some e→EffOk C all o (st s es i) e)∧K (st s es es.length) (ks++es.map Eff.key)
 | [],s,ks,h=>⟨[],rfl,fun i o e ho=>by simp at ho,by
  have h':K s ks:=h
  simpa [st] using h'⟩
 | o::l,s,ks,h=>by
  have h':dz all o s
    (kH C o (si C.glob s o.op) s (fun e=>qL C all l (s.app e) (ks++ [e.key]) K) (iL C.P C.zero (s.ev C.glob) (bn (si C.glob s o.op) 0 s.hp) o.op))
    ((fun e=>qL C all l (s.app e) (ks++ [e.key]) K) ⟨o.dst,.undef,[],[],s.hp.length,[]⟩):=by
   have e1:qL C all l (s.app ⟨o.dst,.undef,[],[],s.hp.length,[]⟩) (ks++ [Eff.key ⟨o.dst,.undef,[],[],s.hp.length,[]⟩]) K=qL C all l (s.put o.dst .undef) (ks++ [([],[])]) K:=by
    simp [AS.app,bq,Eff.key,kK]
   show dz all o s _ (qL C all l (s.app ⟨o.dst,.undef,[],[],s.hp.length,[]⟩) (ks++ [Eff.key ⟨o.dst,.undef,[],[],s.hp.length,[]⟩]) K)
   rw [e1]
   exact wu h
  obtain ⟨e,he,hk⟩:=ajH hC h'
  obtain ⟨es,h1,h2,h3⟩:=ER hC l _ _ hk
  refine ⟨e::es,by simp [h1],fun i o' e' ho he'=> ?_,?_⟩
  ·cases i with
   | zero=>
    simp only [adx,ada] at ho he'
    subst ho he'
    exact he
   | succ i=>exact h2 i o' e' (by simpa using ho) (by simpa using he')
  ·have:ks++(e::es).map Eff.key=ks++ [e.key] ++es.map Eff.key:=by simp
   rw [this]
   exact h3
theorem Rel.congr {s s':AS} {Im:Nat→Prop} {ι:Nat→Option Value} {a:Act} {w:World} (h:Rel C E s Im ι a w) (hl:s'.tm.length=s.tm.length) (ht:∀ t,aH s'.tm t=aH s.tm t) (hh:∀ b,s'.hp.getD b .none=s.hp.getD b .none):Rel C E s' Im ι a w:=
 ⟨h.defers,h.size.trans hl.symm,fun t=>by rw [ht];exact h.tm t,h.mem.congr hh⟩
theorem FP {n:Nat} {f:Nat→SV} {t:Nat} :aH ((asg n).map f) t=if t<n then f t else .dead:=by
 have key:∀ (l:List SV) (t:Nat),aH l t=l[t]?.getD .dead:=by
  intro l
  induction l with
  | nil=>intro t;rfl
  | cons x l ih=>intro t;cases t with
   | zero=>rfl
   | succ t=>simpa [aH] using ih t
 rw [key,eW]
 by_cases h:t<n
 ·rw [atG h,if_pos h];rfl
 ·rw [gd (by simpa using h),if_neg h];rfl
theorem vZ {n:Nat} {f:Nat→Blk} {b:Nat} :((asg n).map f).getD b .none=if b<n then f b else .none:=by
 rw [ay,eW]
 by_cases h:b<n
 ·rw [atG h,if_pos h];rfl
 ·rw [gd (by simpa using h),if_neg h];rfl
theorem yd:∀ (l:List Blk) (n b:Nat),n≤b→b<n+l.length→b∈kK n l
 | [],n,b,h1,h2=>by simp at h2;omega
 | x::l,n,b,h1,h2=>by
  simp only [kK,atH]
  by_cases h:b=n
  ·exact .inl h
  ·exact .inr (yd l (n+1) b (by omega) (by simp at h2;omega))
theorem JA:∀ (l:List (Nat×Blk)) (b:Nat),cR l b≠none→b∈l.map (·.1)
 | [],b,h=>absurd rfl h
 | (c,x)::l,b,h=>by
  simp only [cR] at h
  cases hu:cR l b with
  | some y=>exact List.mem_cons_of_mem _ (JA l b (by rw [hu];simp))
  | none=>
   rw [hu] at h
   by_cases hc:c=b
   ·subst hc;simp
   ·simp [hc] at h
theorem Gn {e:Eff} {b:Nat} (h:e.hpW b≠none):b∈e.key.2:=by
 unfold Eff.hpW at h
 unfold Eff.key
 split at h
 ·rename_i hb
  refine List.mem_append_right _ (yd _ _ _ hb ?_)
  rcases atI b (e.base+e.news.length) with h' | h'
  ·exact h'
  ·exact absurd (gd (by omega)) h
 ·exact atC _ (JA _ _ h)
theorem Ga {e:Eff} {n t:Nat} (h:e.tmW n t≠none):e.dst=some t:=by
 unfold Eff.tmW at h
 split at h
 ·assumption
 ·exact absurd rfl h
structure Draw (C:Ctx) (ops:Array Oper) (s:AS) (es:List Eff):Prop where
 len:es.length=ops.size
 ok:∀ i o e,ops[i]? =some o→es[i]? =some e→EffOk C ops o (st s es i) e
 conf:gG ops (es.map Eff.key)=true
section
variable {ops:Array Oper} {s:AS} {es:List Eff}
theorem Draw.ord (d:Draw C ops s es) {S:Nat→Bool} (hS:ql ops S) {i j:Nat} {oi oj:Oper} {ei ej:Eff} (hij:i<j) (h1:ops[i]? =some oi) (h2:ops[j]? =some oj) (h3:es[i]? =some ei) (h4:es[j]? =some ej)
  (hc:jD ops oi oj ei.key ej.key=true) (hj:S j=true):S i=true:=by
 have hconf:=d.conf
 unfold gG Fx at hconf
 rw [cZ,atJ] at hconf
 have hjn:j<ops.size:=(asu.1 h2).1
 have h5:=hconf.2 j (atu.2 hjn)
 rw [atJ] at h5
 have h6:=h5 i (atu.2 hij)
 simp only [h1,h2,eW,h3,h4,Option.map_some,hc,Bool.not_true,Bool.false_or] at h6
 exact MI hS ops.toList [] rfl (fun j i hb=>by simp at hb) j i h6 hj
theorem Draw.down (d:Draw C ops s es) {j:Nat} {o:Oper} (h:ops[j]? =some o) {e:Edge} (he:e∈o.after) (hb:Region.binds .any e=true):e.on<j:=by
 have hconf:=d.conf
 unfold gG GM at hconf
 rw [cZ,atJ] at hconf
 have h5:=hconf.1 j (atu.2 (asu.1 h).1)
 simp only [h] at h5
 rw [atJ] at h5
 have h6:=h5 e (by simpa using he)
 rw [hb] at h6
 simpa using h6
theorem Draw.eff (d:Draw C ops s es) {i:Nat} {o:Oper} (h:ops[i]? =some o):∃ e,es[i]? =some e∧EffOk C ops o (st s es i) e:=by
 have hlt:i<es.length:=by rw [d.len];exact (asu.1 h).1
 exact ⟨es[i],cH hlt,d.ok i o _ h (cH hlt)⟩
theorem Draw.op (d:Draw C ops s es) {i:Nat} {e:Eff} (h:es[i]? =some e):∃ o,ops[i]? =some o∧EffOk C ops o (st s es i) e:=by
 have hlt:i<ops.size:=by rw [← d.len];exact (adW.1 h).1
 exact ⟨ops[i],atK hlt,d.ok i _ e (atK hlt) h⟩
theorem HN (s:AS) (e:Eff):(s.app e).tm.length=s.tm.length:=by
 unfold AS.app AS.put
 split <;>simp [gu]
theorem QM (s:AS) (e:Eff):(s.app e).hp=bq s.hp e.upd++e.news:=by
 unfold AS.app AS.put
 split <;>rfl
theorem LT (tm:List SV) (hp:List Blk) (e:Eff) (t:Nat):aH ((⟨tm,hp⟩:AS).put e.dst e.sv).tm t=(e.tmW tm.length t).getD (aH tm t):=by
 unfold AS.put Eff.tmW
 cases hd:e.dst with
 | none=>simp
 | some d=>
  simp only [ada]
  by_cases h:d=t
  ·subst h
   rw [if_pos rfl]
   by_cases hl:d<tm.length
   ·rw [if_pos hl,jh _ _ _ hl];rfl
   ·rw [if_neg hl,oP (lZ tm d e.sv) d (by rw [gu];exact atL hl),oP tm d (atL hl)];rfl
  ·rw [if_neg h,eK _ _ _ _ h];rfl
theorem kC (s:AS) (es:List Eff):∀ i,(st s es i).tm.length=s.tm.length
 | 0=>rfl
 | i+1=>by
  cases h:es[i]? with
  | none=>
   have:st s es (i+1)=st s es i:=by
    unfold st
    rw [atF,h];simp
   rw [this];exact kC s es i
  | some e=>rw [AA s es i e h,HN];exact kC s es i
theorem Draw.tmT (d:Draw C ops s es) (i:Nat) (f:Nat→Option SV) (h:(es.map fun e=>e.tmW s.tm.length)[i]? =some f) (t:Nat):aH (st s es (i+1)).tm t=(f t).getD (aH (st s es i).tm t):=by
 rw [eW] at h
 cases he:es[i]? with
 | none=>rw [he] at h;cases h
 | some e=>
  rw [he] at h
  cases h
  rw [AA s es i e he]
  have:=LT (st s es i).tm (bq (st s es i).hp e.upd++e.news) e t
  rw [kC] at this
  exact this
theorem Draw.hpT (d:Draw C ops s es) (i:Nat) (f:Nat→Option Blk) (h:(es.map Eff.hpW)[i]? =some f) (b:Nat):(st s es (i+1)).hp.getD b .none=(f b).getD ((st s es i).hp.getD b .none):=by
 rw [eW] at h
 cases he:es[i]? with
 | none=>rw [he] at h;cases h
 | some e=>
  rw [he] at h
  cases h
  obtain ⟨o,_,ho⟩:=d.op he
  rw [AA s es i e he,QM,pK]
  unfold Eff.hpW
  rw [ho.base]
theorem Draw.lenS (d:Draw C ops s es) {i:Nat} {e:Eff} (he:es[i]? =some e):(st s es (i+1)).hp.length=(st s es i).hp.length+e.news.length∧e.base=(st s es i).hp.length:=by
 obtain ⟨o,_,ho⟩:=d.op he
 exact ⟨by rw [AA s es i e he,QM,ce,ig],ho.base⟩
theorem Draw.lenM (d:Draw C ops s es):∀ (j i:Nat),i≤j→j≤es.length→(st s es i).hp.length≤(st s es j).hp.length
 | 0,i,h,_=>by rw [Nat.le_zero.1 h];exact ar5 _
 | j+1,i,h,hj=>by
  by_cases he:i=j+1
  ·rw [he];exact ar5 _
  ·have h1:=d.lenM j i (by omega) (by omega)
   have h2:=(d.lenS (cH (show j<es.length from hj))).1
   omega
def tmS (s:AS) (es:List Eff) (S:Nat→Bool):List SV:=(asg s.tm.length).map (ln S (es.map fun e=>e.tmW s.tm.length) 0 (aH s.tm))
def hpS (s:AS) (es:List Eff) (S:Nat→Bool):List Blk:=(asg (st s es es.length).hp.length).map (ln S (es.map Eff.hpW) 0 (fun b=>s.hp.getD b .none))
theorem vY (S:Nat→Bool) (t:Nat):aH (tmS s es S) t=ln S (es.map fun e=>e.tmW s.tm.length) 0 (aH s.tm) t:=by
 unfold tmS
 rw [FP]
 split
 ·rfl
 ·rename_i h
  rw [lu _ _ _ fun j e hj hl=> ?_,oP _ _ (by omega)]
  rw [eW] at hj
  cases he:es[j]? with
  | none=>rw [he] at hj;cases hj
  | some e'=>
   rw [he] at hj
   cases hj
   refine absurd ?_ hl
   show Eff.tmW e' _ t=none
   unfold Eff.tmW
   rw [if_neg h]
   split <;>rfl
theorem Draw.hpS_get (d:Draw C ops s es) (S:Nat→Bool) (b:Nat):(hpS s es S).getD b .none=ln S (es.map Eff.hpW) 0 (fun b=>s.hp.getD b .none) b:=by
 unfold hpS
 rw [vZ]
 split
 ·rfl
 ·rename_i h
  have h0:s.hp.length≤b:=by
   have:=d.lenM es.length 0 (asq _) (ar5 _)
   rw [u6] at this
   omega
  rw [lu _ _ _ fun j e hj hl=> ?_,ay,gd h0];rfl
  rw [eW] at hj
  cases he:es[j]? with
  | none=>rw [he] at hj;cases hj
  | some e'=>
   rw [he] at hj
   cases hj
   refine absurd ?_ hl
   obtain ⟨h1,h2⟩:=d.lenS he
   have h3:=d.lenM es.length (j+1) (adW.1 he).1 (ar5 _)
   unfold Eff.hpW
   rw [if_pos (by omega)]
   exact gd (by omega)
end
end
end Go.Avc
namespace Go.Avc
set_option linter.unusedVariables false
set_option linter.unusedSimpArgs false
section
variable {C:Ctx} {E B:Ent} {ops:Array Oper} {s:AS} {es:List Eff}
structure DInv (C:Ctx) (E B:Ent) (s:AS) (es:List Eff) (S:Nat→Bool) (a:Act) (w:World) (Im:Nat→Prop) (ι:Nat→Option Value):Prop where
 rel:Rel C E ⟨tmS s es S,hpS s es S⟩ Im ι a w
 fresh:∀ j e,es[j]? =some e→S j=false→∀ b,e.base≤b→b<e.base+e.news.length→ι b=none
 past:∀ b,(st s es es.length).hp.length≤b→ι b=none
 later:Aft B s.hp.length Im ι w
def y6 (listed:Array Bool) (j:Nat):Bool:=listed.getD j false
theorem ZT {listed:Array Bool} {i:Nat} (hi:i<listed.size) (j:Nat):y6 (listed.setIfInBounds i true) j=(decide (j=i)||y6 listed j):=by
 unfold y6
 by_cases h:j=i
 ·subst h
  simp [hi]
 ·rw [getD_set_ne _ (Ne.symm h)]
  simp [h]
theorem nH {listed:Array Bool} {j:Nat} (h:j<listed.size):listed.getD j true=listed.getD j false:=by
 simp [h]
def kD (n:Nat) (S:Nat→Bool):Nat:=((asg n).filter fun j=> !S j).length
theorem xS {S S':Nat→Bool} {i:Nat} (hS:∀ j,S' j=(decide (j=i)||S j)) (h0:S i=false):∀ n,i<n→kD n S'<kD n S
 | 0,h=>by omega
 | n+1,h=>by
  have hsplit:∀ (T:Nat→Bool) (n:Nat),kD (n+1) T=kD n T+(if T n then 0 else 1):=fun T n=>by
   unfold kD
   rw [List.range_succ,List.filter_append,ce]
   cases hT:T n <;>simp [hT]
  have hsub:∀ m,kD m S'≤kD m S:=fun m=>by
   induction m with
   | zero=>exact ar5 _
   | succ m ih=>
    rw [hsplit,hsplit,hS]
    by_cases hm:m=i
    ·subst hm;simp [h0];omega
    ·simp [hm];omega
  rw [hsplit,hsplit]
  by_cases hin:i=n
  ·subst hin
   have h1:S' i=true:=by rw [hS];simp
   rw [h1,h0]
   have:=hsub i
   simp;omega
  ·have h1:S' n=S n:=by rw [hS,decide_eq_false (Ne.symm hin)];rfl
   rw [h1]
   have:=xS hS h0 n (by omega)
   omega
theorem L5 {S:Nat→Bool} {n:Nat} (h:kD n S=0):∀ j,j<n→S j=true:=fun j hj=>by
 unfold kD at h
 rw [List.length_eq_zero_iff,List.filter_eq_nil_iff] at h
 have:=h j (atu.2 hj)
 simpa using this
theorem Draw.sched (d:Draw C ops s es) {S:Nat→Bool} {i:Nat} {o:Oper} {e:Eff} (ho:ops[i]? =some o) (he:es[i]? =some e) (hS:ql ops S) (hi:S i=false) (hr:∀ x∈o.after,Region.binds .any x=true→S x.on=true) {a:Act} {w:World} {Im:Nat→Prop} {ι:Nat→Option Value} (I:DInv C E B s es S a w Im ι):
  Sched C ops o (st s es i) e.acc E (tmS s es S) (hpS s es S) Im ι a w:=by
 have hS':ql ops (fun j=>decide (j=i)||S j):=fun j o' hj ho' x hx hb=>by
  simp only [as9,aQ] at hj ⊢
  by_cases hji:j=i
  ·subst hji
   rw [ho] at ho'
   cases ho'
   exact .inr (hr x hx hb)
  ·exact .inr (hS j o' (hj.resolve_left hji) ho' x hx hb)
 have hbef:∀ j oj ej,ops[j]? =some oj→es[j]? =some ej→(j<i→jD ops oj o ej.key e.key=true)→(i<j→jD ops o oj e.key ej.key=true)→S j=decide (j<i):=fun j oj ej h1 h2 h3 h4=>by
  rcases atE j i with h | h | h
  ·have:=d.ord hS' h h1 ho h2 he (h3 h) (by simp)
   simp only [as9,aQ] at this
   rw [this.resolve_left (by omega)]
   simp [h]
  ·subst h
   rw [hi];simp
  ·rw [decide_eq_false (by omega)]
   cases hSj:S j with
   | false=>rfl
   | true=>
    have:=d.ord hS h ho h1 he h2 (h4 h) hSj
    rw [hi] at this;cases this
 have hil:i≤es.length:=atM (adW.1 he).1
 refine ⟨I.rel,?_,fun t ht=> ?_,fun b hb=> ?_⟩
 ·rw [kC];simp [tmS]
 ·have e1:=oo (es.map fun e=>e.tmW s.tm.length) (fun i t=>aH (st s es i).tm t) (fun i f h l=>d.tmT i f h l) t i (by simpa using hil)
  rw [vY]
  refine Eq.trans (iQ _ _ _ _ (fun j f hj hl=> ?_) rfl) e1
  rw [eW] at hj
  cases hej:es[j]? with
  | none=>rw [hej] at hj;cases hj
  | some ej=>
   rw [hej] at hj
   cases hj
   obtain ⟨oj,hoj,hok⟩:=d.op hej
   have hd:=Ga hl
   rw [hok.dst] at hd
   rw [aeE]
   refine hbef j oj ej hoj hej (fun _=> ?_) (fun _=> ?_)
   ·unfold jD
    rw [hd]
    simp [ht]
   ·unfold jD
    rw [hd]
    simp [ht]
 ·have e1:=oo (es.map Eff.hpW) (fun i b=>(st s es i).hp.getD b .none) (fun i f h l=>d.hpT i f h l) b i (by simpa using hil)
  rw [d.hpS_get]
  refine Eq.trans (iQ _ _ _ _ (fun j f hj hl=> ?_) rfl) e1
  rw [eW] at hj
  cases hej:es[j]? with
  | none=>rw [hej] at hj;cases hj
  | some ej=>
   rw [hej] at hj
   cases hj
   obtain ⟨oj,hoj,hok⟩:=d.op hej
   have hk:=Gn hl
   rw [aeE]
   have hb':b∈e.key.1:=by simpa [Eff.key] using hb
   refine hbef j oj ej hoj hej (fun _=> ?_) (fun _=> ?_)
   ·unfold jD
    have:ej.key.2.any (fun b=>e.key.1.contains b||e.key.2.contains b)=true:=atN.2 ⟨b,hk,by simp [hb']⟩
    rw [this];simp
   ·unfold jD
    have:ej.key.2.any (fun b=>e.key.1.contains b)=true:=atN.2 ⟨b,hk,by simp [hb']⟩
    rw [this];simp
theorem Draw.step (hC:C.Ok) (d:Draw C ops s es) {S S':Nat→Bool} {i:Nat} {o:Oper} (ho:ops[i]? =some o) (hS:ql ops S) (hS'c:ql ops S') (hi:S i=false) (hS':∀ j,S' j=(decide (j=i)||S j)) (hr:∀ x∈o.after,Region.binds .any x=true→S x.on=true) {a:Act} {w:World} {Im:Nat→Prop} {ι:Nat→Option Value} (I:DInv C E B s es S a w Im ι)
  {next:Act→World→Prop} {Q:Exit→Act→World→Prop} (hK:∀ a' w' Im' ι',DInv C E B s es S' a' w' Im' ι'→next a' w'):wpOp C.P ops Q i next a w:=by
 obtain ⟨e,he,hok⟩:=d.eff ho
 have hsch:=d.sched ho he hS hi hr I
 have hfresh:∀ b,e.base≤b→b<e.base+e.news.length→ι b=none:=I.fresh i e he hi
 have hww:∀ j oj ej,ops[j]? =some oj→es[j]? =some ej→i<j→jD ops o oj e.key ej.key=true→S j=false:=fun j oj ej h1 h2 h3 h4=>by
  cases hSj:S j with
  | false=>rfl
  | true=>
   have:=d.ord hS h3 ho h1 he h2 h4 hSj
   rw [hi] at this;cases this
 have htm:∀ t,aH (tmS s es S') t=(e.tmW s.tm.length t).getD (aH (tmS s es S) t):=fun t=>by
  rw [vY,vY]
  refine nR (k:=i) hi hS' _ 0 _ (e.tmW s.tm.length) (asq _) (by rw [eW,Nat.sub_zero,he];rfl) fun j f hj hlt h1 h2=> ?_
  rw [aeE] at hlt ⊢
  rw [eW] at hj
  cases hej:es[j]? with
  | none=>rw [hej] at hj;cases hj
  | some ej=>
   rw [hej] at hj
   cases hj
   obtain ⟨oj,hoj,hokj⟩:=d.op hej
   have hd:=Ga h1
   have hd':=Ga h2
   rw [hokj.dst] at hd
   rw [hok.dst] at hd'
   refine hww j oj ej hoj hej hlt ?_
   unfold jD
   rw [hd,hd']
   simp
 have hhp:∀ b,(hpS s es S').getD b .none=(e.hpW b).getD ((hpS s es S).getD b .none):=fun b=>by
  rw [d.hpS_get,d.hpS_get]
  refine nR (k:=i) hi hS' _ 0 _ e.hpW (asq _) (by rw [eW,Nat.sub_zero,he];rfl) fun j f hj hlt h1 h2=> ?_
  rw [aeE] at hlt ⊢
  rw [eW] at hj
  cases hej:es[j]? with
  | none=>rw [hej] at hj;cases hj
  | some ej=>
   rw [hej] at hj
   cases hj
   obtain ⟨oj,hoj,hokj⟩:=d.op hej
   refine hww j oj ej hoj hej hlt ?_
   unfold jD
   have:e.key.2.any (fun b=>ej.key.1.contains b||ej.key.2.contains b)=true:=atN.2 ⟨b,Gn h2,by simp [Gn h1]⟩
   rw [this];simp
 have hdoes:=hok.does E Im ι w a _ _ hsch hfresh (hpS s es S') hhp next Q fun a' w' Im' ι' hrel hι hl=>hK a' w' Im' ι' ⟨?_,?_,?_,I.later.step hl (ar5 _) fun b hb=>hι b fun h=> ?_⟩
 ·unfold wpOp
  rw [ho]
  rcases hdoes with ⟨h1,h2⟩ | ⟨h1,h2⟩
  ·simp only [h1,if_true];exact .inl h2
  ·simp only [h1,aiI,if_false];exact h2
 ·refine hrel.congr ?_ (fun t=> ?_) (fun b=> ?_)
  ·unfold AS.put
   split <;>simp [gu,tmS]
  ·rw [LT,htm]
   simp [tmS]
  ·unfold AS.put
   split <;>rfl
 ·intro j ej hej hSj b h1 h2
  rw [hS',ate,aT] at hSj
  have h3:=I.fresh j ej hej hSj.2 b h1 h2
  rw [hι b ?_]
  ·exact h3
  ·rintro ⟨h4,h5⟩
   obtain ⟨g1,g2⟩:=d.lenS he
   obtain ⟨g3,g4⟩:=d.lenS hej
   have k1:=(adW.1 he).1
   have k2:=(adW.1 hej).1
   rcases Nat.lt_or_gt_of_ne hSj.1 with h | h
   ·have:=d.lenM i (j+1) h (by omega)
    omega
   ·have:=d.lenM j (i+1) h (by omega)
    omega
 ·intro b hb
  rw [hι b ?_]
  ·exact I.past b hb
  ·rintro ⟨h4,h5⟩
   obtain ⟨g1,g2⟩:=d.lenS he
   have:=d.lenM es.length (i+1) (adW.1 he).1 (ar5 _)
   omega
 ·have g:=d.lenM i 0 (asq _) (atM (adW.1 he).1)
  have g2:=(d.lenS he).2
  rw [u6] at g
  omega
theorem Draw.any (hC:C.Ok) (d:Draw C ops s es) {Q:Exit→Act→World→Prop} (hQ:∀ a w,jl C E B (st s es es.length) a w→Q .normal a w):∀ (fuel:Nat) (listed:Array Bool) (a:Act) (w:World) (Im:Nat→Prop) (ι:Nat→Option Value),
  listed.size=ops.size→ql ops (y6 listed)→kD ops.size (y6 listed)≤fuel→DInv C E B s es (y6 listed) a w Im ι→wpAny C.P .any ops Q fuel listed a w:=by
 have hall:∀ (S:Nat→Bool),(∀ j,j<ops.size→S j=true)→∀ a w Im ι,DInv C E B s es S a w Im ι→Q .normal a w:=fun S hS a w Im ι I=>by
  refine hQ a w ⟨Im,ι,I.rel.congr ?_ (fun t=> ?_) (fun b=> ?_),I.past,I.later.len (by have:=d.lenM es.length 0 (asq _) (ar5 _);rwa [u6] at this)⟩
  ·rw [kC];simp [tmS]
  ·rw [vY]
   have e1:=oo (es.map fun e=>e.tmW s.tm.length) (fun i t=>aH (st s es i).tm t) (fun i f h l=>d.tmT i f h l) t es.length (by simp)
   refine Eq.trans e1.symm (iQ _ _ _ _ (fun j f hj hl=> ?_) rfl)
   have hlt:j<es.length:=by simpa using (adW.1 hj).1
   rw [aeE,hS j (by rw [← d.len];exact hlt)]
   simp [hlt]
  ·rw [d.hpS_get]
   have e1:=oo (es.map Eff.hpW) (fun i b=>(st s es i).hp.getD b .none) (fun i f h l=>d.hpT i f h l) b es.length (by simp)
   refine Eq.trans e1.symm (iQ _ _ _ _ (fun j f hj hl=> ?_) rfl)
   have hlt:j<es.length:=by simpa using (adW.1 hj).1
   rw [aeE,hS j (by rw [← d.len];exact hlt)]
   simp [hlt]
 intro fuel
 induction fuel with
 | zero=>
  intro listed a w Im ι hsz hcl hun I
  have hS:=L5 (Nat.le_zero.1 hun)
  refine ⟨?_,hall _ hS a w Im ι I⟩
  cases hr:Region.ready .any ops listed with
  | nil=>rfl
  | cons i l=>
   have hi:i∈Region.ready .any ops listed:=by rw [hr];simp
   obtain ⟨h1,o,ho,_⟩:=mem_ready.1 hi
   have hlt:=(asu.1 ho).1
   rw [nH (by omega)] at h1
   have:=hS i hlt
   unfold y6 at this
   rw [h1] at this;cases this
 | succ fuel ih=>
  intro listed a w Im ι hsz hcl hun I
  refine ⟨fun hr=>hall _ (fun j hj=> ?_) a w Im ι I,fun i hi=> ?_⟩
  ·induction j using at3 with
   | _ j ihj=>
    cases hSj:y6 listed j with
    | true=>rfl
    | false=>
     have ho:ops[j]? =some ops[j] :=atK hj
     have:j∈Region.ready .any ops listed:=mem_ready.2 ⟨by rw [nH (by omega)];exact hSj,_,ho,fun e he hb=>by
      have hlt:=d.down ho he hb
      exact ihj e.on hlt (by omega)⟩
     rw [hr] at this
     cases this
  ·obtain ⟨h1,o,ho,h2⟩:=mem_ready.1 hi
   have hlt:=(asu.1 ho).1
   rw [nH (by omega)] at h1
   have hS':=ZT (listed:=listed) (i:=i) (by omega)
   have hcl':ql ops (y6 (listed.setIfInBounds i true)):=fun j o' hj ho' x hx hb=>by
    rw [hS'] at hj ⊢
    simp only [as9,aQ] at hj ⊢
    by_cases hji:j=i
    ·subst hji
     rw [ho] at ho'
     cases ho'
     exact .inr (h2 x hx hb)
    ·exact .inr (hcl j o' (hj.resolve_left hji) ho' x hx hb)
   refine d.step hC ho hcl hcl' h1 hS' h2 I fun a' w' Im' ι' I'=>ih _ a' w' Im' ι' (by simpa using hsz) hcl' ?_ I'
   have:=xS hS' h1 ops.size hlt
   omega
theorem On (hC:C.Ok) (hm:C.P.follows .mixedOrders=true) {id:Nat} {a:Act} {w:World} {K:AS→Prop} {Q:Exit→Act→World→Prop} (hQ:∀ s a w,K s→jl C E B s a w→Q .normal a w) (hR:jl C E B s a w) (h:Tq C ops s K):
  (Code.region id ops true).wp C.P Q a w:=by
 obtain ⟨es,h1,h2,h3,h4⟩:=ER hC ops.toList s [] h
 have d:Draw C ops s es:=⟨by simpa using h1,fun i o e ho he=>h2 i o e (by simpa using ho) he,by simpa using h3⟩
 obtain ⟨Im,ι,hR,hF,hB⟩:=hR
 refine wp_region_any hm ?_
 have hl0:∀ j,y6 (Array.replicate ops.size false) j=false:=fun j=>by
  unfold y6
  by_cases hj:j<ops.size
  ·simp [hj]
  ·simp [hj]
 have hg:w.grownBy {w with drawn:=w.drawn+1} none:=⟨rfl,rfl,rfl,ar5 _,fun _ _ _=>rfl⟩
 have hl:Later Im ι w Im ι {w with drawn:=w.drawn+1} :=fF hg hR.mem.mr.imlt (fun k h=>by cases h) (fun _ h=>h) (fun _ _ h=>h)
 have hlen0:=d.lenM es.length 0 (asq _) (ar5 _)
 rw [u6] at hlen0
 have hR':Rel C E s Im ι a {w with drawn:=w.drawn+1} :=by
  refine ⟨hR.defers,hR.size,fun t=>VRel.mono hl _ _ (hR.tm t),?_⟩
  exact (Mem.step s.hp.length hR.mem hg (fun k h=>by cases h) (fun _ h=>h) (fun _ h=> .inl h) (fun _ _ h=>h) (fun b hb=>⟨rfl,.inl rfl⟩) fun v hv=>by
   rw [hF _ (ar5 _)] at hv;cases hv).1
 refine d.any hC (fun a w r=>hQ _ a w h4 r) ops.size _ a _ Im ι (by simp) (fun j o hj=>by rw [hl0] at hj;cases hj) ?_ ⟨hR'.congr ?_ (fun t=> ?_) (fun b=> ?_),fun j e he _ b h5 h6=>hF b ?_,fun b hb=>hF b (by omega),hB.step hl (ar5 _) fun _ _=>rfl⟩
 ·unfold kD
  refine Nat.le_trans (List.length_filter_le _ _) ?_
  simp
 ·simp [tmS]
 ·rw [vY,lu _ _ _ fun j f _ _=>hl0 _]
 ·rw [d.hpS_get,lu _ _ _ fun j f _ _=>hl0 _]
 ·obtain ⟨g1,g2⟩:=d.lenS he
  have:=d.lenM j 0 (asq _) (atM (adW.1 he).1)
  rw [u6] at this
  omega
end
end Go.Avc
namespace Go.Avc
set_option linter.unusedVariables false
set_option linter.unusedSimpArgs false
section
variable (C:Ctx)
end
section
variable {C:Ctx} {E B:Ent}
theorem aoG {p:Nat→Prop} :∀ n,p n→∃ m,p m∧∀ k,p k→m≤k:=by
 intro n
 induction n using at3 with
 | _ n ih=>
  intro h
  by_cases hx:∃ k,k<n∧p k
  ·obtain ⟨k,h1,h2⟩:=hx
   exact ih k h1 h2
  ·exact ⟨n,h,fun k hk=>atL fun h'=>hx ⟨k,h',hk⟩⟩
open Classical in
noncomputable def oY (p:Nat→Prop):Nat:=if h:∃ m,p m∧∀ k,p k→m≤k then Classical.choose h else 0
theorem og {p:Nat→Prop} {n:Nat} (h:p n):p (oY p)∧∀ k,p k→oY p≤k:=by
 have hx:=aoG n h
 unfold oY
 rw [dif_pos hx]
 exact Classical.choose_spec hx
end
end Go.Avc
namespace Go.Avc
set_option linter.unusedVariables false
set_option linter.unusedSimpArgs false
def tA (P:Program) (s:AS):ResultVar→Option SV
 | .tmp t=>some (aH s.tm t)
 | .cell a T=>(match aH s.tm a with
  | .ptr b c=>(match Ad P s.hp T (.ptr b c) with | .val sv=>some sv | _=>none)
  | _=>none)
def md (P:Program) (s:AS):List ResultVar→Option (List SV)
 | [] =>some []
 | r::rs=>(match tA P s r,md P s rs with | some x,some xs=>some (x::xs) | _,_=>none)
def Ic (P:Program) (s:AS) (rs:List ResultVar):Option SV:=
 match md P s rs with | some [x] =>some x | some xs=>some (.tup xs) | none=>none
section
variable {C:Ctx} {E B:Ent} {Im:Nat→Prop} {ι:Nat→Option Value} {w:World}
theorem HJ {P:Program} {x:Sem Value} {v:Value} {w':World} (h:(do let y ← x;pure (.value y):Sem Next).run P w= .ok (.value v) w'):x.run P w= .ok v w':=by
 simp only [Sem.run_bind] at h
 cases hx:x.run P w with
 | ok u w1=>rw [hx] at h;simpa [Result.andThen] using h
 | halt y w1=>rw [hx] at h;cases h
theorem Sl {s:AS} {a:Act} (hR:Rel C E s Im ι a w) {r:ResultVar} {sv:SV} (h:tA C.P s r=some sv):
  ∃ v,((match r with | .tmp t=>pure (a.tmps.getD t undef) | .cell p T=>do loadVar T (← asAddr (a.tmps.getD p undef)):Sem Value)).run C.P w= .ok v w∧VRel Im ι w sv v:=by
 cases r with
 | tmp t=>
  simp only [tA,ada] at h
  subst h
  exact ⟨_,rfl,hR.tm t⟩
 | cell p T=>
  simp only [tA] at h
  split at h
  ·rename_i b c hp
   have hv:=hR.tm p
   rw [hp] at hv
   have hs:=Eu (P:=C.P) (T:=T) hR.mem.hv hv
   split at h
   ·rename_i sv' hl
    cases h
    rw [hl] at hs
    obtain ⟨v,h1,h2⟩:=hs
    obtain ⟨r,h3,h4⟩:=hv
    refine ⟨v,?_,h2⟩
    have:=HJ h1
    rw [h4] at this
    show (do loadVar T (← asAddr (a.tmps.getD p undef)):Sem Value).run C.P w=_
    rw [h4]
    exact this
   ·cases h
  ·cases h
theorem EE {s:AS} {a:Act} (hR:Rel C E s Im ι a w):∀ {rs:List ResultVar} {svs:List SV},md C.P s rs=some svs→
  ∃ vs,(rs.mapM (fun r=>(match r with | .tmp t=>pure (a.tmps.getD t undef) | .cell p T=>do loadVar T (← asAddr (a.tmps.getD p undef)):Sem Value))).run C.P w= .ok vs w∧VRels Im ι w svs vs
 | [],svs,h=>by
  simp only [md,ada] at h
  subst h
  exact ⟨[],by simp,rfl⟩
 | r::rs,svs,h=>by
  simp only [md] at h
  split at h
  ·rename_i x xs h1 h2
   cases h
   obtain ⟨v,g1,g2⟩:=Sl hR h1
   obtain ⟨vs,g3,g4⟩:=EE hR h2
   refine ⟨v::vs,?_,v,vs,rfl,g2,g4⟩
   rw [List.mapM_cons]
   simp only [Sem.run_bind,g1,Result.andThen,g3]
   rfl
  ·cases h
theorem Hv {s:AS} {a:Act} (hR:Rel C E s Im ι a w) {fn:Func} {sv:SV} (h:Ic C.P s fn.results.toList=some sv):∃ v,(results fn a.tmps).run C.P w= .ok v w∧VRel Im ι w sv v:=by
 unfold Ic at h
 cases hs:md C.P s fn.results.toList with
 | none=>rw [hs] at h;cases h
 | some svs=>
  rw [hs] at h
  obtain ⟨vs,h1,h2⟩:=EE hR hs
  have h3:(results fn a.tmps).run C.P w= .ok (if h:vs.toArray.size=1 then vs.toArray[0] else .tuple vs.toArray) w:=by
   unfold results
   rw [Array.mapM_eq_mapM_toList]
   simp only [Sem.run_bind,map_eq_pure_bind]
   erw [h1]
   rfl
  refine ⟨_,h3,?_⟩
  match svs,h2,h with
  | [],h2,h=>
   cases (show vs= [] from h2)
   cases h
   exact ⟨[],rfl,rfl⟩
  | [x],h2,h=>
   obtain ⟨v,vs',rfl,h4,h5⟩:=h2
   cases (show vs'= [] from h5)
   cases h
   exact h4
  | x::y::l,h2,h=>
   obtain ⟨v,vs',rfl,h4,v',vs'',rfl,h6⟩:=h2
   cases h
   rw [dif_neg (by simp)]
   exact ⟨_,rfl,v,_,rfl,h4,v',_,rfl,h6⟩
theorem ue:∀ (l m:List SV) (t:Nat),aH (l++m) t=if t<l.length then aH l t else aH m (t-l.length)
 | [],m,t=>by simp
 | x::l,m,0=>by simp [aH]
 | x::l,m,t+1=>by
  simp only [List.cons_append,aH,ue l m t,List.length_cons,Nat.succ_lt_succ_iff,Nat.add_lt_add_iff_right,Nat.add_sub_add_right]
theorem vL (n t:Nat) (x:SV):aH (ab0 n x) t=if t<n then x else .dead:=by
 induction n generalizing t with
 | zero=>simp [aH]
 | succ n ih=>
  cases t with
  | zero=>simp [ab0,aH]
  | succ t=>simp [ab0,aH,ih]
theorem xf:∀ {svs:List SV} {vs:List Value},VRels Im ι w svs vs→∀ t,t<svs.length→∃ v,vs[t]? =some v∧VRel Im ι w (aH svs t) v
 | [],vs,h,t,ht=>by simp at ht
 | s::svs,vs,h,0,_=>by
  obtain ⟨v,vs',rfl,h1,h2⟩:=h
  exact ⟨v,rfl,h1⟩
 | s::svs,vs,h,t+1,ht=>by
  obtain ⟨v,vs',rfl,h1,h2⟩:=h
  simpa [aH] using xf h2 t (by simpa using ht)
theorem kN:∀ {svs:List SV} {vs:List Value},VRels Im ι w svs vs→vs.length=svs.length
 | [],vs,h=>by cases (show vs= [] from h);rfl
 | s::svs,vs,h=>by
  obtain ⟨v,vs',rfl,h1,h2⟩:=h
  simp [kN h2]
end
end Go.Avc
namespace Go.Avc
set_option linter.unusedVariables false
set_option linter.unusedSimpArgs false
mutual
def SV.ren (ρ:Nat→Nat):SV→SV
 | .agg cs=> .agg (renL ρ cs)
 | .ptr b c=> .ptr (ρ b) c
 | .aptr b c i=> .aptr (ρ b) c i
 | .own b=> .own (ρ b)
 | .lit b=> .lit (ρ b)
 | .win b c N lo n=> .win (ρ b) c N lo n
 | .optr b sz i c=> .optr (ρ b) sz i c
 | .ow b sz lo n=> .ow (ρ b) sz lo n
 | .fn f cs=> .fn f (renL ρ cs)
 | .fb f cs=> .fb f (renL ρ cs)
 | .tup cs=> .tup (renL ρ cs)
 | .sls cs=> .sls (renL ρ cs)
 | .iface t v=> .iface t (v.ren ρ)
 | s=>s
def renL (ρ:Nat→Nat):List SV→List SV
 | [] => []
 | s::cs=>s.ren ρ::renL ρ cs
end
def Blk.ren (ρ:Nat→Nat):Blk→Blk
 | .cells T cs=> .cells T (renL ρ cs)
 | b=>b
theorem J1 (ρ:Nat→Nat):∀ cs:List SV,(renL ρ cs).length=cs.length
 | [] =>rfl
 | s::cs=>by simp [renL,J1 ρ cs]
theorem wz (ρ:Nat→Nat) (b:Blk):aM (b.ren ρ)=aM b:=by cases b <;>rfl
section
variable {Im:Nat→Prop} {ι ι':Nat→Option Value} {w:World} {ρ:Nat→Nat}
mutual
theorem VRel.ren:∀ (s:SV) (v:Value),(∀ b∈s.hs,ι' (ρ b)=ι b)→(VRel Im ι' w (s.ren ρ) v↔VRel Im ι w s v)
 | .dead,v,h=>Iff.rfl
 | .int ..,v,h=>Iff.rfl
 | .bool _,v,h=>Iff.rfl
 | .str _,v,h=>Iff.rfl
 | .agg cs,v,h=>by
  have ih:=fun vs=>CellsRel.ren cs vs h
  simp only [SV.ren,VRel,ih]
 | .arrI ..,v,h=>Iff.rfl
 | .arrB ..,v,h=>Iff.rfl
 | .nilp,v,h=>Iff.rfl
 | .nilf,v,h=>Iff.rfl
 | .ptr b c,v,h=>by
  have:=h b (by simp [SV.hs,SV.h1])
  simp only [SV.ren,VRel,this]
 | .aptr b c i,v,h=>by
  have:=h b (by simp [SV.hs,SV.h1])
  simp only [SV.ren,VRel,this]
 | .rd e l,v,h=>Iff.rfl
 | .rdc e l,v,h=>Iff.rfl
 | .e0,v,h=>Iff.rfl
 | .nils,v,h=>Iff.rfl
 | .own b,v,h=>by
  have:=h b (by simp [SV.hs,SV.h1])
  simp only [SV.ren,VRel,this]
 | .lit b,v,h=>by
  have:=h b (by simp [SV.hs,SV.h1])
  simp only [SV.ren,VRel,this]
 | .win b c N lo n,v,h=>by
  have:=h b (by simp [SV.hs,SV.h1])
  simp only [SV.ren,VRel,this]
 | .eptr ..,v,h=>Iff.rfl
 | .optr b sz i c,v,h=>by
  have:=h b (by simp [SV.hs,SV.h1])
  simp only [SV.ren,VRel,this]
 | .ow b sz lo n,v,h=>by
  have:=h b (by simp [SV.hs,SV.h1])
  simp only [SV.ren,VRel,this]
 | .fn f cs,v,h=>by
  have ih:=fun vs=>VRels.ren cs vs h
  simp only [SV.ren,VRel,ih]
 | .fb f cs,v,h=>by
  have ih:=fun vs=>VRels.ren cs vs h
  simp only [SV.ren,VRel,ih]
 | .tup cs,v,h=>by
  have ih:=fun vs=>VRels.ren cs vs h
  simp only [SV.ren,VRel,ih]
 | .sls cs,v,h=>by
  have ih:=fun vs=>VRels.ren cs vs h
  simp only [SV.ren,VRel,ih,J1]
 | .nili,v,h=>Iff.rfl
 | .iface t s,v,h=>by
  have ih:=fun v=>VRel.ren s v h
  simp only [SV.ren,VRel,ih]
 | .val _,v,h=>Iff.rfl
theorem CellsRel.ren:∀ (cs:List SV) (vs:List Value),(∀ b∈hsL cs,ι' (ρ b)=ι b)→(CellsRel Im ι' w (renL ρ cs) vs↔CellsRel Im ι w cs vs)
 | [],vs,h=>Iff.rfl
 | s::cs,vs,h=>by
  have ih1:=fun v=>VRel.ren s v (fun b hb=>h b (by simp [hsL,hb]))
  have ih2:=fun vs=>CellsRel.ren cs vs (fun b hb=>h b (by simp [hsL,hb]))
  cases s with
  | arrI n k l=>
   simp only [renL,SV.ren,CellsRel]
   simp only [ih2]
  | arrB n l=>
   simp only [renL,SV.ren,CellsRel]
   simp only [ih2]
  | _=>
   simp only [SV.ren] at ih1
   simp only [renL,SV.ren,CellsRel]
   simp only [ih1,ih2]
theorem VRels.ren:∀ (cs:List SV) (vs:List Value),(∀ b∈hsL cs,ι' (ρ b)=ι b)→(VRels Im ι' w (renL ρ cs) vs↔VRels Im ι w cs vs)
 | [],vs,h=>Iff.rfl
 | s::cs,vs,h=>by
  have ih1:=fun v=>VRel.ren s v (fun b hb=>h b (by simp [hsL,hb]))
  have ih2:=fun vs=>VRels.ren cs vs (fun b hb=>h b (by simp [hsL,hb]))
  simp only [renL,VRels,ih1,ih2]
end
theorem BRel.ren {blk:Blk} {v:Value} (h:∀ b∈blk.hs,ι' (ρ b)=ι b):BRel Im ι' w (blk.ren ρ) v↔BRel Im ι w blk v:=by
 cases blk with
 | cells T cs=>
  have ih:=fun vs=>CellsRel.ren (Im:=Im) (w:=w) cs vs h
  simp only [Blk.ren,BRel,ih]
 | _=>exact Iff.rfl
end
end Go.Avc
namespace Go.Avc
set_option linter.unusedVariables false
set_option linter.unusedSimpArgs false
def aeG (σ:List Nat) (n:Nat) (keep:List Nat) (i:Nat):Nat:=if i<σ.length then σ.getD i 0 else n+keep.idxOf i
structure Fit (σ:List Nat) (hp hp' hpl':List Blk) (sv:SV) (keep:List Nat):Prop where
 nodup:keep.Nodup
 past:∀ i∈keep,σ.length≤i
 len:hp'.length=hp.length+keep.length
 res:∀ b∈sv.hs,b<σ.length∨b∈keep
 old:∀ i,i<σ.length→hp'.getD (σ.getD i 0) .none= .none∨(hp'.getD (σ.getD i 0) .none=(hpl'.getD i .none).ren (aeG σ hp.length keep)∧∀ b∈(hpl'.getD i .none).hs,b<σ.length∨b∈keep)
 new:∀ i,i∈keep→hp'.getD (hp.length+keep.idxOf i) .none=(hpl'.getD i .none).ren (aeG σ hp.length keep)∧∀ b∈(hpl'.getD i .none).hs,b<σ.length∨b∈keep
 oth:∀ b,b<hp.length→b∉σ→hp'.getD b .none=hp.getD b .none
section
variable {C:Ctx}
end
end Go.Avc
namespace Go.Avc
set_option linter.unusedVariables false
set_option linter.unusedSimpArgs false
structure GE where
 t:Nat
 d:Nat
 want:Bool
 c:Bool
 sv:SV
structure ES where
 n:Nat
 ov:List (Nat×SV)
 tm:List SV
 hp:List Blk
 G:List GE
def rU:List (Nat×SV)→List SV→Nat→SV
 | [],tm,t=>aH tm t
 | (d,v)::ov,tm,t=>bif asM d t then v else rU ov tm t
def aP:List (Nat×SV)→List SV→List SV
 | [],tm=>tm
 | (d,v)::ov,tm=>lZ (aP ov tm) d v
def ES.as (s:ES):AS:=⟨aP s.ov s.tm,s.hp⟩
def ES.ev (glob:Nat→Option SV) (s:ES):Operand→SV
 | .tmp t=>rU s.ov s.tm t
 | .const v=>ur v
 | .global g=>(glob g).getD .dead
 | .func f=> .fn f []
def bw:Bool→Bool→Bool
 | true,b=>b
 | false,b=> !b
def aW (tm:List SV) (d:Nat) (want:Bool):Bool:=match aH tm d with | .bool b=>bw want b | _=>false
def GInv (tm:List SV) (G:List GE):Prop:=∀ g∈G,g.c=aW tm g.d g.want∧aH tm g.t=bif g.c then g.sv else .undef
structure ES.Ok (s:ES):Prop where
 len:s.n=s.tm.length
 ov:∀ p∈s.ov,p.1<s.tm.length
 g:GInv s.as.tm s.G
 gt:∀ g∈s.G,g.t<s.tm.length
def b8 (sv:SV) (K:SV→Prop):Prop:=
 match sv with
 | .dead=>K .dead
 | .int k n=>K (.int k n)
 | .bool b=>K (.bool b)
 | .str l=>K (.str l)
 | .agg cs=>K (.agg cs)
 | .arrI n k l=>K (.arrI n k l)
 | .arrB n l=>K (.arrB n l)
 | .nilp=>K .nilp
 | .nilf=>K .nilf
 | .ptr b c=>K (.ptr b c)
 | .aptr b c i=>K (.aptr b c i)
 | .rd e l=>K (.rd e l)
 | .rdc e l=>K (.rdc e l)
 | .e0=>K .e0
 | .nils=>K .nils
 | .own b=>K (.own b)
 | .lit b=>K (.lit b)
 | .win b c N lo n=>K (.win b c N lo n)
 | .eptr e l i c=>K (.eptr e l i c)
 | .optr b sz i c=>K (.optr b sz i c)
 | .ow b sz lo n=>K (.ow b sz lo n)
 | .fn f caps=>K (.fn f caps)
 | .fb f caps=>K (.fb f caps)
 | .tup vs=>K (.tup vs)
 | .sls vs=>K (.sls vs)
 | .nili=>K .nili
 | .iface t v=>K (.iface t v)
 | .val v=>K (.val v)
theorem bd (sv:SV) (K:SV→Prop):b8 sv K=K sv:=by cases sv <;>rfl
def Eo:List GE→Nat→Bool
 | [],_=>true
 | g::G,d=> !asM g.t d&&(!asM g.d d&&Eo G d)
def wx:List GE→Nat→List GE
 | [],_=> []
 | g::G,d=>bif asM g.t d||asM g.d d then wx G d else g::wx G d
def cj (s:ES) (dst:Option Tmp) (sv:SV) (K:ES→Prop):Prop:=
 match dst,s with
 | none,s=>K s
 | some d,⟨n,ov,tm,hp,G⟩=>bif awj d n then (bif Eo G d then K ⟨n,(d,sv)::ov,tm,hp,G⟩ else K ⟨n,(d,sv)::ov,tm,hp,wx G d⟩) else False
def pH (s:ES) (dst:Option Tmp) (d:Nat) (want c:Bool) (sv:SV) (K:ES→Prop):Prop:=
 match dst with
 | none=>K s
 | some t=>bif asM d t then False else cj s (some t) (bif c then sv else .undef) fun s=>match s with | ⟨n,ov,tm,hp,G⟩=>K ⟨n,ov,tm,hp,⟨t,d,want,c,sv⟩::G⟩
def GE.is (g:GE) (t d:Nat) (want:Bool):Bool:=asM g.t t&&(asM g.d d&&bw g.want want)
def Ap:List GE→Nat→Nat→Bool→Option SV
 | [],_,_,_=>none
 | g::G,t,d,want=>bif g.is t d want then some g.sv else Ap G t d want
def ym:List GE→Nat→Option GE
 | [],_=>none
 | g::G,t=>bif asM g.t t then some g else ym G t
def Bt (G:List GE) (t:Nat):Nat→Nat→Bool→Option SV
 | 0,_,_=>none
 | k+1,d,want=>match Ap G t d want with
  | some sv=>some sv
  | none=>match ym G d with | some g=>Bt G t k g.d g.want | none=>none
def ES.evG (glob:Nat→Option SV) (s:ES) (d:Nat) (want:Bool):Operand→SV
 | .tmp t=>match Bt s.G t 6 d want with | some sv=>sv | none=>rU s.ov s.tm t
 | .const v=>ur v
 | .global g=>(glob g).getD .dead
 | .func f=> .fn f []
def Il (s:ES) (d:Nat) (want:Bool):Option Bool:=
 match ym s.G d with
 | some g=>match g.sv with | .bool b=>some (g.c&&bw want b) | _=>none
 | none=>match rU s.ov s.tm d with | .bool b=>some (bw want b) | .tup [] =>some false | _=>none
def mA:List GE→Nat→Bool→(List (Nat×SV)×List GE)
 | [],_,_=>([],[])
 | g::G,d,want=>match mA G d want with
  | (ov,G')=>bif asM g.d d&&bw g.want want then ((g.t,g.sv)::ov,G') else (bif asM g.t d then (ov,G') else (ov,g::G'))
def ES.tellT (s:ES) (d:Nat) (want:Bool):ES:=
 match s with
 | ⟨n,ov,tm,hp,G⟩=>match mA G d want with | (ov',G')=>bif awj d n then ⟨n,(d,.bool want)::(ov'++ov),tm,hp,G'⟩ else ⟨n,ov,tm,hp,G⟩
def ES.tellF (s:ES) (d:Nat) (want:Bool):ES:=
 match s with
 | ⟨n,ov,tm,hp,G⟩=>match ym G d with
  | some _=>⟨n,ov,tm,hp,G⟩
  | none=>match rU ov tm d with
   | .bool _=>(match mA G d (!want) with | (ov',G')=>⟨n,(d,.bool (!want))::(ov'++ov),tm,hp,G'⟩)
   | _=>⟨n,ov,tm,hp,G⟩
def Th (b:Bool) (x y:Operand) (u v:SV):Option SV:=
 match u,v with
 | .bool p,.bool q=>some (match x,y with
  | .const (.bool true),_=> .bool (b||q)
  | _,.const (.bool false)=> .bool (b&&p)
  | .const (.bool false),_=> .bool (!b&&q)
  | _,.const (.bool true)=> .bool (!b||p)
  | _,_=> .bool (bif b then p else q))
 | .int k p,.int k' q=>if k=k' then some (.int k (bif b then p else q)) else none
 | .str p,.str q=>some (.str (bif b then p else q))
 | _,_=>none
def uG (G:List GE) (ρ:Operand→SV) (d:Nat) (want:Bool):Operand→SV
 | .tmp t=>(match Bt G t 6 d want with | some sv=>sv | none=>ρ (.tmp t))
 | z=>ρ z
def At (s:ES) (ρ:Operand→SV) (c x y:Operand):Option SV:=
 match c with
 | .tmp d=>(match ρ (.tmp d) with
  | .bool b=>Th b x y (uG s.G ρ d true x) (uG s.G ρ d false y)
  | _=>none)
 | _=>none
section
variable (C:Ctx)
def yi (s:ES) (dst:Option Tmp) (K:ES→Prop):OR→Prop
 | .bad=>False
 | .need p r=>p∧yi s dst K r
 | .know p r=>p→yi s dst K r
 | .split b r1 r2=>bif b then yi s dst K r1 else yi s dst K r2
 | .val sv=>b8 sv fun sv=>cj s dst sv K
 | .newRo sv=>b8 sv fun sv=>cj s dst sv K
 | .new T cs=>(match s with | ⟨n,ov,tm,hp,G⟩=>cj ⟨n,ov,tm,hp++ [.cells T cs],G⟩ dst (.ptr hp.length 0) K)
 | .newOwn true T e l=>(match s with | ⟨n,ov,tm,hp,G⟩=>cj ⟨n,ov,tm,hp++ [.own T e l],G⟩ dst (.lit hp.length) K)
 | .newOwn false T e l=>(match s with | ⟨n,ov,tm,hp,G⟩=>cj ⟨n,ov,tm,hp++ [.own T e l],G⟩ dst (.own hp.length) K)
 | .upd b blk=>bif aM (s.hp.getD b .none) then (match s with | ⟨n,ov,tm,hp,G⟩=>cj ⟨n,ov,tm,hp.set b blk,G⟩ dst .undef K) else False
 | .cpy b blk=>bif aM (s.hp.getD b .none) then (match s with | ⟨n,ov,tm,hp,G⟩=>cj ⟨n,ov,tm,hp.set b blk,G⟩ dst .dead K) else False
 | .app b T e l=>bif aM (s.hp.getD b .none) then (match s with | ⟨n,ov,tm,hp,G⟩=>cj ⟨n,ov,tm,hp.set b .none++ [.own T e l],G⟩ dst (.own hp.length) K) else False
 | .frz b sv=>bif aM (s.hp.getD b .none) then (match s with | ⟨n,ov,tm,hp,G⟩=>b8 sv fun sv=>cj ⟨n,ov,tm,hp.set b .none,G⟩ dst sv K) else False
 | .anyB f=>∀ β,f β→cj s dst (.bool β) K
 | .call f svs=>(C.spec f svs s.hp).wp s.hp fun sv hp'=>b8 sv fun sv=>match s with | ⟨n,ov,tm,_,G⟩=>cj ⟨n,ov,tm,hp',G⟩ dst sv K
def x9 (s:ES) (dst:Option Tmp) (d:Nat) (want c:Bool) (K:ES→Prop):CR→Prop
 | .bad=>(c=true→False)∧cj s dst .undef K
 | .need p r=>(c=true→p)∧x9 s dst d want c K r
 | .know p r=>(c=true→p)→x9 s dst d want c K r
 | .ret sv [] [] =>b8 sv fun sv=>pH s dst d want c sv K
 | .ret sv upd news=>(c=true→b8 sv fun sv=>match s.tellT d want with | ⟨n,ov,tm,hp,G⟩=>cj ⟨n,ov,tm,bq hp upd++news,G⟩ dst sv K)∧(c=false→cj (s.tellF d want) dst .undef K)
 | .anyI f=>∀ n,x9 s dst d want c K (f n)
 | .anyB f=>∀ n,x9 s dst d want c K (f n)
 | .anyL f=>∀ n,x9 s dst d want c K (f n)
 | .ite b r1 r2=>bif b then x9 s dst d want c K r1 else x9 s dst d want c K r2
def JW (s:ES) (dst:Option Tmp) (d:Nat) (want c:Bool) (K:ES→Prop):OR→Prop
 | .bad=>(c=true→False)∧cj s dst .undef K
 | .need p r=>(c=true→p)∧JW s dst d want c K r
 | .know p r=>(c=true→p)→JW s dst d want c K r
 | .val sv=>b8 sv fun sv=>pH s dst d want c sv K
 | .newRo sv=>b8 sv fun sv=>pH s dst d want c sv K
 | .anyB f=>∀ β,(c=true→f β)→pH s dst d want c (.bool β) K
 | .call f svs=>x9 s dst d want c K (C.spec f svs s.hp)
 | r=>(c=true→yi C (s.tellT d want) dst K r)∧(c=false→cj (s.tellF d want) dst .undef K)
def pk (all:Array Oper):List Oper→ES→(ES→Prop)→Prop
 | [],s,K=>K s
 | o::rest,s,K=>
  match o.guard with
  | none=>(match o.op with
   | .pick c x y=>(match At s (s.ev C.glob) c x y with
    | some sv=>b8 sv fun sv=>cj s o.dst sv fun s=>pk all rest s K
    | none=>yi C s o.dst (fun s=>pk all rest s K) (iL C.P C.zero (s.ev C.glob) s.hp (.pick c x y)))
   | op=>yi C s o.dst (fun s=>pk all rest s K) (iL C.P C.zero (s.ev C.glob) s.hp op))
  | some (j,want)=>(match (all[j]?).bind (·.dst) with
   | some d=>(match Il s d want with
    | some c=>(match o.op with
     | .pick c0 x y=>(match At s (s.evG C.glob d want) c0 x y with
      | some sv=>b8 sv fun sv=>pH s o.dst d want c sv fun s=>pk all rest s K
      | none=>JW C s o.dst d want c (fun s=>pk all rest s K) (iL C.P C.zero (s.evG C.glob d want) s.hp (.pick c0 x y)))
     | op=>JW C s o.dst d want c (fun s=>pk all rest s K) (iL C.P C.zero (s.evG C.glob d want) s.hp op))
    | none=>False)
   | none=>False)
end
theorem aE {a b:Nat} :asM a b=true↔a=b:=⟨Nat.eq_of_beq_eq_true,fun h=>by subst h;exact Nat.beq_refl a⟩
theorem fO {a b:Nat} :asM a b=false↔a≠b:=by
 rw [← Bool.not_eq_true,aE]
theorem mQ {a b:Nat} :awj a b=true↔a<b:=by
 unfold awj;rw [awk];omega
theorem FV {a b:Bool} :bw a b=true↔a=b:=by cases a <;>cases b <;>simp [bw]
theorem fu:∀ (ov:List (Nat×SV)) (tm:List SV),(aP ov tm).length=tm.length
 | [],_=>rfl
 | (d,v)::ov,tm=>by simp [aP,gu,fu ov tm]
theorem mX:∀ (ov:List (Nat×SV)) (tm:List SV),(∀ p∈ov,p.1<tm.length)→∀ t,rU ov tm t=aH (aP ov tm) t
 | [],_,_,_=>rfl
 | (d,v)::ov,tm,h,t=>by
  have hd:d<(aP ov tm).length:=by rw [fu];exact h (d,v) (by simp)
  unfold rU aP
  cases hb:asM d t with
  | true=>cases aE.1 hb;simp [jh _ _ _ hd]
  | false=>
   rw [eK _ _ _ _ (fO.1 hb)]
   exact mX ov tm (fun p hp=>h p (by simp [hp])) t
theorem ES.ev_eq {s:ES} (h:s.Ok) (glob:Nat→Option SV):s.ev glob=s.as.ev glob:=by
 funext x
 cases x with
 | tmp t=>exact mX _ _ h.ov t
 | _=>rfl
theorem BD:∀ {G:List GE} {d:Nat},Eo G d=true→∀ g∈G,g.t≠d∧g.d≠d
 | [],_,_,g,hg=>by simp at hg
 | g0::G,d,h,g,hg=>by
  simp only [Eo,cZ,atf] at h
  rcases atH.1 hg with rfl | hg
  ·exact ⟨fO.1 h.1,fO.1 h.2.1⟩
  ·exact BD h.2.2 g hg
theorem qq:∀ {G:List GE} {d:Nat},∀ g∈wx G d,g∈G∧g.t≠d∧g.d≠d
 | [],_,g,hg=>by simp [wx] at hg
 | g0::G,d,g,hg=>by
  unfold wx at hg
  cases hb:(asM g0.t d||asM g0.d d) with
  | true=>rw [hb] at hg;have:=qq g hg;exact ⟨by simp [this.1],this.2⟩
  | false=>
   rw [hb] at hg
   simp only [ate] at hb
   rcases atH.1 hg with rfl | hg
   ·exact ⟨by simp,fO.1 hb.1,fO.1 hb.2⟩
   ·have:=qq g hg;exact ⟨by simp [this.1],this.2⟩
theorem GInv.put {tm:List SV} {G G':List GE} (h:GInv tm G) {d:Nat} {sv:SV} (h':∀ g∈G',g∈G∧g.t≠d∧g.d≠d):GInv (lZ tm d sv) G':=fun g hg=>by
 obtain ⟨h1,h2,h3⟩:=h' g hg
 obtain ⟨h4,h5⟩:=h g h1
 refine ⟨?_,?_⟩
 ·rw [h4];unfold aW;rw [eK _ _ _ _ (Ne.symm h3)]
 ·rw [eK _ _ _ _ (Ne.symm h2)];exact h5
theorem CG {s:ES} (hs:s.Ok) {dst:Option Tmp} {sv:SV} {K:ES→Prop} (h:cj s dst sv K):∃ s',s'.Ok∧s'.as=s.as.put dst sv∧K s'∧(∀ d,dst=some d→s'.n=s.n∧d<s.tm.length∧∀ g∈s'.G,g.t≠d∧g.d≠d):=by
 obtain ⟨n,ov,tm,hp,G⟩:=s
 cases dst with
 | none=>exact ⟨_,hs,rfl,h,fun d hd=>by cases hd⟩
 | some d=>
  simp only [cj] at h
  cases hb:awj d n with
  | false=>rw [hb] at h;exact h.elim
  | true=>
   rw [hb] at h
   have hlen:n=tm.length:=hs.len
   have hd:d<tm.length:=by rw [← hlen];exact mQ.1 hb
   have hov:∀ p∈(d,sv)::ov,p.1<tm.length:=fun p hp=>by
    rcases atH.1 hp with rfl | hp
    ·exact hd
    ·exact hs.ov p hp
   cases hf:Eo G d with
   | true=>
    rw [hf] at h
    have hG:=fun g hg=>BD hf g hg
    exact ⟨⟨n,(d,sv)::ov,tm,hp,G⟩,⟨hlen,hov,GInv.put (tm:=aP ov tm) hs.g fun g hg=>⟨hg,hG g hg⟩,hs.gt⟩,rfl,h,fun d' e=>by cases e;exact ⟨rfl,hd,hG⟩⟩
   | false=>
    rw [hf] at h
    exact ⟨⟨n,(d,sv)::ov,tm,hp,wx G d⟩,⟨hlen,hov,GInv.put (tm:=aP ov tm) hs.g fun g hg=>qq g hg,fun g hg=>hs.gt g (qq g hg).1⟩,rfl,h,fun d' e=>by cases e;exact ⟨rfl,hd,fun g hg=>(qq g hg).2⟩⟩
theorem Kk {s:ES} (hs:s.Ok) {dst:Option Tmp} {d:Nat} {want c:Bool} (hc:c=aW s.as.tm d want) {sv:SV} {K:ES→Prop} (h:pH s dst d want c sv K):∃ s',s'.Ok∧s'.as=s.as.put dst (bif c then sv else .undef)∧K s':=by
 cases dst with
 | none=>exact ⟨_,hs,rfl,h⟩
 | some t=>
  simp only [pH] at h
  cases hb:asM d t with
  | true=>rw [hb] at h;exact h.elim
  | false=>
   simp only [hb,cond_false] at h
   have hne:=fO.1 hb
   obtain ⟨⟨n,ov,tm,hp,G⟩,h1,h2,h3,h4⟩:=CG hs h
   obtain ⟨_,htlt,_⟩:=h4 t rfl
   have htm:aP ov tm=lZ (aP s.ov s.tm) t (bif c then sv else .undef):=congrArg AS.tm h2
   refine ⟨⟨n,ov,tm,hp,⟨t,d,want,c,sv⟩::G⟩,⟨h1.len,h1.ov,fun g hg=> ?_,fun g hg=> ?_⟩,h2,h3⟩
   rotate_left
   ·have hl:s.tm.length=tm.length:=by
     have:=congrArg List.length htm
     rw [gu,fu,fu] at this
     exact this.symm
    rcases atH.1 hg with rfl | hg
    ·rw [hl] at htlt;exact htlt
    ·exact h1.gt g hg
   rcases atH.1 hg with rfl | hg
   ·refine ⟨?_,?_⟩
    ·show c=aW (aP ov tm) d want
     rw [htm];unfold aW;rw [eK _ _ _ _ (Ne.symm hne)];exact hc
    ·show aH (aP ov tm) t=_
     rw [htm,jh _ _ _ (by rw [fu];exact htlt)]
   ·exact h1.g g hg
theorem HC:∀ {G:List GE} {t d:Nat} {want:Bool} {sv:SV},Ap G t d want=some sv→∃ g∈G,g.t=t∧g.d=d∧g.want=want∧g.sv=sv
 | [],_,_,_,_,h=>by simp [Ap] at h
 | g::G,t,d,want,sv,h=>by
  unfold Ap at h
  cases hb:g.is t d want with
  | true=>
   rw [hb] at h
   simp only [GE.is,cZ] at hb
   exact ⟨g,by simp,aE.1 hb.1,aE.1 hb.2.1,FV.1 hb.2.2,by simpa using h⟩
  | false=>
   rw [hb] at h
   obtain ⟨g',h1,h2⟩:=HC h
   exact ⟨g',by simp [h1],h2⟩
theorem B8:∀ {G:List GE} {t:Nat} {g:GE},ym G t=some g→g∈G∧g.t=t
 | [],_,_,h=>by simp [ym] at h
 | g0::G,t,g,h=>by
  unfold ym at h
  cases hb:asM g0.t t with
  | true=>rw [hb] at h;simp at h;subst h;exact ⟨by simp,aE.1 hb⟩
  | false=>rw [hb] at h;have:=B8 h;exact ⟨by simp [this.1],this.2⟩
theorem TN {tm:List SV} {g:GE} (h:g.c=aW tm g.d g.want∧aH tm g.t=bif g.c then g.sv else .undef) {want:Bool} (hg:aW tm g.t want=true):g.c=true:=by
 cases hc:g.c with
 | true=>rfl
 | false=>
  have h2:=h.2
  rw [hc] at h2
  unfold aW at hg
  rw [h2] at hg
  cases hg
theorem Cp {tm:List SV} {G:List GE} (h:GInv tm G) {t:Nat} :∀ {k d:Nat} {want:Bool} {sv:SV},Bt G t k d want=some sv→aW tm d want=true→aH tm t=sv
 | 0,_,_,_,e,_=>by simp [Bt] at e
 | k+1,d,want,sv,e,hg=>by
  unfold Bt at e
  cases hf:Ap G t d want with
  | some sv'=>
   rw [hf] at e
   cases e
   obtain ⟨g,h1,h2,h3,h4,h5⟩:=HC hf
   obtain ⟨h6,h7⟩:=h g h1
   rw [h3,h4,hg] at h6
   rw [← h2,h7,h6,← h5]
   rfl
  | none=>
   rw [hf] at e
   cases hn:ym G d with
   | none=>rw [hn] at e;cases e
   | some g=>
    rw [hn] at e
    obtain ⟨h1,h2⟩:=B8 hn
    have h3:=h g h1
    have hc:=TN h3 (want:=want) (by rw [h2];exact hg)
    exact Cp h e (by rw [← h3.1];exact hc)
theorem ES.evG_eq {s:ES} (h:s.Ok) (glob:Nat→Option SV) {d:Nat} {want:Bool} (hg:aW s.as.tm d want=true):s.evG glob d want=s.as.ev glob:=by
 funext x
 cases x with
 | tmp t=>
  simp only [ES.evG]
  split
  ·rename_i sv hl
   exact (Cp h.g hl hg).symm
  ·exact mX _ _ h.ov t
 | _=>rfl
theorem LL {s:ES} (h:s.Ok) {d:Nat} {want c:Bool} (e:Il s d want=some c):c=aW s.as.tm d want∧(c=false→(∃ b,aH s.as.tm d= .bool b)∨aH s.as.tm d= .undef):=by
 unfold Il at e
 split at e
 ·rename_i g hg
  split at e
  ·rename_i b hb
   cases e
   obtain ⟨h1,h2⟩:=B8 hg
   obtain ⟨h3,h4⟩:=h.g g h1
   rw [h2,hb] at h4
   unfold aW
   cases hc:g.c with
   | true=>rw [hc] at h4;simp only [cond_true] at h4;rw [h4];exact ⟨rfl,fun _=> .inl ⟨_,rfl⟩⟩
   | false=>rw [hc] at h4;simp only [cond_false] at h4;rw [h4];exact ⟨rfl,fun _=> .inr rfl⟩
  ·cases e
 ·have ho:=mX _ _ h.ov d
  have ho':rU s.ov s.tm d=aH s.as.tm d:=ho
  rw [ho'] at e
  unfold aW
  split at e
  ·rename_i b hb;cases e;rw [hb];exact ⟨rfl,fun _=> .inl ⟨_,rfl⟩⟩
  ·rename_i hb;cases e;rw [hb];exact ⟨rfl,fun _=> .inr rfl⟩
  ·cases e
theorem G7 {tm:List SV} {hp:List Blk} {d:Nat} {want c:Bool} (hc:c=aW tm d want) (hf:c=false→(∃ b,aH tm d= .bool b)∨aH tm d= .undef) {yes no:AS→Prop} (h1:c=true→yes ⟨tm,hp⟩) (h2:c=false→no ⟨tm,hp⟩):Ec want ⟨tm,hp⟩ yes no (some d):=by
 simp only [Ec]
 have hput:∀ b,aH tm d= .bool b→(⟨tm,hp⟩:AS).put (some d) (.bool b)=⟨tm,hp⟩:=fun b hb=>by
  show (⟨lZ tm d (.bool b),hp⟩:AS)=_
  rw [← hb,tX]
 cases hv:aH tm d with
 | bool b=>
  have hc':c=bw want b:=by rw [hc];unfold aW;rw [hv]
  refine ⟨fun e=> ?_,fun e=> ?_⟩
  ·subst e;rw [hput _ hv];exact h1 (by rw [hc'];cases b <;>rfl)
  ·subst e;rw [hput _ hv];exact h2 (by rw [hc'];cases want <;>rfl)
 | tup vs=>
  have hc':c=false:=by rw [hc];unfold aW;rw [hv]
  rcases hf hc' with ⟨b,hb⟩ | hb
  ·rw [hv] at hb;cases hb
  ·rw [hv] at hb;cases hb
   exact h2 hc'
 | _=>
  have hc':c=false:=by rw [hc];unfold aW;rw [hv]
  rcases hf hc' with ⟨b,hb⟩ | hb <;> · rw [hv] at hb;cases hb
theorem CE {tm:List SV} {d:Nat} {want:Bool} (hg:aW tm d want=true):∀ {G:List GE},GInv tm G→(∀ p∈(mA G d want).1,aH tm p.1=p.2∧∃ g∈G,g.t=p.1)∧∀ g∈(mA G d want).2,g∈G
 | [],_=>⟨fun p hp=>by simp [mA] at hp,fun g hg=>by simp [mA] at hg⟩
 | g::G,h=>by
  obtain ⟨ih1,ih2⟩:=CE hg (G:=G) fun g' hg'=>h g' (by simp [hg'])
  obtain ⟨h3,h4⟩:=h g (by simp)
  simp only [mA]
  have ih1':∀ p∈(mA G d want).1,aH tm p.1=p.2∧∃ g'∈g::G,g'.t=p.1:=fun p hp=>by
   obtain ⟨k1,g',k2,k3⟩:=ih1 p hp
   exact ⟨k1,g',by simp [k2],k3⟩
  have ih2':∀ g'∈(mA G d want).2,g'∈g::G:=fun g' hg'=>by simp [ih2 g' hg']
  cases hb:(asM g.d d&&bw g.want want) with
  | true=>
   simp only [cZ] at hb
   refine ⟨fun p hp=> ?_,ih2'⟩
   rcases atH.1 hp with rfl | hp
   ·refine ⟨?_,g,by simp,rfl⟩
    rw [aE.1 hb.1,FV.1 hb.2,hg] at h3
    rw [h4,h3];rfl
   ·exact ih1' p hp
  | false=>
   cases hb2:asM g.t d with
   | true=>exact ⟨ih1',ih2'⟩
   | false=>
    refine ⟨ih1',fun g' hg'=> ?_⟩
    rcases atH.1 hg' with rfl | hg'
    ·simp
    ·exact ih2' g' hg'
theorem zu:∀ {ov' ov:List (Nat×SV)} {tm:List SV},(∀ p∈ov',aH (aP ov tm) p.1=p.2)→aP (ov'++ov) tm=aP ov tm
 | [],_,_,_=>rfl
 | (d,v)::ov',ov,tm,h=>by
  have ih:=zu (ov':=ov') (ov:=ov) (tm:=tm) fun p hp=>h p (by simp [hp])
  show lZ (aP (ov'++ov) tm) d v=_
  have h0:aH (aP ov tm) d=v:=h (d,v) (by simp)
  rw [ih,← h0,tX]
theorem Ns {n:Nat} {ov ov':List (Nat×SV)} {tm:List SV} {hp:List Blk} {G G':List GE} (hs:(⟨n,ov,tm,hp,G⟩:ES).Ok) (h1:∀ p∈ov',aH (aP ov tm) p.1=p.2∧p.1<tm.length) (h2:∀ g∈G',g∈G):(⟨n,ov'++ov,tm,hp,G'⟩:ES).Ok∧(⟨n,ov'++ov,tm,hp,G'⟩:ES).as=(⟨n,ov,tm,hp,G⟩:ES).as:=by
 have e:=zu (ov':=ov') (ov:=ov) (tm:=tm) fun p hp=>(h1 p hp).1
 refine ⟨⟨hs.len,fun p hp=> ?_,fun g hg=> ?_,fun g hg=>hs.gt g (h2 g hg)⟩,?_⟩
 ·rcases List.mem_append.1 hp with hp | hp
  ·exact (h1 p hp).2
  ·exact hs.ov p hp
 ·show g.c=aW (aP (ov'++ov) tm) g.d g.want∧aH (aP (ov'++ov) tm) g.t=_
  rw [e];exact hs.g g (h2 g hg)
 ·show (⟨aP (ov'++ov) tm,hp⟩:AS)=_
  rw [e];rfl
theorem lz {s:ES} (hs:s.Ok) {d:Nat} {want:Bool} (hg:aW s.as.tm d want=true):(s.tellT d want).Ok∧(s.tellT d want).as=s.as:=by
 obtain ⟨n,ov,tm,hp,G⟩:=s
 have key:=CE (tm:=aP ov tm) hg (G:=G) hs.g
 simp only [ES.tellT]
 cases hb:awj d n with
 | false=>exact ⟨hs,rfl⟩
 | true=>
  have hd:d<tm.length:=by have:=hs.len;have:=mQ.1 hb;simp_all
  refine Ns (ov':=(d,.bool want)::(mA G d want).1) hs (fun p hp=> ?_) key.2
  rcases atH.1 hp with rfl | hp
  ·refine ⟨?_,hd⟩
   have hg':aW (aP ov tm) d want=true:=hg
   unfold aW at hg'
   split at hg'
   ·rename_i b hb;rw [hb,FV.1 hg']
   ·cases hg'
  ·obtain ⟨h1,g,h2,h3⟩:=key.1 p hp
   exact ⟨h1,by rw [← h3];exact hs.gt g h2⟩
theorem Do {s:ES} (hs:s.Ok) {d:Nat} {want:Bool} (hg:aW s.as.tm d want=false):(s.tellF d want).Ok∧(s.tellF d want).as=s.as:=by
 obtain ⟨n,ov,tm,hp,G⟩:=s
 simp only [ES.tellF]
 split
 ·exact ⟨hs,rfl⟩
 ·split
  ·rename_i b hb
   have hb':aH (aP ov tm) d= .bool b:=(mX _ _ hs.ov d).symm.trans hb
   have hg':aW (aP ov tm) d want=false:=hg
   have hbw:b= !want:=by
    unfold aW at hg'
    rw [hb'] at hg'
    revert hg'
    cases b <;>cases want <;>simp [bw]
   have hgn:aW (aP ov tm) d (!want)=true:=by
    unfold aW
    rw [hb',hbw]
    cases want <;>rfl
   have key:=CE (tm:=aP ov tm) hgn (G:=G) hs.g
   have hd:d<tm.length:=by
    rcases atI d tm.length with h | h
    ·exact h
    ·rw [oP _ _ (by rw [fu];exact h)] at hb';cases hb'
   refine Ns (ov':=(d,.bool (!want))::(mA G d (!want)).1) hs (fun p hp=> ?_) key.2
   rcases atH.1 hp with rfl | hp
   ·exact ⟨by rw [hb',hbw],hd⟩
   ·obtain ⟨h1,g,h2,h3⟩:=key.1 p hp
    exact ⟨h1,by rw [← h3];exact hs.gt g h2⟩
  ·exact ⟨hs,rfl⟩
theorem xH {s:ES} (hs:s.Ok) {ρ:Operand→SV} {c x y:Operand} {sv:SV} {glob:Nat→Option SV} (hρ:ρ=s.as.ev glob) (h:At s ρ c x y=some sv):∃ b,ρ c= .bool b∧sv=bif b then ρ x else ρ y:=by
 unfold At at h
 split at h
 ·rename_i d
  split at h
  ·rename_i b hb
   have hg:∀ want,bw want b=true→aW s.as.tm d want=true:=fun want hw=>by
    have:aH s.as.tm d= .bool b:=by rw [hρ] at hb;exact hb
    unfold aW;rw [this];exact hw
   have hside:∀ want z,bw want b=true→uG s.G ρ d want z=ρ z:=fun want z hw=>by
    unfold uG
    split
    ·rename_i t
     split
     ·rename_i sv' hl
      rw [hρ]
      exact (Cp hs.g hl (hg want hw)).symm
     ·rfl
    ·rfl
   refine ⟨b,hb,?_⟩
   generalize hu:uG s.G ρ d true x=u at h
   generalize hv:uG s.G ρ d false y=v at h
   have h':=h
   have hu':b=true→u=ρ x:=fun e=>by rw [← hu];exact hside true x (by rw [e];rfl)
   have hv':b=false→v=ρ y:=fun e=>by rw [← hv];exact hside false y (by rw [e];rfl)
   have hconst:∀ z q,z=Operand.const (.bool q)→ρ z= .bool q:=fun z q e=>by rw [hρ,e];rfl
   unfold Th at h'
   cases b with
   | true=>
    rw [cond_true,← hu' rfl]
    split at h'
    ·rename_i p q
     cases h'
     split
     ·have:=hu' rfl;rw [hconst _ true rfl] at this;cases this;rfl
     ·rfl
     ·have:=hu' rfl;rw [hconst _ false rfl] at this;cases this;rfl
     ·simp
     ·rfl
    ·split at h'
     ·cases h';rfl
     ·cases h'
    ·cases h';rfl
    ·cases h'
   | false=>
    rw [cond_false,← hv' rfl]
    split at h'
    ·rename_i p q
     cases h'
     split
     ·rfl
     ·have:=hv' rfl;rw [hconst _ false rfl] at this;cases this;rfl
     ·rfl
     ·have:=hv' rfl;rw [hconst _ true rfl] at this;cases this;rfl
     ·rfl
    ·split at h'
     ·rename_i hk;cases h';subst hk;rfl
     ·cases h'
    ·cases h';rfl
    ·cases h'
  ·cases h
 ·cases h
theorem dW {n:Nat} {ov:List (Nat×SV)} {tm:List SV} {hp hp':List Blk} {G:List GE} (hs:(⟨n,ov,tm,hp,G⟩:ES).Ok):(⟨n,ov,tm,hp',G⟩:ES).Ok:=⟨hs.len,hs.ov,hs.g,hs.gt⟩
section
variable {C:Ctx}
def Next (K:ES→Prop):AS→Prop:=fun s=>∃ s':ES,s'.Ok∧s'.as=s∧K s'
theorem cu {s:ES} (hs:s.Ok) {dst:Option Tmp} {sv:SV} {K:ES→Prop} (h:cj s dst sv K):Next K (s.as.put dst sv):=by
 obtain ⟨s',h1,h2,h3,_⟩:=CG hs h
 exact ⟨s',h1,h2,h3⟩
theorem m7 {s:ES} (hs:s.Ok) {dst:Option Tmp} {d:Nat} {want c:Bool} (hc:c=aW s.as.tm d want) {sv:SV} {K:ES→Prop} (h:pH s dst d want c sv K):(c=true→Next K (s.as.put dst sv))∧(c=false→Next K (s.as.put dst .undef)):=by
 obtain ⟨s',h1,h2,h3⟩:=Kk hs hc h
 exact ⟨fun e=>by subst e;exact ⟨s',h1,h2,h3⟩,fun e=>by subst e;exact ⟨s',h1,h2,h3⟩⟩
theorem mZ {b:Nat} {hp:List Blk} {p:Prop} (h:bif aM (hp.getD b .none) then p else False):aM (hp.getD b .none)=true∧p:=by
 cases hl:aM (hp.getD b .none) with
 | true=>rw [hl] at h;exact ⟨rfl,h⟩
 | false=>rw [hl] at h;exact h.elim
theorem pq {s:ES} (hs:s.Ok) {dst:Option Tmp} {K:ES→Prop} :∀ r,yi C s dst K r→l6 C dst s.as (Next K) r
 | .bad,h=>h
 | .need p r,h=>⟨h.1,pq hs r h.2⟩
 | .know p r,h=>fun hp=>pq hs r (h hp)
 | .split b r1 r2,h=>by
  cases b with
  | true=>exact ⟨fun _=>pq hs r1 h,fun e=>by cases e⟩
  | false=>exact ⟨(fun e=>by cases e),fun _=>pq hs r2 h⟩
 | .val sv,h=>by
  simp only [yi,bd] at h
  exact cu hs h
 | .newRo sv,h=>by
  simp only [yi,bd] at h
  exact cu hs h
 | .new T cs,h=>by
  obtain ⟨n,ov,tm,hp,G⟩:=s
  exact cu (dW hs) h
 | .newOwn true T e l,h=>by
  obtain ⟨n,ov,tm,hp,G⟩:=s
  exact cu (dW hs) h
 | .newOwn false T e l,h=>by
  obtain ⟨n,ov,tm,hp,G⟩:=s
  exact cu (dW hs) h
 | .upd b blk,h=>by
  obtain ⟨n,ov,tm,hp,G⟩:=s
  obtain ⟨h1,h2⟩:=mZ h
  exact ⟨h1,cu (dW hs) h2⟩
 | .cpy b blk,h=>by
  obtain ⟨n,ov,tm,hp,G⟩:=s
  obtain ⟨h1,h2⟩:=mZ h
  exact ⟨h1,cu (dW hs) h2⟩
 | .app b T e l,h=>by
  obtain ⟨n,ov,tm,hp,G⟩:=s
  obtain ⟨h1,h2⟩:=mZ h
  exact ⟨h1,cu (dW hs) h2⟩
 | .frz b sv,h=>by
  obtain ⟨n,ov,tm,hp,G⟩:=s
  obtain ⟨h1,h2⟩:=mZ h
  simp only [bd] at h2
  exact ⟨h1,cu (dW hs) h2⟩
 | .anyB f,h=>fun β hβ=>cu hs (h β hβ)
 | .call f svs,h=>by
  obtain ⟨n,ov,tm,hp,G⟩:=s
  refine CR.wp_mono (fun sv hp' k=> ?_) _ h
  simp only [bd] at k
  exact cu (dW hs) k
theorem B2 {s:ES} (hs:s.Ok) {d:Nat} {want c:Bool} (hc:c=aW s.as.tm d want) {dst:Option Tmp} {K:ES→Prop} (h:c=false→cj (s.tellF d want) dst .undef K):c=false→Next K (s.as.put dst .undef):=fun e=>by
 obtain ⟨h1,h2⟩:=Do hs (d:=d) (want:=want) (by rw [← hc,e])
 have:=cu h1 (h e)
 rwa [h2] at this
theorem gw {s:ES} (hs:s.Ok) {dst:Option Tmp} {d:Nat} {want c:Bool} (hc:c=aW s.as.tm d want) {K:ES→Prop} :∀ r,x9 s dst d want c K r→
  (c=true→r.wp s.hp fun sv hp'=>Next K (({s.as with hp:=hp'} :AS).put dst sv))∧(c=false→Next K (s.as.put dst .undef))
 | .bad,h=>⟨fun e=>(h.1 e).elim,fun _=>cu hs h.2⟩
 | .need p r,h=>⟨fun e=>⟨h.1 e,(gw hs hc r h.2).1 e⟩,(gw hs hc r h.2).2⟩
 | .know p r,h=>⟨fun e hp=>(gw hs hc r (h fun _=>hp)).1 e,fun e=>(gw hs hc r (h fun e'=>by rw [e] at e';cases e')).2 e⟩
 | .ret sv [] [],h=>by
  simp only [x9,bd] at h
  have:=m7 hs hc h
  refine ⟨fun e=> ?_,this.2⟩
  show Next K (({s.as with hp:=bq s.hp [] ++ []} :AS).put dst sv)
  rw [show bq s.hp [] ++ [] =s.hp from aiz _]
  exact this.1 e
 | .ret sv (u::us) news,h=>by
  simp only [x9,bd] at h
  refine ⟨fun e=> ?_,B2 hs hc h.2⟩
  obtain ⟨h1,h2⟩:=lz hs (d:=d) (want:=want) (by rw [← hc,e])
  have h3:=h.1 e
  generalize s.tellT d want=s' at h1 h2 h3
  obtain ⟨n,ov,tm,hp,G⟩:=s'
  have:=cu (dW h1) h3
  have e2:hp=s.hp:=congrArg AS.hp h2
  have e3:aP ov tm=s.as.tm:=congrArg AS.tm h2
  subst e2
  show Next K _
  simpa [CR.wp,ES.as,e3] using this
 | .ret sv [] (u::news),h=>by
  simp only [x9,bd] at h
  refine ⟨fun e=> ?_,B2 hs hc h.2⟩
  obtain ⟨h1,h2⟩:=lz hs (d:=d) (want:=want) (by rw [← hc,e])
  have h3:=h.1 e
  generalize s.tellT d want=s' at h1 h2 h3
  obtain ⟨n,ov,tm,hp,G⟩:=s'
  have:=cu (dW h1) h3
  have e2:hp=s.hp:=congrArg AS.hp h2
  have e3:aP ov tm=s.as.tm:=congrArg AS.tm h2
  subst e2
  show Next K _
  simpa [CR.wp,ES.as,e3] using this
 | .anyI f,h=>⟨fun e n=>(gw hs hc (f n) (h n)).1 e,(gw hs hc (f 0) (h 0)).2⟩
 | .anyB f,h=>⟨fun e n=>(gw hs hc (f n) (h n)).1 e,(gw hs hc (f true) (h true)).2⟩
 | .anyL f,h=>⟨fun e n=>(gw hs hc (f n) (h n)).1 e,(gw hs hc (f []) (h [])).2⟩
 | .ite true r1 r2,h=>gw hs hc r1 h
 | .ite false r1 r2,h=>gw hs hc r2 h
theorem NJ {s:ES} (hs:s.Ok) {dst:Option Tmp} {d:Nat} {want c:Bool} (hc:c=aW s.as.tm d want) {K:ES→Prop} :∀ r,JW C s dst d want c K r→
  (c=true→l6 C dst s.as (Next K) r)∧(c=false→Next K (s.as.put dst .undef)):=by
 have other:∀ r,(c=true→yi C (s.tellT d want) dst K r)∧(c=false→cj (s.tellF d want) dst .undef K)→(c=true→l6 C dst s.as (Next K) r)∧(c=false→Next K (s.as.put dst .undef)):=fun r h=>by
  refine ⟨fun e=> ?_,B2 hs hc h.2⟩
  obtain ⟨h1,h2⟩:=lz hs (d:=d) (want:=want) (by rw [← hc,e])
  have:=pq h1 r (h.1 e)
  rwa [h2] at this
 intro r
 induction r with
 | bad=>exact fun h=>⟨fun e=>(h.1 e).elim,fun _=>cu hs h.2⟩
 | need p r ih=>exact fun h=>⟨fun e=>⟨h.1 e,(ih h.2).1 e⟩,(ih h.2).2⟩
 | know p r ih=>exact fun h=>⟨fun e hp=>(ih (h fun _=>hp)).1 e,fun e=>(ih (h fun e'=>by rw [e] at e';cases e')).2 e⟩
 | val sv=>
  intro h
  simp only [JW,bd] at h
  exact m7 hs hc h
 | newRo sv=>
  intro h
  simp only [JW,bd] at h
  exact m7 hs hc h
 | anyB f=>exact fun h=>⟨fun e β hβ=>(m7 hs hc (h β fun _=>hβ)).1 e,fun e=>(m7 hs hc (h true fun e'=>by rw [e] at e';cases e')).2 e⟩
 | call f svs=>
  intro h
  exact gw hs hc _ h
 | split b r1 r2=>exact fun h=>other _ h
 | new T cs=>exact fun h=>other _ h
 | newOwn c T e l=>exact fun h=>other _ h
 | upd b blk=>exact fun h=>other _ h
 | cpy b blk=>exact fun h=>other _ h
 | app b T e l=>exact fun h=>other _ h
 | frz b sv=>exact fun h=>other _ h
theorem m6 {dst:Option Tmp} {s:AS} {K K':AS→Prop} (h:∀ s,K s→K' s):∀ r,l6 C dst s K r→l6 C dst s K' r
 | .bad,k=>k
 | .need p r,k=>⟨k.1,m6 h r k.2⟩
 | .know p r,k=>fun hp=>m6 h r (k hp)
 | .split b r1 r2,k=>⟨fun e=>m6 h r1 (k.1 e),fun e=>m6 h r2 (k.2 e)⟩
 | .val sv,k=>h _ k
 | .newRo sv,k=>h _ k
 | .new T cs,k=>h _ k
 | .newOwn c T e l,k=>h _ k
 | .upd b blk,k=>⟨k.1,h _ k.2⟩
 | .cpy b blk,k=>⟨k.1,h _ k.2⟩
 | .app b T e l,k=>⟨k.1,h _ k.2⟩
 | .frz b sv,k=>⟨k.1,h _ k.2⟩
 | .anyB f,k=>fun β hβ=>h _ (k β hβ)
 | .call f svs,k=>CR.wp_mono (fun sv hp k=>h _ k) _ k
theorem Ls {s:AS} {dst:Option Tmp} {K:AS→Prop} {c x y:Operand} {b:Bool} (h1:s.ev C.glob c= .bool b) (h:K (s.put dst (bif b then s.ev C.glob x else s.ev C.glob y))):l6 C dst s K (iL C.P C.zero (s.ev C.glob) s.hp (.pick c x y)):=by
 simp only [iL,h1,l6]
 exact ⟨fun e=>by subst e;exact h,fun e=>by subst e;exact h⟩
theorem CT {all:Array Oper} {K:ES→Prop} :∀ (l:List Oper) (s:ES),s.Ok→pk C all l s K→tE C all l s.as (Next K)
 | [],s,hs,h=>⟨s,hs,rfl,h⟩
 | o::rest,s,hs,h=>by
  have ih:∀ s':AS,Next (fun s=>pk C all rest s K) s'→tE C all rest s' (Next K):=fun s' ⟨s'',h1,h2,h3⟩=>by
   have:=CT rest s'' h1 h3
   rwa [h2] at this
  unfold pk at h
  show qw all o s.as _ _
  unfold qw
  have hev:=s.ev_eq hs C.glob
  split at h
  ·rename_i hg
   rw [hg]
   show l6 C o.dst s.as (fun s'=>tE C all rest s' (Next K)) (iL C.P C.zero (s.as.ev C.glob) s.as.hp o.op)
   refine m6 ih _ ?_
   split at h
   ·rename_i c x y hop
    rw [hop]
    split at h
    ·rename_i sv hp
     obtain ⟨b,h1,h2⟩:=xH (glob:=C.glob) hs hev hp
     rw [hev] at h1 h2
     refine Ls h1 ?_
     rw [← h2]
     rw [bd] at h
     exact cu hs h
    ·rw [hev] at h
     exact pq hs _ h
   ·rw [hev] at h
    exact pq hs _ h
  ·rename_i j want hg
   rw [hg]
   simp only [AY]
   split at h
   ·rename_i d hd
    rw [hd]
    split at h
    ·rename_i c hc
     obtain ⟨hc1,hc2⟩:=LL hs hc
     have key:(c=true→l6 C o.dst s.as (Next fun s=>pk C all rest s K) (iL C.P C.zero (s.as.ev C.glob) s.as.hp o.op))∧(c=false→Next (fun s=>pk C all rest s K) (s.as.put o.dst .undef)):=by
      have hevG:c=true→s.evG C.glob d want=s.as.ev C.glob:=fun e=>s.evG_eq hs C.glob (by rw [← hc1,e])
      split at h
      ·rename_i c0 x y hop
       rw [hop]
       split at h
       ·rename_i sv hp
        rw [bd] at h
        have:=m7 hs hc1 h
        refine ⟨fun e=> ?_,this.2⟩
        obtain ⟨b,h1,h2⟩:=xH (glob:=C.glob) hs (hevG e) hp
        rw [hevG e] at h1 h2
        refine Ls h1 ?_
        rw [← h2]
        exact this.1 e
       ·have:=NJ hs hc1 _ h
        exact ⟨fun e=>by have k:=this.1 e;rw [hevG e] at k;exact k,this.2⟩
      ·have:=NJ hs hc1 _ h
       exact ⟨fun e=>by have k:=this.1 e;rw [hevG e] at k;exact k,this.2⟩
     exact G7 hc1 hc2 (fun e=>m6 ih _ (key.1 e)) (fun e=>ih _ (key.2 e))
    ·exact h.elim
   ·exact h.elim
end
abbrev jq:=List Nat×List Nat
def Qd (ρ:Operand→SV) (hp:List Blk):Op→List Nat
 | .load _ a=>(ρ a).h1
 | .store _ a _=>(ρ a).h1
 | .indexAddr _ x _=>(ρ x).h1
 | .slice _ x _ _ _=>(ρ x).h1
 | .convert _ _ x=>(ρ x).h1
 | .sliceToArrayPointer _ x=>(ρ x).h1
 | .call c=>(match c.callee with
  | .builtin _=>c.args.toList.flatMap fun x=>(ρ x).h1
  | .value f=>yC hp 6 ((ρ f).hs++c.args.toList.flatMap fun x=>(ρ x).hs)
  | .invoke r _=>yC hp 6 ((ρ r).hs++c.args.toList.flatMap fun x=>(ρ x).hs))
 | _=> []
theorem Jz (glob:Nat→Option SV) (s:AS) (op:Op):Qd (s.ev glob) s.hp op=si glob s op:=by cases op <;>rfl
def CR.dB (A:List Nat) (n:Nat) (K:SV→List (Nat×Blk)→List Blk→Prop):CR→Prop
 | .need p c=>p∧c.dB A n K
 | .know _ c=>c.dB A n K
 | .ret sv upd news=>bif qJ A n upd then K sv upd news else False
 | .ite b c1 c2=>bif b then c1.dB A n K else c2.dB A n K
 | _=>False
theorem CR.dB_dr {A:List Nat} {n:Nat} {K K':SV→List (Nat×Blk)→List Blk→Prop} (hk:∀ sv u m,K sv u m→K' sv u m):∀ c:CR,c.dB A n K→c.dr A n K'
 | .bad,h=>h
 | .need p c,h=>⟨h.1,dB_dr hk c h.2⟩
 | .know p c,h=>dB_dr hk c h
 | .ret sv u m,h=>by
  simp only [CR.dB] at h
  cases hb:qJ A n u with
  | true=>rw [hb] at h;exact ⟨hb,hk _ _ _ h⟩
  | false=>rw [hb] at h;exact h.elim
 | .anyI f,h=>h
 | .anyB f,h=>h
 | .anyL f,h=>h
 | .ite true c1 c2,h=>dB_dr hk c1 h
 | .ite false c1 c2,h=>dB_dr hk c2 h
section
variable (C:Ctx)
def BS (s:ES) (dst:Option Tmp) (A:List Nat) (K:ES→jq→Prop):OR→Prop
 | .bad=>False
 | .need p r=>p∧BS s dst A K r
 | .know _ r=>BS s dst A K r
 | .split b r1 r2=>bif b then BS s dst A K r1 else BS s dst A K r2
 | .val sv=>b8 sv fun sv=>cj s dst sv fun s=>K s (A,[])
 | .newRo sv=>b8 sv fun sv=>cj s dst sv fun s=>K s (A,[])
 | .new T cs=>(match s with | ⟨n,ov,tm,hp,G⟩=>cj ⟨n,ov,tm,hp++ [.cells T cs],G⟩ dst (.ptr hp.length 0) fun s=>K s (A,[hp.length]))
 | .newOwn true T e l=>(match s with | ⟨n,ov,tm,hp,G⟩=>cj ⟨n,ov,tm,hp++ [.own T e l],G⟩ dst (.lit hp.length) fun s=>K s (A,[hp.length]))
 | .newOwn false T e l=>(match s with | ⟨n,ov,tm,hp,G⟩=>cj ⟨n,ov,tm,hp++ [.own T e l],G⟩ dst (.own hp.length) fun s=>K s (A,[hp.length]))
 | .upd b blk=>bif aM ((bn A 0 s.hp).getD b .none) then (match s with | ⟨n,ov,tm,hp,G⟩=>cj ⟨n,ov,tm,hp.set b blk,G⟩ dst .undef fun s=>K s (A,[b])) else False
 | .cpy b blk=>bif aM ((bn A 0 s.hp).getD b .none) then (match s with | ⟨n,ov,tm,hp,G⟩=>cj ⟨n,ov,tm,hp.set b blk,G⟩ dst .dead fun s=>K s (A,[b])) else False
 | .app b T e l=>bif aM ((bn A 0 s.hp).getD b .none) then (match s with | ⟨n,ov,tm,hp,G⟩=>cj ⟨n,ov,tm,hp.set b .none++ [.own T e l],G⟩ dst (.own hp.length) fun s=>K s (A,[b,hp.length])) else False
 | .frz b sv=>bif aM ((bn A 0 s.hp).getD b .none) then (match s with | ⟨n,ov,tm,hp,G⟩=>b8 sv fun sv=>cj ⟨n,ov,tm,hp.set b .none,G⟩ dst sv fun s=>K s (A,[b])) else False
 | .anyB _=>False
 | .call f svs=>(C.spec f svs (bn A 0 s.hp)).dB A s.hp.length fun sv upd news=>b8 sv fun sv=>match s with | ⟨n,ov,tm,hp,G⟩=>cj ⟨n,ov,tm,bq hp upd++news,G⟩ dst sv fun s=>K s (A,upd.map (·.1)++kK hp.length news)
def wH (s:ES) (dst:Option Tmp) (A:List Nat) (d:Nat) (want c:Bool) (K:ES→jq→Prop):CR→Prop
 | .need p r=>(c=true→p)∧wH s dst A d want c K r
 | .know _ r=>wH s dst A d want c K r
 | .ret sv [] [] =>b8 sv fun sv=>pH s dst d want c sv fun s=>K s (A,[])
 | .ret sv upd news=>(c=true→bif qJ A s.hp.length upd then b8 sv fun sv=>match s.tellT d want with | ⟨n,ov,tm,hp,G⟩=>cj ⟨n,ov,tm,bq hp upd++news,G⟩ dst sv fun s=>K s (A,upd.map (·.1)++kK hp.length news) else False)∧(c=false→cj (s.tellF d want) dst .undef fun s=>K s ([],[]))
 | .ite b r1 r2=>bif b then wH s dst A d want c K r1 else wH s dst A d want c K r2
 | _=>(c=true→False)∧cj s dst .undef fun s=>K s ([],[])
def Nu (s:ES) (dst:Option Tmp) (A:List Nat) (d:Nat) (want c:Bool) (K:ES→jq→Prop):OR→Prop
 | .bad=>(c=true→False)∧cj s dst .undef fun s=>K s ([],[])
 | .need p r=>(c=true→p)∧Nu s dst A d want c K r
 | .know _ r=>Nu s dst A d want c K r
 | .val sv=>b8 sv fun sv=>pH s dst d want c sv fun s=>K s (A,[])
 | .newRo sv=>b8 sv fun sv=>pH s dst d want c sv fun s=>K s (A,[])
 | .call f svs=>wH s dst A d want c K (C.spec f svs (bn A 0 s.hp))
 | r=>(c=true→BS C (s.tellT d want) dst A K r)∧(c=false→cj (s.tellF d want) dst .undef fun s=>K s ([],[]))
def lv (all:Array Oper):List Oper→ES→List jq→(ES→List jq→Prop)→Prop
 | [],s,es,K=>K s es
 | o::rest,s,es,K=>
  match o.guard with
  | none=>(match o.op with
   | .pick c x y=>(match At s (s.ev C.glob) c x y with
    | some sv=>b8 sv fun sv=>cj s o.dst sv fun s=>lv all rest s (es++ [([],[])]) K
    | none=>False)
   | op=>(fun A=>BS C s o.dst A (fun s k=>lv all rest s (es++ [k]) K) (iL C.P C.zero (s.ev C.glob) (bn A 0 s.hp) op)) (Qd (s.ev C.glob) s.hp op))
  | some (j,want)=>(match (all[j]?).bind (·.dst) with
   | some d=>(match Il s d want with
    | some c=>(match o.op with
     | .pick c0 x y=>(match At s (s.evG C.glob d want) c0 x y with
      | some sv=>b8 sv fun sv=>pH s o.dst d want c sv fun s=>lv all rest s (es++ [([],[])]) K
      | none=>False)
     | op=>(fun A=>Nu C s o.dst A d want c (fun s k=>lv all rest s (es++ [k]) K) (iL C.P C.zero (s.evG C.glob d want) (bn A 0 s.hp) op)) (Qd (s.evG C.glob d want) s.hp op))
    | none=>False)
   | none=>False)
def XV (all:Array Oper) (s:ES) (K:ES→Prop):Prop:=lv C all all.toList s [] fun s es=>bif gG all es then K s else False
end
def Ew (a b:jq):Prop:=a=b∨a=([],[])
structure KeysLe (l m:List jq):Prop where
 len:l.length=m.length
 le:∀ (i:Nat) (a b:jq),l[i]? =some a→m[i]? =some b→Ew a b
theorem KeysLe.nil:KeysLe [] [] :=⟨rfl,fun i a b h=>by simp at h⟩
theorem KeysLe.snoc {l m:List jq} (h:KeysLe l m) {a b:jq} (hab:Ew a b):KeysLe (l++ [a]) (m++ [b]):=by
 refine ⟨by simp [h.len],fun i x y hx hy=> ?_⟩
 rcases atI i l.length with hi | hi
 ·rw [aeU hi] at hx
  rw [aeU (by rw [← h.len];exact hi)] at hy
  exact h.le i x y hx hy
 ·rw [ae5 hi] at hx
  rw [ae5 (by rw [← h.len];exact hi)] at hy
  rw [← h.len] at hy
  cases hj:i-l.length with
  | zero=>rw [hj] at hx hy;simp at hx hy;subst hx;subst hy;exact hab
  | succ j=>rw [hj] at hx;simp at hx
theorem OL {all:Array Oper} {oi oj:Oper} {ki kj ki' kj':jq} (hi:Ew ki ki') (hj:Ew kj kj') (h:jD all oi oj ki kj=true):jD all oi oj ki' kj'=true:=by
 unfold jD at h ⊢
 simp only [as9] at h ⊢
 rcases h with (h | h) | h
 ·exact .inl (.inl h)
 ·rcases hi with rfl | rfl
  ·rcases hj with rfl | rfl
   ·exact .inl (.inr h)
   ·simp at h
  ·simp at h
 ·rcases hi with rfl | rfl
  ·rcases hj with rfl | rfl
   ·exact .inr h
   ·simp at h
  ·simp at h
theorem L8 {all:Array Oper} {l m:List jq} (h:KeysLe l m) (hc:gG all m=true):gG all l=true:=by
 unfold gG at hc ⊢
 simp only [cZ] at hc ⊢
 refine ⟨hc.1,?_⟩
 have h2:=hc.2
 unfold Fx at h2 ⊢
 rw [atJ] at h2 ⊢
 intro j hj
 have h3:=h2 j hj
 rw [atJ] at h3 ⊢
 intro i hi
 have h4:=h3 i hi
 split
 ·rename_i oi oj ki kj e1 e2 e3 e4
  have l1:i<m.length:=by rw [← h.len];exact (adW.1 e3).1
  have l2:j<m.length:=by rw [← h.len];exact (adW.1 e4).1
  rw [e1,e2,cH l1,cH l2] at h4
  simp only [as9,atf] at h4 ⊢
  rcases h4 with h4 | h4
  ·left
   cases hk:jD all oi oj ki kj with
   | false=>rfl
   | true=>
    have:=OL (h.le i _ _ e3 (cH l1)) (h.le j _ _ e4 (cH l2)) hk
    rw [h4] at this;cases this
  ·exact .inr h4
 ·rfl
section
variable {C:Ctx}
def fG (K:ES→jq→Prop) (s:AS) (k:jq):Prop:=∃ (s':ES) (k':jq),s'.Ok∧s'.as=s∧Ew k k'∧K s' k'
theorem bK {s:ES} (hs:s.Ok) {dst:Option Tmp} {sv:SV} {K:ES→jq→Prop} {k:jq} (h:cj s dst sv fun s=>K s k):fG K (s.as.put dst sv) k:=by
 obtain ⟨s',h1,h2,h3,_⟩:=CG hs h
 exact ⟨s',k,h1,h2,.inl rfl,h3⟩
theorem rk {s:ES} (hs:s.Ok) {dst:Option Tmp} {d:Nat} {want c:Bool} (hc:c=aW s.as.tm d want) {sv:SV} {K:ES→jq→Prop} {k:jq} (h:pH s dst d want c sv fun s=>K s k):(c=true→fG K (s.as.put dst sv) k)∧(c=false→fG K (s.as.put dst .undef) ([],[])):=by
 obtain ⟨s',h1,h2,h3⟩:=Kk hs hc h
 exact ⟨fun e=>by subst e;exact ⟨s',k,h1,h2,.inl rfl,h3⟩,fun e=>by subst e;exact ⟨s',k,h1,h2,.inr rfl,h3⟩⟩
def IV (K:ES→jq→Prop) (s:AS) (e:Eff):Prop:=fG K (s.app e) e.key
theorem o5 (s:AS) (dst:Option Tmp) (sv:SV) (A:List Nat) (n:Nat):s.app ⟨dst,sv,A,[],n,[]⟩=s.put dst sv:=by
 show (⟨s.tm,bq s.hp [] ++ []⟩:AS).put dst sv=_
 rw [show bq s.hp [] ++ [] =s.hp from aiz _]
theorem rz {o:Oper} {s:ES} (hs:s.Ok) {A:List Nat} {K:ES→jq→Prop} :∀ r,BS C s o.dst A K r→kH C o A s.as (IV K s.as) r
 | .bad,h=>h
 | .need p r,h=>⟨h.1,rz hs r h.2⟩
 | .know p r,h=>rz hs r h
 | .split b r1 r2,h=>by
  cases b with
  | true=>exact ⟨fun _=>rz hs r1 h,fun e=>by cases e⟩
  | false=>exact ⟨(fun e=>by cases e),fun _=>rz hs r2 h⟩
 | .val sv,h=>by
  simp only [BS,bd] at h
  have:=bK hs h
  show fG K _ _
  rw [o5];exact this
 | .newRo sv,h=>by
  simp only [BS,bd] at h
  have:=bK hs h
  show fG K _ _
  rw [o5];exact this
 | .new T cs,h=>by
  obtain ⟨n,ov,tm,hp,G⟩:=s
  exact bK (dW hs) h
 | .newOwn true T e l,h=>by
  obtain ⟨n,ov,tm,hp,G⟩:=s
  exact bK (dW hs) h
 | .newOwn false T e l,h=>by
  obtain ⟨n,ov,tm,hp,G⟩:=s
  exact bK (dW hs) h
 | .upd b blk,h=>by
  obtain ⟨n,ov,tm,hp,G⟩:=s
  obtain ⟨h1,h2⟩:=mZ h
  refine ⟨h1,?_⟩
  have:=bK (dW hs) h2
  show fG K ((⟨aP ov tm,bq hp [(b,blk)] ++ []⟩:AS).put o.dst .undef) _
  rw [aiz]
  exact this
 | .cpy b blk,h=>by
  obtain ⟨n,ov,tm,hp,G⟩:=s
  obtain ⟨h1,h2⟩:=mZ h
  refine ⟨h1,?_⟩
  have:=bK (dW hs) h2
  show fG K ((⟨aP ov tm,bq hp [(b,blk)] ++ []⟩:AS).put o.dst .dead) _
  rw [aiz]
  exact this
 | .app b T e l,h=>by
  obtain ⟨n,ov,tm,hp,G⟩:=s
  obtain ⟨h1,h2⟩:=mZ h
  exact ⟨h1,bK (dW hs) h2⟩
 | .frz b sv,h=>by
  obtain ⟨n,ov,tm,hp,G⟩:=s
  obtain ⟨h1,h2⟩:=mZ h
  simp only [bd] at h2
  refine ⟨h1,?_⟩
  have:=bK (dW hs) h2
  show fG K ((⟨aP ov tm,bq hp [(b,.none)] ++ []⟩:AS).put o.dst sv) _
  rw [aiz]
  exact this
 | .anyB f,h=>h
 | .call f svs,h=>by
  obtain ⟨n,ov,tm,hp,G⟩:=s
  refine CR.dB_dr (fun sv u m k=> ?_) _ h
  simp only [bd] at k
  exact bK (dW hs) k
theorem U5 {s:ES} (hs:s.Ok) {d:Nat} {want c:Bool} (hc:c=aW s.as.tm d want) {dst:Option Tmp} {K:ES→jq→Prop} (h:c=false→cj (s.tellF d want) dst .undef fun s=>K s ([],[])):c=false→fG K (s.as.put dst .undef) ([],[]):=fun e=>by
 obtain ⟨h1,h2⟩:=Do hs (d:=d) (want:=want) (by rw [← hc,e])
 have:=bK h1 (h e)
 rwa [h2] at this
theorem KO {b:Bool} {p:Prop} (h:bif b then p else False):b=true∧p:=by
 cases b with
 | true=>exact ⟨rfl,h⟩
 | false=>exact h.elim
theorem pE {o:Oper} {s:ES} (hs:s.Ok) {A:List Nat} {d:Nat} {want c:Bool} (hc:c=aW s.as.tm d want) {K:ES→jq→Prop} :∀ r,wH s o.dst A d want c K r→
  (c=true→r.dr A s.hp.length fun sv upd news=>IV K s.as ⟨o.dst,sv,A,upd,s.hp.length,news⟩)∧(c=false→fG K (s.as.put o.dst .undef) ([],[]))
 | .bad,h=>⟨fun e=>h.1 e,fun _=>bK hs h.2⟩
 | .need p r,h=>⟨fun e=>⟨h.1 e,(pE hs hc r h.2).1 e⟩,(pE hs hc r h.2).2⟩
 | .know p r,h=>pE hs hc r h
 | .ret sv [] [],h=>by
  simp only [wH,bd] at h
  have:=rk hs hc h
  refine ⟨fun e=>⟨rfl,?_⟩,this.2⟩
  show fG K _ _
  rw [o5];exact this.1 e
 | .ret sv (u::us) news,h=>by
  simp only [wH,bd] at h
  refine ⟨fun e=> ?_,U5 hs hc h.2⟩
  obtain ⟨h1,h2⟩:=lz hs (d:=d) (want:=want) (by rw [← hc,e])
  have h34:=h.1 e
  have ⟨h3,h4⟩:=KO h34
  refine ⟨h3,?_⟩
  generalize s.tellT d want=s' at h1 h2 h4
  obtain ⟨n,ov,tm,hp,G⟩:=s'
  have:=bK (dW h1) h4
  have e2:hp=s.hp:=congrArg AS.hp h2
  have e3:aP ov tm=s.as.tm:=congrArg AS.tm h2
  subst e2
  show fG K _ _
  simpa [ES.as,e3,AS.app,Eff.key] using this
 | .ret sv [] (u::news),h=>by
  simp only [wH,bd] at h
  refine ⟨fun e=> ?_,U5 hs hc h.2⟩
  obtain ⟨h1,h2⟩:=lz hs (d:=d) (want:=want) (by rw [← hc,e])
  have h34:=h.1 e
  have ⟨h3,h4⟩:=KO h34
  refine ⟨h3,?_⟩
  generalize s.tellT d want=s' at h1 h2 h4
  obtain ⟨n,ov,tm,hp,G⟩:=s'
  have:=bK (dW h1) h4
  have e2:hp=s.hp:=congrArg AS.hp h2
  have e3:aP ov tm=s.as.tm:=congrArg AS.tm h2
  subst e2
  show fG K _ _
  simpa [ES.as,e3,AS.app,Eff.key] using this
 | .anyI f,h=>⟨fun e=>h.1 e,fun _=>bK hs h.2⟩
 | .anyB f,h=>⟨fun e=>h.1 e,fun _=>bK hs h.2⟩
 | .anyL f,h=>⟨fun e=>h.1 e,fun _=>bK hs h.2⟩
 | .ite true r1 r2,h=>pE hs hc r1 h
 | .ite false r1 r2,h=>pE hs hc r2 h
theorem abl {o:Oper} {s:ES} (hs:s.Ok) {A:List Nat} {d:Nat} {want c:Bool} (hc:c=aW s.as.tm d want) {K:ES→jq→Prop} :∀ r,Nu C s o.dst A d want c K r→
  (c=true→kH C o A s.as (IV K s.as) r)∧(c=false→fG K (s.as.put o.dst .undef) ([],[])):=by
 have other:∀ r,(c=true→BS C (s.tellT d want) o.dst A K r)∧(c=false→cj (s.tellF d want) o.dst .undef fun s=>K s ([],[]))→(c=true→kH C o A s.as (IV K s.as) r)∧(c=false→fG K (s.as.put o.dst .undef) ([],[])):=fun r h=>by
  refine ⟨fun e=> ?_,U5 hs hc h.2⟩
  obtain ⟨h1,h2⟩:=lz hs (d:=d) (want:=want) (by rw [← hc,e])
  have:=rz h1 r (h.1 e)
  rwa [h2] at this
 intro r
 induction r with
 | bad=>exact fun h=>⟨fun e=>h.1 e,fun _=>bK hs h.2⟩
 | need p r ih=>exact fun h=>⟨fun e=>⟨h.1 e,(ih h.2).1 e⟩,(ih h.2).2⟩
 | know p r ih=>exact fun h=>ih h
 | val sv=>
  intro h
  simp only [Nu,bd] at h
  have:=rk hs hc h
  refine ⟨fun e=> ?_,this.2⟩
  show fG K _ _
  rw [o5];exact this.1 e
 | newRo sv=>
  intro h
  simp only [Nu,bd] at h
  have:=rk hs hc h
  refine ⟨fun e=> ?_,this.2⟩
  show fG K _ _
  rw [o5];exact this.1 e
 | anyB f=>exact fun h=>other _ h
 | call f svs=>
  intro h
  exact pE hs hc _ h
 | split b r1 r2=>exact fun h=>other _ h
 | new T cs=>exact fun h=>other _ h
 | newOwn c T e l=>exact fun h=>other _ h
 | upd b blk=>exact fun h=>other _ h
 | cpy b blk=>exact fun h=>other _ h
 | app b T e l=>exact fun h=>other _ h
 | frz b sv=>exact fun h=>other _ h
theorem vv (A:List Nat) (n:Nat) {K1 K2:SV→List (Nat×Blk)→List Blk→Prop} (hk:∀ sv u m,K1 sv u m→K2 sv u m):∀ c:CR,c.dr A n K1→c.dr A n K2
 | .bad,h=>h
 | .need p c,h=>⟨h.1,vv A n hk c h.2⟩
 | .know p c,h=>vv A n hk c h
 | .ret sv u m,h=>⟨h.1,hk _ _ _ h.2⟩
 | .anyI f,h=>h
 | .anyB f,h=>h
 | .anyL f,h=>h
 | .ite true c1 c2,h=>vv A n hk c1 h
 | .ite false c1 c2,h=>vv A n hk c2 h
theorem nr {o:Oper} {A:List Nat} {s:AS} {K K':Eff→Prop} (h:∀ e,K e→K' e):∀ r,kH C o A s K r→kH C o A s K' r
 | .bad,k=>k
 | .need p r,k=>⟨k.1,nr h r k.2⟩
 | .know p r,k=>nr h r k
 | .split b r1 r2,k=>⟨fun e=>nr h r1 (k.1 e),fun e=>nr h r2 (k.2 e)⟩
 | .val sv,k=>h _ k
 | .newRo sv,k=>h _ k
 | .new T cs,k=>h _ k
 | .newOwn c T e l,k=>h _ k
 | .upd b blk,k=>⟨k.1,h _ k.2⟩
 | .cpy b blk,k=>⟨k.1,h _ k.2⟩
 | .app b T e l,k=>⟨k.1,h _ k.2⟩
 | .frz b sv,k=>⟨k.1,h _ k.2⟩
 | .anyB f,k=>k
 | .call f svs,k=>vv _ _ (fun sv u m k=>h _ k) _ k
theorem Ml {o:Oper} {s:AS} {K:Eff→Prop} {c x y:Operand} {b:Bool} {A:List Nat} (h1:s.ev C.glob c= .bool b) (h:K ⟨o.dst,bif b then s.ev C.glob x else s.ev C.glob y,A,[],s.hp.length,[]⟩) (hp:List Blk):kH C o A s K (iL C.P C.zero (s.ev C.glob) hp (.pick c x y)):=by
 simp only [iL,h1,kH]
 exact ⟨fun e=>by subst e;exact h,fun e=>by subst e;exact h⟩
theorem G4 {all:Array Oper} {K:ES→Prop} :∀ (l:List Oper) (s:ES) (es es':List jq),s.Ok→KeysLe es es'→lv C all l s es' (fun s es=>bif gG all es then K s else False)→
  qL C all l s.as es fun s es=>gG all es=true∧Next K s
 | [],s,es,es',hs,hle,h=>by
  simp only [lv] at h
  cases hc:gG all es' with
  | false=>rw [hc] at h;exact h.elim
  | true=>rw [hc] at h;exact ⟨L8 hle hc,s,hs,rfl,h⟩
 | o::rest,s,es,es',hs,hle,h=>by
  have ih:∀ (s':AS) (k:jq),fG (fun s k=>lv C all rest s (es'++ [k]) (fun s es=>bif gG all es then K s else False)) s' k→qL C all rest s' (es++ [k]) fun s es=>gG all es=true∧Next K s:=fun s' k ⟨s'',k',h1,h2,h3,h4⟩=>by
   have:=G4 rest s'' (es++ [k]) (es'++ [k']) h1 (hle.snoc h3) h4
   rwa [h2] at this
  unfold lv at h
  show qw all o s.as _ _
  unfold qw
  have hev:=s.ev_eq hs C.glob
  split at h
  ·rename_i hg
   rw [hg]
   show kH C o (si C.glob s.as o.op) s.as (fun e=>qL C all rest (s.as.app e) (es++ [e.key]) _) (iL C.P C.zero (s.as.ev C.glob) (bn (si C.glob s.as o.op) 0 s.as.hp) o.op)
   refine nr (fun e k=>ih _ _ k) _ ?_
   split at h
   ·rename_i c x y hop
    rw [hop]
    split at h
    ·rename_i sv hp
     obtain ⟨b,h1,h2⟩:=xH (glob:=C.glob) hs hev hp
     rw [hev] at h1 h2
     refine Ml h1 ?_ _
     rw [← h2,o5]
     rw [bd] at h
     exact bK (K:=fun s k=>lv C all rest s (es'++ [k]) _) hs h
    ·exact h.elim
   ·rename_i hop
    rw [hev,show s.hp=s.as.hp from rfl,Jz] at h
    exact rz hs _ h
  ·rename_i j want hg
   rw [hg]
   simp only [AY]
   split at h
   ·rename_i d hd
    rw [hd]
    split at h
    ·rename_i c hc
     obtain ⟨hc1,hc2⟩:=LL hs hc
     have key:(c=true→kH C o (si C.glob s.as o.op) s.as (IV (fun s k=>lv C all rest s (es'++ [k]) (fun s es=>bif gG all es then K s else False)) s.as) (iL C.P C.zero (s.as.ev C.glob) (bn (si C.glob s.as o.op) 0 s.as.hp) o.op))∧
       (c=false→fG (fun s k=>lv C all rest s (es'++ [k]) (fun s es=>bif gG all es then K s else False)) (s.as.put o.dst .undef) ([],[])):=by
      have hevG:c=true→s.evG C.glob d want=s.as.ev C.glob:=fun e=>s.evG_eq hs C.glob (by rw [← hc1,e])
      split at h
      ·rename_i c0 x y hop
       rw [hop]
       split at h
       ·rename_i sv hp
        rw [bd] at h
        have:=rk (K:=fun s k=>lv C all rest s (es'++ [k]) _) (k:=([],[])) hs hc1 h
        refine ⟨fun e=> ?_,this.2⟩
        obtain ⟨b,h1,h2⟩:=xH (glob:=C.glob) hs (hevG e) hp
        rw [hevG e] at h1 h2
        refine Ml h1 ?_ _
        show fG _ _ _
        rw [← h2,o5]
        exact this.1 e
       ·exact h.elim
      ·rename_i hop
       have:=abl hs hc1 _ h
       refine ⟨fun e=> ?_,this.2⟩
       have k:=this.1 e
       rw [hevG e,show s.hp=s.as.hp from rfl,Jz] at k
       exact k
     exact G7 hc1 hc2 (fun e=>nr (fun e k=>ih _ _ k) _ (key.1 e)) (fun e=>ih _ _ (key.2 e))
    ·exact h.elim
   ·exact h.elim
theorem Tk {all:Array Oper} {s:ES} (hs:s.Ok) {K:ES→Prop} (h:XV C all s K):Tq C all s.as (Next K):=G4 _ s [] [] hs .nil h
end
inductive Dat where
 | i (n:Int) | b (b:Bool) | s (l:List UInt8) | r (l:LD) | li (l:List Int) | lb (l:List Bool)
inductive Pat where
 | skip
 | int (k:IntKind)
 | bool
 | str
 | rd (e:List CSh)
 | own (i:Nat)
 | ptr (i c:Nat)
 | nilp
 | nilf
 | nils
 | agg (ps:List Pat)
 | arrI (n:Nat) (k:IntKind)
 | arrB (n:Nat)
 | tup (ps:List Pat)
 | fn (f:FuncId) (ps:List Pat)
 | fb (f:FuncId) (ps:List Pat)
 | nili
 | iface (t:TypeId) (p:Pat)
inductive BPat where
 | none
 | cells (T:TypeId) (ps:List Pat)
 | own (T:TypeId) (e:List CSh)
mutual
def UY:Pat→(SV→List Dat→Prop)→Prop
 | .skip,F=>F .dead []
 | .int k,F=>∀ n,F (.int k n) [.i n]
 | .bool,F=>∀ b,F (.bool b) [.b b]
 | .str,F=>∀ l,F (.str l) [.s l]
 | .rd e,F=>∀ l,F (.rd e l) [.r l]
 | .own i,F=>F (.own i) []
 | .ptr i c,F=>F (.ptr i c) []
 | .nilp,F=>F .nilp []
 | .nilf,F=>F .nilf []
 | .nils,F=>F .nils []
 | .agg ps,F=>allPs ps fun svs ds=>F (.agg svs) ds
 | .arrI n k,F=>∀ l,F (.arrI n k l) [.li l]
 | .arrB n,F=>∀ l,F (.arrB n l) [.lb l]
 | .tup ps,F=>allPs ps fun svs ds=>F (.tup svs) ds
 | .fn f ps,F=>allPs ps fun svs ds=>F (.fn f svs) ds
 | .fb f ps,F=>allPs ps fun svs ds=>F (.fb f svs) ds
 | .nili,F=>F .nili []
 | .iface t p,F=>UY p fun sv ds=>F (.iface t sv) ds
def allPs:List Pat→(List SV→List Dat→Prop)→Prop
 | [],F=>F [] []
 | p::ps,F=>UY p fun sv d=>allPs ps fun svs ds=>F (sv::svs) (d++ds)
end
def ag5:BPat→(Blk→List Dat→Prop)→Prop
 | .none,F=>F .none []
 | .cells T ps,F=>allPs ps fun svs ds=>F (.cells T svs) ds
 | .own T e,F=>∀ l,F (.own T e l) [.r l]
def Dn:List BPat→(List Blk→List Dat→Prop)→Prop
 | [],F=>F [] []
 | p::ps,F=>ag5 p fun x d=>Dn ps fun xs ds=>F (x::xs) (d++ds)
mutual
def bM:Pat→List Dat→SV×List Dat
 | .skip,ds=>(.dead,ds)
 | .int k,.i n::ds=>(.int k n,ds)
 | .bool,.b b::ds=>(.bool b,ds)
 | .str,.s l::ds=>(.str l,ds)
 | .rd e,.r l::ds=>(.rd e l,ds)
 | .own i,ds=>(.own i,ds)
 | .ptr i c,ds=>(.ptr i c,ds)
 | .nilp,ds=>(.nilp,ds)
 | .nilf,ds=>(.nilf,ds)
 | .nils,ds=>(.nils,ds)
 | .agg ps,ds=>match instPs ps ds with | (svs,ds)=>(.agg svs,ds)
 | .arrI n k,.li l::ds=>(.arrI n k l,ds)
 | .arrB n,.lb l::ds=>(.arrB n l,ds)
 | .tup ps,ds=>match instPs ps ds with | (svs,ds)=>(.tup svs,ds)
 | .fn f ps,ds=>match instPs ps ds with | (svs,ds)=>(.fn f svs,ds)
 | .fb f ps,ds=>match instPs ps ds with | (svs,ds)=>(.fb f svs,ds)
 | .nili,ds=>(.nili,ds)
 | .iface t p,ds=>match bM p ds with | (sv,ds)=>(.iface t sv,ds)
 | _,ds=>(.dead,ds)
def instPs:List Pat→List Dat→List SV×List Dat
 | [],ds=>([],ds)
 | p::ps,ds=>match bM p ds with | (sv,ds)=>match instPs ps ds with | (svs,ds)=>(sv::svs,ds)
end
def qY:BPat→List Dat→Blk×List Dat
 | .none,ds=>(.none,ds)
 | .cells T ps,ds=>match instPs ps ds with | (svs,ds)=>(.cells T svs,ds)
 | .own T e,.r l::ds=>(.own T e l,ds)
 | _,ds=>(.none,ds)
def kU:List BPat→List Dat→List Blk×List Dat
 | [],ds=>([],ds)
 | p::ps,ds=>match qY p ds with | (x,ds)=>match kU ps ds with | (xs,ds)=>(x::xs,ds)
mutual
def PH:Pat→List Dat→(List Dat→Prop)→Prop
 | .int _,.i _::ds,K=>K ds
 | .bool,.b _::ds,K=>K ds
 | .str,.s l::ds,K=>l.length≤9223372036854775807→K ds
 | .rd _,.r l::ds,K=>l.length≤9223372036854775807→K ds
 | .agg ps,ds,K=>impPs ps ds K
 | .arrI n _,.li l::ds,K=>l.length=n→K ds
 | .arrB n,.lb l::ds,K=>l.length=n→K ds
 | .tup ps,ds,K=>impPs ps ds K
 | .fn _ ps,ds,K=>impPs ps ds K
 | .fb _ ps,ds,K=>impPs ps ds K
 | .iface _ p,ds,K=>PH p ds K
 | _,ds,K=>K ds
def impPs:List Pat→List Dat→(List Dat→Prop)→Prop
 | [],ds,K=>K ds
 | p::ps,ds,K=>PH p ds fun ds=>impPs ps ds K
end
def ae7:BPat→List Dat→(List Dat→Prop)→Prop
 | .none,ds,K=>K ds
 | .cells _ ps,ds,K=>impPs ps ds K
 | .own _ _,.r l::ds,K=>l.length≤9223372036854775807→K ds
 | .own _ _,ds,K=>K ds
def xp (hs:List Nat):Nat→List BPat→List Dat→(List Dat→Prop)→Prop
 | _,[],ds,K=>K ds
 | i,p::ps,ds,K=>bif hs.contains i then ae7 p ds fun ds=>xp hs (i+1) ps ds K else xp hs (i+1) ps (qY p ds).2 K
structure MS where
 ρ:List (Nat×Nat)
 β:List (Nat×Nat)
 fz:List Nat
 nw:List Nat
def bW:List Nat→Nat→Bool
 | [],_=>false
 | a::l,b=>bif asM a b then true else bW l b
def cS:List (Nat×Nat)→Nat→Option Nat
 | [],_=>none
 | (b,i)::l,j=>bif asM i j then some b else cS l j
def hZ:List (Nat×Nat)→Nat→Option Nat
 | [],_=>none
 | (b,i)::l,c=>bif asM b c then some i else hZ l c
def MS.bind (m:MS) (b i:Nat):Option MS:=
 match m with
 | ⟨ρ,β,fz,nw⟩=>match cS ρ i,hZ β b with
  | some b',some i'=>bif asM b b' then (bif asM i i' then some ⟨ρ,β,fz,nw⟩ else none) else none
  | none,none=>bif bW nw i then none else some ⟨(b,i)::ρ,(b,i)::β,fz,nw⟩
  | _,_=>none
def MS.freeze (m:MS) (b:Nat):MS:=match m with | ⟨ρ,β,fz,nw⟩=>bif bW fz b then ⟨ρ,β,fz,nw⟩ else ⟨ρ,β,b::fz,nw⟩
def MS.new (m:MS) (i:Nat):Option MS:=
 match m with
 | ⟨ρ,β,fz,nw⟩=>match cS ρ i with
  | none=>bif bW nw i then none else some ⟨ρ,β,fz,i::nw⟩
  | _=>none
section
variable (hp:List Blk)
def nj (e:List CSh) (m:MS):SV→Option (SV×List Dat×MS)
 | .rd e' l=>bif CSh.beqs e e' then some (.rd e l,[.r l],m) else none
 | .rdc e' l=>bif CSh.beqs e e' then some (.rd e l,[.r l],m) else none
 | .nils=>some (.rd e [],[.r []],m)
 | .e0=>some (.rd e [],[.r []],m)
 | .own b=>(match hp.getD b .none with
  | .own _ e' l=>bif CSh.beqs e e' then some (.rd e l,[.r l],m.freeze b) else none
  | _=>none)
 | .win b c N lo n=>(match hp.getD b .none with
  | .cells _ cs=>(match d6 cs c with
   | some (_,.arrI N' k l::_)=>bif asM N' N then (bif CSh.beqs e [.int k] then some (.rd e (((l.drop lo).take n).map fun x=> [.int x]),[.r (((l.drop lo).take n).map fun x=> [.int x])],m.freeze b) else none) else none
   | _=>none)
  | _=>none)
 | _=>none
def nf (e:List CSh):List SV→MS→Option (LD×MS)
 | [],m=>some ([],m)
 | sv::svs,m=>(match nj hp e m sv with
  | some (.rd _ l,_,m)=>(match nf e svs m with | some (rows,m)=>some ([.sl l] ::rows,m) | none=>none)
  | _=>none)
def oB (e:List CSh) (m:MS) (sv:SV):Option (SV×List Dat×MS):=
 match sv with
 | .sls svs=>(match e with
  | [.sl e1] =>(match nf hp e1 svs m with | some (rows,m)=>some (.rd e rows,[.r rows],m) | none=>none)
  | _=>none)
 | sv=>nj hp e m sv
mutual
def conv:Pat→SV→MS→Option (SV×List Dat×MS)
 | .skip,sv,m=>(match sv with | .arrI .. =>none | .arrB .. =>none | _=>some (.dead,[],m))
 | .int k,sv,m=>(match sv with | .int k' n=>if k'=k then some (.int k n,[.i n],m) else none | _=>none)
 | .bool,sv,m=>(match sv with | .bool b=>some (.bool b,[.b b],m) | _=>none)
 | .str,sv,m=>(match sv with | .str l=>some (.str l,[.s l],m) | _=>none)
 | .rd e,sv,m=>oB hp e m sv
 | .own i,sv,m=>(match sv with
  | .own b=>(match m.bind b i with | some m=>some (.own i,[],m) | none=>none)
  | .nils=>(match m.new i with | some m=>some (.own i,[],m) | none=>none)
  | _=>none)
 | .ptr i c,sv,m=>(match sv with
  | .ptr b c'=>bif asM c c' then (match m.bind b i with | some m=>some (.ptr i c,[],m) | none=>none) else none
  | _=>none)
 | .nilp,sv,m=>(match sv with | .nilp=>some (.nilp,[],m) | _=>none)
 | .nilf,sv,m=>(match sv with | .nilf=>some (.nilf,[],m) | _=>none)
 | .nils,sv,m=>(match sv with | .nils=>some (.nils,[],m) | _=>none)
 | .agg ps,sv,m=>(match sv with | .agg cs=>(match convs ps cs m with | some (svs,ds,m)=>some (.agg svs,ds,m) | none=>none) | _=>none)
 | .arrI n k,sv,m=>(match sv with | .arrI n' k' l=>if k'=k then (bif asM n n' then some (.arrI n k l,[.li l],m) else none) else none | _=>none)
 | .arrB n,sv,m=>(match sv with | .arrB n' l=>bif asM n n' then some (.arrB n l,[.lb l],m) else none | _=>none)
 | .tup ps,sv,m=>(match sv with | .tup cs=>(match convs ps cs m with | some (svs,ds,m)=>some (.tup svs,ds,m) | none=>none) | _=>none)
 | .fn f ps,sv,m=>(match sv with | .fn f' cs=>bif asM f f' then (match convs ps cs m with | some (svs,ds,m)=>some (.fn f svs,ds,m) | none=>none) else none | _=>none)
 | .fb f ps,sv,m=>(match sv with | .fb f' cs=>bif asM f f' then (match convs ps cs m with | some (svs,ds,m)=>some (.fb f svs,ds,m) | none=>none) else none | _=>none)
 | .nili,sv,m=>(match sv with | .nili=>some (.nili,[],m) | _=>none)
 | .iface t p,sv,m=>(match sv with | .iface t' v=>bif asM t t' then (match conv p v m with | some (sv,ds,m)=>some (.iface t sv,ds,m) | none=>none) else none | _=>none)
def convs:List Pat→List SV→MS→Option (List SV×List Dat×MS)
 | [],svs,m=>(match svs with | [] =>some ([],[],m) | _=>none)
 | p::ps,svs,m=>(match svs with
  | sv::svs=>(match conv p sv m with
   | some (sv,d,m)=>(match convs ps svs m with | some (svs,ds,m)=>some (sv::svs,d++ds,m) | none=>none)
   | none=>none)
  | [] =>none)
end
def iX (get:Nat→SV):List Pat→Nat→MS→Option (List SV×List Dat×MS)
 | [],_,m=>some ([],[],m)
 | .skip::ps,t,m=>(match iX get ps (t+1) m with | some (svs,ds,m)=>some (.dead::svs,ds,m) | none=>none)
 | p::ps,t,m=>(match conv hp p (get t) m with
  | some (sv,d,m)=>(match iX get ps (t+1) m with | some (svs,ds,m)=>some (sv::svs,d++ds,m) | none=>none)
  | none=>none)
def tv (i:Nat) (m:MS) (p:BPat):Option (Blk×List Dat×MS):=
 match cS m.ρ i with
 | some b=>(match p with
  | .none=>some (.none,[],m)
  | .cells T ps=>(match hp.getD b .none with
   | .cells T' cs=>bif asM T' T then (match convs hp ps cs m with | some (svs,ds,m)=>some (.cells T svs,ds,m) | none=>none) else none
   | _=>none)
  | .own T e=>(match hp.getD b .none with
   | .own T' e' l=>bif asM T' T then (bif CSh.beqs e e' then some (.own T e l,[.r l],m) else none) else none
   | _=>none))
 | none=>(match p with
  | .none=>some (.none,[],m)
  | .own T e=>bif bW m.nw i then some (.own T e [],[.r []],m) else none
  | _=>none)
def fN:List BPat→Nat→MS→Option (List Blk×List Dat×MS)
 | [],_,m=>some ([],[],m)
 | p::ps,i,m=>(match tv hp i m p with
  | some (x,d,m)=>(match fN ps (i+1) m with | some (xs,ds,m)=>some (x::xs,d++ds,m) | none=>none)
  | none=>none)
end
def lN:Nat→List (Nat×Nat)
 | 0=> []
 | n+1=>(n,n)::lN n
def apart:List Nat→List (Nat×Nat)→Bool
 | [],_=>true
 | b::l,ρ=>match hZ ρ b with | none=>apart l ρ | some _=>false
def Dj (n:Nat) (m:MS):List (Nat×Nat)→Bool
 | [] =>true
 | (b,i)::l=>awj i n&&Dj n m l
def p8 (n:Nat):List Nat→Bool
 | [] =>true
 | b::l=>awj b n&&p8 n l
def yP:Nat→Nat→List BPat→List (Nat×Nat)
 | _,0,_=> []
 | _,_,[] => []
 | i,k+1,p::ps=>match p with | .none=>yP (i+1) k ps | _=>(i,i)::yP (i+1) k ps
def MS.fine (n:Nat) (m:MS):Bool:=apart m.fz m.β&&(Dj n m m.ρ&&p8 n m.nw)
def Fh (n0:Nat) (hp:List Blk) (ps:List Pat) (svs:List SV) (bps:List BPat):Option (List SV×List Blk×List Dat×MS):=
 match convs hp ps svs ⟨lN n0,yP 0 n0 bps,[],[]⟩ with
 | some (svs',ds,m)=>(match fN hp bps 0 m with
  | some (hp',ds',m)=>bif asN n0 bps.length&&m.fine bps.length then some (svs',hp',ds++ds',m) else none
  | none=>none)
 | none=>none
def Pu (n0:Nat) (hp:List Blk) (get:Nat→SV) (ps:List Pat) (bps:List BPat):Option (List SV×List Blk×List Dat×MS):=
 match iX hp get ps 0 ⟨lN n0,yP 0 n0 bps,[],[]⟩ with
 | some (svs',ds,m)=>(match fN hp bps 0 m with
  | some (hp',ds',m)=>bif asN n0 bps.length&&m.fine bps.length then some (svs',hp',ds++ds',m) else none
  | none=>none)
 | none=>none
theorem xZ {hp:List Blk} {e:List CSh} {m m':MS} {sv sv':SV} {ds:List Dat} (h:nj hp e m sv=some (sv',ds,m')):∃ l,sv'= .rd e l∧ds= [.r l] :=by
 unfold nj at h
 split at h
 ·rename_i e' l
  cases hb:CSh.beqs e e' <;>rw [hb] at h <;>cases h
  exact ⟨_,rfl,rfl⟩
 ·rename_i e' l
  cases hb:CSh.beqs e e' <;>rw [hb] at h <;>cases h
  exact ⟨_,rfl,rfl⟩
 ·cases h;exact ⟨_,rfl,rfl⟩
 ·cases h;exact ⟨_,rfl,rfl⟩
 ·split at h
  ·rename_i e' l _
   cases hb:CSh.beqs e e' <;>rw [hb] at h <;>cases h
   exact ⟨_,rfl,rfl⟩
  ·cases h
 ·split at h
  ·split at h
   ·rename_i N _ _ _ N' k l _ _
    revert h
    cases hb:asM N' _ <;>intro h
    ·cases h
    ·simp only [cond_true] at h
     revert h
     cases hb2:CSh.beqs e [.int k] <;>intro h
     ·cases h
     ·cases h;exact ⟨_,rfl,rfl⟩
   ·cases h
  ·cases h
 ·cases h
theorem Ji {hp:List Blk} {e:List CSh} {m m':MS} {sv sv':SV} {ds:List Dat} (h:oB hp e m sv=some (sv',ds,m')):∃ l,sv'= .rd e l∧ds= [.r l] :=by
 unfold oB at h
 split at h
 ·split at h
  ·split at h
   ·cases h;exact ⟨_,rfl,rfl⟩
   ·cases h
  ·cases h
 ·exact xZ h
mutual
theorem xD {hp:List Blk} :∀ {p:Pat} {sv sv':SV} {m m':MS} {ds:List Dat},conv hp p sv m=some (sv',ds,m')→(∀ F,UY p F→F sv' ds)∧∀ rest,bM p (ds++rest)=(sv',rest)
 | .skip,sv,sv',m,m',ds,h=>by
  simp only [conv] at h
  split at h
  ·cases h
  ·cases h
  ·cases h;exact ⟨fun F hF=>hF,fun rest=>rfl⟩
 | .int k,sv,sv',m,m',ds,h=>by
  simp only [conv] at h
  split at h
  ·split at h
   ·cases h;exact ⟨fun F hF=>hF _,fun rest=>rfl⟩
   ·cases h
  ·cases h
 | .bool,sv,sv',m,m',ds,h=>by
  simp only [conv] at h
  split at h
  ·cases h;exact ⟨fun F hF=>hF _,fun rest=>rfl⟩
  ·cases h
 | .str,sv,sv',m,m',ds,h=>by
  simp only [conv] at h
  split at h
  ·cases h;exact ⟨fun F hF=>hF _,fun rest=>rfl⟩
  ·cases h
 | .rd e,sv,sv',m,m',ds,h=>by
  simp only [conv] at h
  have:∃ l,sv'= .rd e l∧ds= [.r l] :=Ji h
  obtain ⟨l,rfl,rfl⟩:=this
  exact ⟨fun F hF=>hF _,fun rest=>rfl⟩
 | .own i,sv,sv',m,m',ds,h=>by
  simp only [conv] at h
  split at h
  ·split at h
   ·cases h;exact ⟨fun F hF=>hF,fun rest=>rfl⟩
   ·cases h
  ·split at h
   ·cases h;exact ⟨fun F hF=>hF,fun rest=>rfl⟩
   ·cases h
  ·cases h
 | .ptr i c,sv,sv',m,m',ds,h=>by
  simp only [conv] at h
  split at h
  ·rename_i b c'
   cases hb:asM c c' <;>rw [hb] at h
   ·cases h
   ·simp only [cond_true] at h
    split at h
    ·cases h;exact ⟨fun F hF=>hF,fun rest=>rfl⟩
    ·cases h
  ·cases h
 | .nilp,sv,sv',m,m',ds,h=>by
  simp only [conv] at h
  split at h
  ·cases h;exact ⟨fun F hF=>hF,fun rest=>rfl⟩
  ·cases h
 | .nilf,sv,sv',m,m',ds,h=>by
  simp only [conv] at h
  split at h
  ·cases h;exact ⟨fun F hF=>hF,fun rest=>rfl⟩
  ·cases h
 | .nils,sv,sv',m,m',ds,h=>by
  simp only [conv] at h
  split at h
  ·cases h;exact ⟨fun F hF=>hF,fun rest=>rfl⟩
  ·cases h
 | .agg ps,sv,sv',m,m',ds,h=>by
  simp only [conv] at h
  split at h
  ·split at h
   ·rename_i svs ds' m1 hc
    cases h
    obtain ⟨h1,h2⟩:=convs_all hc
    exact ⟨fun F hF=>h1 _ hF,fun rest=>by simp only [bM,h2 rest]⟩
   ·cases h
  ·cases h
 | .arrI n k,sv,sv',m,m',ds,h=>by
  simp only [conv] at h
  split at h
  ·split at h
   ·rename_i n' k' l hk
    cases hb:asM n n' <;>rw [hb] at h <;>cases h
    exact ⟨fun F hF=>hF _,fun rest=>rfl⟩
   ·cases h
  ·cases h
 | .arrB n,sv,sv',m,m',ds,h=>by
  simp only [conv] at h
  split at h
  ·rename_i n' l
   cases hb:asM n n' <;>rw [hb] at h <;>cases h
   exact ⟨fun F hF=>hF _,fun rest=>rfl⟩
  ·cases h
 | .tup ps,sv,sv',m,m',ds,h=>by
  simp only [conv] at h
  split at h
  ·split at h
   ·rename_i svs ds' m1 hc
    cases h
    obtain ⟨h1,h2⟩:=convs_all hc
    exact ⟨fun F hF=>h1 _ hF,fun rest=>by simp only [bM,h2 rest]⟩
   ·cases h
  ·cases h
 | .fn f ps,sv,sv',m,m',ds,h=>by
  simp only [conv] at h
  split at h
  ·rename_i f' cs
   cases hb:asM f f' <;>rw [hb] at h
   ·cases h
   ·simp only [cond_true] at h
    split at h
    ·rename_i svs ds' m1 hc
     cases h
     obtain ⟨h1,h2⟩:=convs_all hc
     exact ⟨fun F hF=>h1 _ hF,fun rest=>by simp only [bM,h2 rest]⟩
    ·cases h
  ·cases h
 | .fb f ps,sv,sv',m,m',ds,h=>by
  simp only [conv] at h
  split at h
  ·rename_i f' cs
   cases hb:asM f f' <;>rw [hb] at h
   ·cases h
   ·simp only [cond_true] at h
    split at h
    ·rename_i svs ds' m1 hc
     cases h
     obtain ⟨h1,h2⟩:=convs_all hc
     exact ⟨fun F hF=>h1 _ hF,fun rest=>by simp only [bM,h2 rest]⟩
    ·cases h
  ·cases h
 | .nili,sv,sv',m,m',ds,h=>by
  simp only [conv] at h
  split at h
  ·cases h;exact ⟨fun F hF=>hF,fun rest=>rfl⟩
  ·cases h
 | .iface t p,sv,sv',m,m',ds,h=>by
  simp only [conv] at h
  split at h
  ·rename_i t' v
   cases hb:asM t t' <;>rw [hb] at h
   ·cases h
   ·simp only [cond_true] at h
    split at h
    ·rename_i sv1 ds' m1 hc
     cases h
     obtain ⟨h1,h2⟩:=xD hc
     exact ⟨fun F hF=>h1 _ hF,fun rest=>by simp only [bM,h2 rest]⟩
    ·cases h
  ·cases h
theorem convs_all {hp:List Blk} :∀ {ps:List Pat} {svs svs':List SV} {m m':MS} {ds:List Dat},convs hp ps svs m=some (svs',ds,m')→(∀ F,allPs ps F→F svs' ds)∧∀ rest,instPs ps (ds++rest)=(svs',rest)
 | [],svs,svs',m,m',ds,h=>by
  simp only [convs] at h
  split at h
  ·cases h;exact ⟨fun F hF=>hF,fun rest=>rfl⟩
  ·cases h
 | p::ps,svs,svs',m,m',ds,h=>by
  simp only [convs] at h
  split at h
  ·split at h
   ·rename_i sv1 d m1 h1
    split at h
    ·rename_i svs2 ds2 m2 h2
     cases h
     obtain ⟨a1,a2⟩:=xD h1
     obtain ⟨b1,b2⟩:=convs_all h2
     refine ⟨fun F hF=>b1 _ (a1 _ hF),fun rest=> ?_⟩
     simp only [instPs,fE,a2,b2]
    ·cases h
   ·cases h
  ·cases h
end
theorem tr {hp:List Blk} {get:Nat→SV} :∀ {ps:List Pat} {t:Nat} {svs':List SV} {m m':MS} {ds:List Dat},iX hp get ps t m=some (svs',ds,m')→(∀ F,allPs ps F→F svs' ds)∧∀ rest,instPs ps (ds++rest)=(svs',rest)
 | [],t,svs',m,m',ds,h=>by
  simp only [iX] at h
  cases h;exact ⟨fun F hF=>hF,fun rest=>rfl⟩
 | p::ps,t,svs',m,m',ds,h=>by
  have gen:(match conv hp p (get t) m with
    | some (sv,d,m)=>(match iX hp get ps (t+1) m with | some (svs,ds,m)=>some (sv::svs,d++ds,m) | none=>none)
    | none=>none)=some (svs',ds,m')→(∀ F,allPs (p::ps) F→F svs' ds)∧∀ rest,instPs (p::ps) (ds++rest)=(svs',rest):=fun h=>by
   split at h
   ·rename_i sv1 d m1 h1
    split at h
    ·rename_i svs2 ds2 m2 h2
     cases h
     obtain ⟨a1,a2⟩:=xD h1
     obtain ⟨b1,b2⟩:=tr h2
     refine ⟨fun F hF=>b1 _ (a1 _ hF),fun rest=> ?_⟩
     simp only [instPs,fE,a2,b2]
    ·cases h
   ·cases h
  cases p with
  | skip=>
   simp only [iX] at h
   split at h
   ·rename_i svs2 ds2 m2 h2
    cases h
    obtain ⟨b1,b2⟩:=tr h2
    exact ⟨fun F hF=>b1 _ hF,fun rest=>by simp only [instPs,bM,b2]⟩
   ·cases h
  | _=>exact gen h
theorem Tx {hp:List Blk} {i:Nat} {m m':MS} {p:BPat} {x:Blk} {ds:List Dat} (h:tv hp i m p=some (x,ds,m')):(∀ F,ag5 p F→F x ds)∧∀ rest,qY p (ds++rest)=(x,rest):=by
 unfold tv at h
 split at h
 ·cases p with
  | none=>cases h;exact ⟨fun F hF=>hF,fun rest=>rfl⟩
  | cells T ps=>
   simp only at h
   split at h
   ·rename_i T' cs _
    cases hb:asM T' T <;>rw [hb] at h
    ·cases h
    ·simp only [cond_true] at h
     split at h
     ·rename_i svs ds' m1 hc
      cases h
      obtain ⟨h1,h2⟩:=convs_all hc
      exact ⟨fun F hF=>h1 _ hF,fun rest=>by simp only [qY,h2 rest]⟩
     ·cases h
   ·cases h
  | own T e=>
   simp only at h
   split at h
   ·rename_i T' e' l _
    cases hb:asM T' T <;>rw [hb] at h
    ·cases h
    ·simp only [cond_true] at h
     cases hb2:CSh.beqs e e' <;>rw [hb2] at h <;>cases h
     exact ⟨fun F hF=>hF _,fun rest=>rfl⟩
   ·cases h
 ·cases p with
  | none=>cases h;exact ⟨fun F hF=>hF,fun rest=>rfl⟩
  | cells T ps=>cases h
  | own T e=>
   simp only at h
   cases hb:bW m.nw i <;>rw [hb] at h <;>cases h
   exact ⟨fun F hF=>hF _,fun rest=>rfl⟩
theorem iI {hp:List Blk} :∀ {ps:List BPat} {i:Nat} {m m':MS} {xs:List Blk} {ds:List Dat},fN hp ps i m=some (xs,ds,m')→(∀ F,Dn ps F→F xs ds)∧(∀ rest,kU ps (ds++rest)=(xs,rest))∧xs.length=ps.length
 | [],i,m,m',xs,ds,h=>by
  simp only [fN] at h
  cases h;exact ⟨fun F hF=>hF,fun rest=>rfl,rfl⟩
 | p::ps,i,m,m',xs,ds,h=>by
  simp only [fN] at h
  split at h
  ·rename_i x d m1 h1
   split at h
   ·rename_i xs2 ds2 m2 h2
    cases h
    obtain ⟨a1,a2⟩:=Tx h1
    obtain ⟨b1,b2,b3⟩:=iI h2
    refine ⟨fun F hF=>b1 _ (a1 _ hF),fun rest=> ?_,by simp [b3]⟩
    simp only [kU,fE,a2,b2]
   ·cases h
  ·cases h
theorem Ho {n0:Nat} {hp hp':List Blk} {ps:List Pat} {svs svs':List SV} {bps:List BPat} {ds:List Dat} {m:MS} (h:Fh n0 hp ps svs bps=some (svs',hp',ds,m)):
  ∃ ds1 ds2 m1,ds=ds1++ds2∧convs hp ps svs ⟨lN n0,yP 0 n0 bps,[],[]⟩=some (svs',ds1,m1)∧fN hp bps 0 m1=some (hp',ds2,m)∧n0≤bps.length∧m.fine bps.length=true:=by
 unfold Fh at h
 split at h
 ·rename_i s1 d1 m1 h1
  split at h
  ·rename_i x2 d2 m2 h2
   cases hb:(asN n0 bps.length&&m2.fine bps.length) <;>rw [hb] at h <;>cases h
   simp only [cZ,awk] at hb
   exact ⟨d1,d2,m1,rfl,h1,h2,hb.1,hb.2⟩
  ·cases h
 ·cases h
theorem Qt {n0:Nat} {hp hp':List Blk} {ps:List Pat} {get:Nat→SV} {svs':List SV} {bps:List BPat} {ds:List Dat} {m:MS} (h:Pu n0 hp get ps bps=some (svs',hp',ds,m)):
  ∃ ds1 ds2 m1,ds=ds1++ds2∧iX hp get ps 0 ⟨lN n0,yP 0 n0 bps,[],[]⟩=some (svs',ds1,m1)∧fN hp bps 0 m1=some (hp',ds2,m)∧n0≤bps.length∧m.fine bps.length=true:=by
 unfold Pu at h
 split at h
 ·rename_i s1 d1 m1 h1
  split at h
  ·rename_i x2 d2 m2 h2
   cases hb:(asN n0 bps.length&&m2.fine bps.length) <;>rw [hb] at h <;>cases h
   simp only [cZ,awk] at hb
   exact ⟨d1,d2,m1,rfl,h1,h2,hb.1,hb.2⟩
  ·cases h
 ·cases h
end Go.Avc
