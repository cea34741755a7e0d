/-
 AVC, part O: regions whose order isn't given: the trace in the text's order, and each operation by itself.
-/
import Derived.Test.YteiecapbaeajdaaGreatDoorJ2
import Derived.Laws.Sem
namespace Go.Avc
set_option linter.unusedVariables false
set_option linter.unusedSimpArgs false
def SV.h1:SV→List Nat
 | .ptr b _=> [b]
 | .aptr b _ _=> [b]
 | .own b=> [b]
 | .lit b=> [b]
 | .win b _ _ _ _=> [b]
 | .optr b _ _ _=> [b]
 | .ow b _ _ _=> [b]
 | _=> []
mutual
def SV.hs:SV→List Nat
 | .agg cs=>hsL cs
 | .fn _ cs=>hsL cs
 | .fb _ cs=>hsL cs
 | .tup cs=>hsL cs
 | .sls cs=>hsL cs
 | .iface _ v=>v.hs
 | s=>s.h1
def hsL:List SV→List Nat
 | [] => []
 | s::cs=>s.hs++hsL cs
end
def Blk.hs:Blk→List Nat
 | .cells _ cs=>hsL cs
 | _=> []
def yG (hp:List Blk):Nat→List Nat→List Nat
 | 0,l=>l
 | n+1,l=>match (l.flatMap fun b=>(hp.getD b .none).hs) with | [] =>l | m=>l++yG hp n m
def rZ (glob:Nat→Option SV) (s:AS):Op→List Nat
 | .load _ a=>(s.ev glob a).h1
 | .store _ a _=>(s.ev glob a).h1
 | .indexAddr _ x _=>(s.ev glob x).h1
 | .slice _ x _ _ _=>(s.ev glob x).h1
 | .convert _ _ x=>(s.ev glob x).h1
 | .sliceToArrayPointer _ x=>(s.ev glob x).h1
 | .call c=>(match c.callee with
  | .builtin _=>c.args.toList.flatMap fun x=>(s.ev glob x).h1
  | .value f=>yG s.hp 6 ((s.ev glob f).hs++c.args.toList.flatMap fun x=>(s.ev glob x).hs)
  | .invoke r _=>yG s.hp 6 ((s.ev glob r).hs++c.args.toList.flatMap fun x=>(s.ev glob x).hs))
 | _=> []
def bp (A:List Nat):Nat→List Blk→List Blk
 | _,[] => []
 | i,x::xs=>(if A.contains i then x else .none)::bp A (i+1) xs
structure Eff where
 dst:Option Tmp
 sv:SV
 acc:List Nat
 upd:List (Nat×Blk)
 base:Nat
 news:List Blk
def cW:List (Nat×Blk)→Nat→Option Blk
 | [],_=>none
 | (b,x)::l,i=>match cW l i with | some y=>some y | none=>if b=i then some x else none
def Eff.hpW (e:Eff) (b:Nat):Option Blk:=if e.base≤b then e.news[b-e.base]? else cW e.upd b
def kL:Nat→List Blk→List Nat
 | _,[] => []
 | n,_::l=>n::kL (n+1) l
def Eff.key (e:Eff):List Nat×List Nat:=(e.acc,e.upd.map (·.1)++kL e.base e.news)
def Eff.tmW (e:Eff) (n:Nat) (t:Nat):Option SV:=if e.dst=some t then (if t<n then some e.sv else none) else none
def AS.app (s:AS) (e:Eff):AS:=(⟨s.tm,bq s.hp e.upd++e.news⟩:AS).put e.dst e.sv
section
variable (C:Ctx)
def pu (A:List Nat) (n:Nat):List (Nat×Blk)→Bool
 | [] =>true
 | (b,_)::l=>A.contains b&&decide (b<n)&&pu A n l
def CR.dr (A:List Nat) (n:Nat) (K:SV→List (Nat×Blk)→List Blk→Prop):CR→Prop
 | .need p c=>p∧c.dr A n K
 | .know _ c=>c.dr A n K
 | .ret sv upd news=>pu A n upd=true∧K sv upd news
 | .ite b c1 c2=>bif b then c1.dr A n K else c2.dr A n K
 | _=>False
def kF (o:Oper) (A:List Nat) (s:AS) (K:Eff→Prop):OR→Prop
 | .bad=>False
 | .need p r=>p∧kF o A s K r
 | .know _ r=>kF o A s K r
 | .split b r1 r2=>(b=true→kF o A s K r1)∧(b=false→kF o A s K r2)
 | .val sv=>K ⟨o.dst,sv,A,[],s.hp.length,[]⟩
 | .new T cs=>K ⟨o.dst,.ptr s.hp.length 0,A,[],s.hp.length,[.cells T cs]⟩
 | .newRo sv=>K ⟨o.dst,sv,A,[],s.hp.length,[]⟩
 | .newOwn c T e l=>K ⟨o.dst,MM c s.hp.length,A,[],s.hp.length,[.own T e l]⟩
 | .upd b blk=>aP ((bp A 0 s.hp).getD b .none)=true∧K ⟨o.dst,.undef,A,[(b,blk)],s.hp.length,[]⟩
 | .cpy b blk=>aP ((bp A 0 s.hp).getD b .none)=true∧K ⟨o.dst,.dead,A,[(b,blk)],s.hp.length,[]⟩
 | .app b T e l=>aP ((bp A 0 s.hp).getD b .none)=true∧K ⟨o.dst,.own s.hp.length,A,[(b,.none)],s.hp.length,[.own T e l]⟩
 | .frz b sv=>aP ((bp A 0 s.hp).getD b .none)=true∧K ⟨o.dst,sv,A,[(b,.none)],s.hp.length,[]⟩
 | .anyB _=>False
 | .call f svs=>(C.spec f svs (bp A 0 s.hp)).dr A s.hp.length fun sv upd news=>K ⟨o.dst,sv,A,upd,s.hp.length,news⟩
def pQ (all:Array Oper):List Oper→AS→List (List Nat×List Nat)→(AS→List (List Nat×List Nat)→Prop)→Prop
 | [],s,es,K=>K s es
 | o::rest,s,es,K=>
  oZ all o s
   (fun s=>kF C o (rZ C.glob s o.op) s (fun e=>pQ all rest (s.app e) (es++ [e.key]) K) (fQ C.P C.zero (s.ev C.glob) (bp (rZ C.glob s o.op) 0 s.hp) o.op))
   (fun s=>pQ all rest (s.put o.dst .undef) (es++ [([],[])]) K)
end
def RG:List Oper→List Nat→List Nat
 | [],m=>m
 | o::rest,m=>RG rest (m++ [o.after.toList.foldl (fun acc e=>if Region.binds .any e then acc |||(1 <<< e.on) |||m.getD e.on 0 else acc) 0])
def jm (all:Array Oper) (oi oj:Oper) (ki kj:List Nat×List Nat):Bool:=
 (match oi.dst with | some d=>(oj.looksAt all).contains d||oj.dst==some d | none=>false) ||
 (match oj.dst with | some d=>(oi.looksAt all).contains d | none=>false) ||
 ki.2.any (fun b=>kj.1.contains b||kj.2.contains b)||kj.2.any (fun b=>ki.1.contains b)
def Fe (all:Array Oper) (m:List Nat) (es:List (List Nat×List Nat)):Bool:=
 (List.range all.size).all fun j=>(List.range j).all fun i=>
  match all[i]?,all[j]?,es[i]?,es[j]? with
  | some oi,some oj,some ki,some kj=> !jm all oi oj ki kj||(m.getD j 0).testBit i
  | _,_,_,_=>true
def FK (all:Array Oper):Bool:=(List.range all.size).all fun j=>match all[j]? with | some o=>o.after.toList.all fun e=> !Region.binds .any e||decide (e.on<j) | none=>true
def gv (all:Array Oper) (es:List (List Nat×List Nat)):Bool:=FK all&&Fe all (RG all.toList []) es
def P1 (C:Ctx) (all:Array Oper) (s:AS) (K:AS→Prop):Prop:=pQ C all all.toList s [] fun s' es=>gv all es=true∧K s'
theorem sa (A:List Nat):∀ (hp:List Blk) (i:Nat),(bp A i hp).length=hp.length
 | [],_=>rfl
 | x::xs,i=>by simp [bp,sa A xs (i+1)]
theorem nK (A:List Nat):∀ (hp:List Blk) (i b:Nat),(bp A i hp).getD b .none=if A.contains (i+b) then hp.getD b .none else .none
 | [],i,b=>by simp [bp]
 | x::xs,i,0=>by simp [bp]
 | x::xs,i,b+1=>by
  have:=nK A xs (i+1) b
  simp only [bp,List.getD_cons_succ]
  rw [this,show i+1+b=i+(b+1) from by omega]
theorem gM:∀ (l:List (Nat×Blk)) (hp:List Blk),(bq hp l).length=hp.length
 | [],_=>rfl
 | (b,x)::l,hp=>by simp [bq,gM l]
theorem Aq:∀ (l:List (Nat×Blk)) (hp:List Blk) (i:Nat),i<hp.length→(bq hp l).getD i .none=(cW l i).getD (hp.getD i .none)
 | [],_,_,_=>rfl
 | (b,x)::l,hp,i,h=>by
  simp only [bq]
  rw [Aq l _ i (by simpa using h),show cW ((b,x)::l) i=(match cW l i with | some y=>some y | none=>if b=i then some x else none) from rfl]
  cases hu:cW l i with
  | some y=>rfl
  | none=>
   by_cases hb:b=i
   ·subst hb
    simp only [Option.getD_none,if_true,Option.getD_some]
    exact gc _ _ h
   ·simp only [Option.getD_none,if_neg hb]
    exact iV _ _ (Ne.symm hb)
theorem xH {A:List Nat} {n:Nat} :∀ {l:List (Nat×Blk)} {i:Nat},pu A n l=true→cW l i≠none→A.contains i=true∧i<n
 | [],i,_,h=>absurd rfl h
 | (b,x)::l,i,hk,h=>by
  simp only [pu,cV,aK] at hk
  unfold cW at h
  cases hu:cW l i with
  | some y=>exact xH hk.2 (by rw [hu];simp)
  | none=>
   rw [hu] at h
   by_cases hb:b=i
   ·subst hb;exact hk.1
   ·simp [hb] at h
theorem ou (hp:List Blk) (upd:List (Nat×Blk)) (news:List Blk) (b:Nat):
  (bq hp upd++news).getD b .none=((if hp.length≤b then news[b-hp.length]? else cW upd b)).getD (hp.getD b .none):=by
 have hl:=gM upd hp
 by_cases hb:hp.length≤b
 ·rw [if_pos hb]
  have e0:hp.getD b .none= .none:=by rw [aw,fW hb];rfl
  rw [e0,aw,List.getElem?_append_right (by omega),hl]
 ·rw [if_neg hb]
  have e1:(bq hp upd++news).getD b .none=(bq hp upd).getD b .none:=by
   rw [aw,aw,List.getElem?_append_left (by omega)]
  rw [e1,Aq _ _ _ (by omega)]
section
variable {C:Ctx} {E:Ent}
theorem HV.mask {Im:Nat→Prop} {ι:Nat→Option Value} {w:World} {hp hpS:List Blk} {A:List Nat} (h:HV Im ι w hpS) (he:∀ b,A.contains b=true→hpS.getD b .none=hp.getD b .none):HV Im ι w (bp A 0 hp):=by
 intro b v hb
 rw [nK,Nat.zero_add]
 split
 ·rename_i hA
  rw [← he b hA]
  exact h b v hb
 ·trivial
theorem CR.dr_wp {A:List Nat} {n:Nat} {hp:List Blk} {K:SV→List (Nat×Blk)→List Blk→Prop} :∀ c:CR,c.dr A n K→∃ sv upd news,pu A n upd=true∧K sv upd news∧c.wp hp fun sv' hp'=>sv'=sv∧hp'=bq hp upd++news
 | .bad,h=>h.elim
 | .need p c,h=>by
  obtain ⟨sv,upd,news,h1,h2,h3⟩:=CR.dr_wp (hp:=hp) c h.2
  exact ⟨sv,upd,news,h1,h2,h.1,h3⟩
 | .know p c,h=>by
  obtain ⟨sv,upd,news,h1,h2,h3⟩:=CR.dr_wp (hp:=hp) c h
  exact ⟨sv,upd,news,h1,h2,fun _=>h3⟩
 | .ret sv upd news,h=>⟨sv,upd,news,h.1,h.2,rfl,rfl⟩
 | .anyI f,h=>h.elim
 | .anyB f,h=>h.elim
 | .anyL f,h=>h.elim
 | .ite true c1 c2,h=>CR.dr_wp c1 h
 | .ite false c1 c2,h=>CR.dr_wp c2 h
theorem Mem.frame {hpS hpM hpX hpF:List Blk} {Im Im':Nat→Prop} {ι ι':Nat→Option Value} {w w':World} {A:List Nat} {n k:Nat} (m:Mem C E hpS Im ι w)
  (hM:∀ b,hpM.getD b .none=if A.contains b then hpS.getD b .none else .none)
  (hX:Mem C ⟨w,Im,ι,fun r=>∃ b v,A.contains b=true∧ι b=some v∧aP (hpM.getD b .none)=true∧aH v=some r,[]⟩ hpX Im' ι' w')
  (hι:∀ b,¬ (n≤b∧b<n+k)→ι' b=ι b) (hn:∀ b,n≤b→b<n+k→ι b=none)
  (hF1:∀ b,(A.contains b=true∨(n≤b∧b<n+k))→hpF.getD b .none=hpX.getD b .none)
  (hF2:∀ b,A.contains b=false→¬ (n≤b∧b<n+k)→hpF.getD b .none=hpS.getD b .none):
  Mem C E hpF Im' ι' w':=by
 have hl:Later Im ι w Im' ι' w':=⟨hX.since.im,hX.since.hd,fun i hi=>hX.since.block i (m.mr.imlt i hi) fun ⟨b,v,h1,h2,h3,h4⟩=>by
  rw [hM,if_pos h1] at h3
  exact m.mr.imm b v i h3 h2 h4 hi⟩
 have hlt:∀ b v r,aP (hpS.getD b .none)=true→ι b=some v→aH v=some r→r<w.heap.size:=fun b v r h1 h2 h3=>by
  have hb:=m.hv b v h2
  cases hblk:hpS.getD b .none with
  | none=>rw [hblk] at h1;cases h1
  | ro e l=>rw [hblk] at h1;cases h1
  | cells T cs=>
   rw [hblk] at hb
   obtain ⟨r',vs,rfl,h4,_⟩:=hb
   cases h3
   exact (Array.getElem?_eq_some_iff.1 h4).1
  | own T e l=>
   rw [hblk] at hb
   obtain ⟨xs,⟨_,h2⟩,_⟩:=hb
   rcases h2 with ⟨a,rfl,_⟩ | ⟨g,cap,cur,rfl,h4,_,h6,_⟩
   ·exfalso
    revert h3
    cases a <;>simp [aH]
   ·simp [aH] at h3
    obtain ⟨_,rfl⟩:=h3
    exact (Array.getElem?_eq_some_iff.1 h4).1
 have hout:∀ b v,A.contains b=false→¬ (n≤b∧b<n+k)→ι' b=some v→ι b=some v:=fun b v _ h2 h3=>by rw [← hι b h2];exact h3
 have hnot:∀ b v r,A.contains b=false→ι b=some v→aP (hpS.getD b .none)=true→aH v=some r→¬ ∃ b v,A.contains b=true∧ι b=some v∧aP (hpM.getD b .none)=true∧aH v=some r:=by
  rintro b v r h1 h2 h3 h4 ⟨b',v',h5,h6,h7,h8⟩
  rw [hM,if_pos h5] at h7
  have:=m.mr.sep b b' v v' r h3 h7 h2 h6 h4 h8
  subst this
  rw [h1] at h5;cases h5
 have hpast:∀ r,(∃ b v,A.contains b=true∧ι b=some v∧aP (hpM.getD b .none)=true∧aH v=some r)→E.w.heap.size≤r∨E.F r:=by
  rintro r ⟨b',v',h5,h6,h7,h8⟩
  rw [hM,if_pos h5] at h7
  exact m.mr.mine b' v' r h7 h6 h8
 have hcase:∀ b,(A.contains b=true∨(n≤b∧b<n+k))∨(A.contains b=false∧¬ (n≤b∧b<n+k)):=fun b=>by
  by_cases h:n≤b∧b<n+k
  ·exact .inl (.inr h)
  ·cases hA:A.contains b
   ·exact .inr ⟨rfl,h⟩
   ·exact .inl (.inl rfl)
 refine ⟨?_,⟨hX.mr.imlt,?_,?_,?_⟩,⟨hX.since.os.trans m.since.os,hX.since.tape.trans m.since.tape,hX.since.output.trans m.since.output,Nat.le_trans m.since.size hX.since.size,?_,fun b v h=>hX.since.hd b v (m.since.hd b v h),fun i h=>hX.since.im i (m.since.im i h),?_⟩,hX.glob⟩
 ·intro b v hb
  rcases hcase b with h | ⟨h1,h2⟩
  ·rw [hF1 b h];exact hX.hv b v hb
  ·rw [hF2 b h1 h2]
   have hb':=hout b v h1 h2 hb
   exact BRel.later hl (fun r hr hf=>hX.since.block r (hlt b v r hr hb' hf) (hnot b v r h1 hb' hr hf)) (m.hv b v hb')
 ·intro b v r h1 h2 h3
  rcases hcase b with h | ⟨h4,h5⟩
  ·rw [hF1 b h] at h1;exact hX.mr.imm b v r h1 h2 h3
  ·rw [hF2 b h4 h5] at h1
   have hb':=hout b v h4 h5 h2
   intro hI
   rcases hX.since.imnew r hI with h | h | h
   ·exact m.mr.imm b v r h1 hb' h3 h
   ·have:=hlt b v r h1 hb' h3
    exact absurd h (by simpa using this)
   ·exact hnot b v r h4 hb' h1 h3 h
 ·intro b b' v v' r h1 h2 h3 h4 h5 h6
  have hmix:∀ b b' v v',aP (hpX.getD b .none)=true→ι' b=some v→aH v=some r→A.contains b'=false→¬ (n≤b'∧b'<n+k)→aP (hpS.getD b' .none)=true→ι' b'=some v'→aH v'=some r→False:=fun b b' v v' g1 g2 g3 g4 g5 g6 g7 g8=>by
   have g9:=hout b' v' g4 g5 g7
   rcases hX.mr.mine b v r g1 g2 g3 with g | g
   ·have:=hlt b' v' r g6 g9 g8
    exact absurd g (by simpa using this)
   ·exact hnot b' v' r g4 g9 g6 g8 g
  rcases hcase b with h | ⟨g1,g2⟩
  ·rw [hF1 b h] at h1
   rcases hcase b' with h' | ⟨g3,g4⟩
   ·rw [hF1 b' h'] at h2
    exact hX.mr.sep b b' v v' r h1 h2 h3 h4 h5 h6
   ·rw [hF2 b' g3 g4] at h2
    exact (hmix b b' v v' h1 h3 h5 g3 g4 h2 h4 h6).elim
  ·rw [hF2 b g1 g2] at h1
   rcases hcase b' with h' | ⟨g3,g4⟩
   ·rw [hF1 b' h'] at h2
    exact (hmix b' b v' v h2 h4 h6 g1 g2 h1 h3 h5).elim
   ·rw [hF2 b' g3 g4] at h2
    exact m.mr.sep b b' v v' r h1 h2 (hout b v g1 g2 h3) (hout b' v' g3 g4 h4) h5 h6
 ·intro b v r h1 h2 h3
  rcases hcase b with h | ⟨h4,h5⟩
  ·rw [hF1 b h] at h1
   rcases hX.mr.mine b v r h1 h2 h3 with g | g
   ·exact .inl (Nat.le_trans m.since.size g)
   ·exact hpast r g
  ·rw [hF2 b h4 h5] at h1
   exact m.mr.mine b v r h1 (hout b v h4 h5 h2) h3
 ·intro i hi hF
  refine (hX.since.block i (Nat.lt_of_lt_of_le hi m.since.size) fun g=> ?_).trans (m.since.block i hi hF)
  rcases hpast i g with h | h
  ·omega
  ·exact hF h
 ·intro i hi
  rcases hX.since.imnew i hi with h | h | h
  ·exact m.since.imnew i h
  ·exact .inr (.inl (Nat.le_trans m.since.size h))
  ·exact .inr (hpast i h)
end
section
variable {C:Ctx} {E B:Ent}
theorem Mem.congr {hp hp':List Blk} {Im:Nat→Prop} {ι:Nat→Option Value} {w:World} (m:Mem C E hp Im ι w) (h:∀ b,hp'.getD b .none=hp.getD b .none):Mem C E hp' Im ι w:=
 ⟨fun b v hb=>by rw [h];exact m.hv b v hb,⟨m.mr.imlt,fun b v r h1=>m.mr.imm b v r (by rwa [h] at h1),fun b b' v v' r h1 h2=>m.mr.sep b b' v v' r (by rwa [h] at h1) (by rwa [h] at h2),fun b v r h1=>m.mr.mine b v r (by rwa [h] at h1)⟩,m.since,m.glob⟩
theorem Ak {all:Array Oper} {o:Oper} {s:AS} {tmS:List SV} {hpS:List Blk} {p q:Prop} (hl:∀ t,t∈o.looksAt all→aM tmS t=aM s.tm t) (h:dt all o s p q):dt all o ⟨tmS,hpS⟩ p q:=by
 unfold dt at h ⊢
 split at h
 ·exact h
 ·rename_i j want hg
  cases hd:(all[j]?).bind (·.dst) with
  | none=>rw [hd] at h;simpa using h
  | some d=>
   rw [hd] at h
   simp only
   rw [hl d (by unfold Oper.looksAt;rw [hg];simp [hd])]
   exact h
theorem KN {all:Array Oper} {o:Oper} {s:AS} {p q:Prop} (h:dt all o s p q):(dt all o s True False∧p)∨(dt all o s False True∧q):=by
 unfold dt at h ⊢
 split at h
 ·exact .inl ⟨trivial,h⟩
 ·rename_i j want hg
  cases hd:(all[j]?).bind (·.dst) with
  | none=>rw [hd] at h;exact .inr ⟨trivial,h⟩
  | some d=>
   rw [hd] at h
   simp only at h ⊢
   split at h
   ·rename_i b hb
    by_cases hbw:b=want
    ·exact .inl ⟨⟨fun _=>trivial,fun h'=>(h' hbw).elim⟩,h.1 hbw⟩
    ·exact .inr ⟨⟨fun h'=>(hbw h').elim,fun _=>trivial⟩,h.2 hbw⟩
   ·exact .inr ⟨trivial,h⟩
   ·exact h.elim
structure Sched (C:Ctx) (all:Array Oper) (o:Oper) (s:AS) (A:List Nat) (E:Ent) (tmS:List SV) (hpS:List Blk) (Im:Nat→Prop) (ι:Nat→Option Value) (a:Act) (w:World):Prop where
 rel:Rel C E ⟨tmS,hpS⟩ Im ι a w
 len:tmS.length=s.tm.length
 tm:∀ t,t∈o.looksAt all→aM tmS t=aM s.tm t
 hp:∀ b,A.contains b=true→hpS.getD b .none=s.hp.getD b .none
structure EffOk (C:Ctx) (all:Array Oper) (o:Oper) (s:AS) (e:Eff):Prop where
 dst:e.dst=o.dst
 base:e.base=s.hp.length
 keys:∀ b,cW e.upd b≠none→b<e.base
 does:∀ E Im ι w a tmS hpS,Sched C all o s e.acc E tmS hpS Im ι a w→(∀ b,e.base≤b→b<e.base+e.news.length→ι b=none)→
  ∀ hpF,(∀ b,hpF.getD b .none=(e.hpW b).getD (hpS.getD b .none))→∀ (next:Act→World→Prop) (Q:Exit→Act→World→Prop),
   (∀ a' w' Im' ι',Rel C E ((⟨tmS,hpF⟩:AS).put e.dst e.sv) Im' ι' a' w'→(∀ b,¬ (e.base≤b∧b<e.base+e.news.length)→ι' b=ι b)→Later Im ι w Im' ι' w'→next a' w')→
   (Region.wanted o (yielded all a.tmps)=true∧o.wp C.P a w next Q)∨(Region.wanted o (yielded all a.tmps)=false∧next (a.put o.dst undef) w)
theorem du {all:Array Oper} {o:Oper} {s:AS} {A:List Nat} (h:dt all o s True False) {tmS:List SV} {hpS:List Blk} {Im:Nat→Prop} {ι:Nat→Option Value} {a:Act} {w:World} (hs:Sched C all o s A E tmS hpS Im ι a w):
  Region.wanted o (yielded all a.tmps)=true:=by
 rcases se (s:=⟨tmS,hpS⟩) hs.rel.tm (Ak hs.tm h) with ⟨h1,_⟩ | ⟨_,h2⟩
 ·exact h1
 ·exact h2.elim
theorem Ea {all:Array Oper} {o:Oper} {s:AS} {A:List Nat} (h:dt all o s False True) {tmS:List SV} {hpS:List Blk} {Im:Nat→Prop} {ι:Nat→Option Value} {a:Act} {w:World} (hs:Sched C all o s A E tmS hpS Im ι a w):
  Region.wanted o (yielded all a.tmps)=false:=by
 rcases se (s:=⟨tmS,hpS⟩) hs.rel.tm (Ak hs.tm h) with ⟨_,h2⟩ | ⟨h1,_⟩
 ·exact h2.elim
 ·exact h1
theorem zs (d:Option Tmp) (sv:SV) (A:List Nat) (n:Nat) (x:Blk) (y:Blk) {b:Nat} :((Eff.mk d sv A [] n [x]).hpW b).getD y=if b=n then x else y:=by
 unfold Eff.hpW
 simp only
 by_cases h:n≤b
 ·rw [if_pos h]
  by_cases hb:b=n
  ·subst hb;simp
  ·rw [if_neg hb,fW (by simp;omega)];rfl
 ·rw [if_neg h,if_neg (by omega)];rfl
theorem A8 (d:Option Tmp) (sv:SV) (A:List Nat) (n:Nat) (y:Blk) {b:Nat} :((Eff.mk d sv A [] n []).hpW b).getD y=y:=by
 unfold Eff.hpW
 simp only
 split <;>rfl
theorem mB (d:Option Tmp) (sv:SV) (A:List Nat) (n:Nat) (x:Blk) (y:Blk) {b b0:Nat} (h0:b0<n):((Eff.mk d sv A [(b0,x)] n []).hpW b).getD y=if b=b0 then x else y:=by
 unfold Eff.hpW
 simp only [cW]
 by_cases h:n≤b
 ·rw [if_pos h,if_neg (by omega)];rfl
 ·rw [if_neg h]
  by_cases hb:b=b0
  ·subst hb;simp
  ·rw [if_neg hb,if_neg (Ne.symm hb)];rfl
theorem E9 (d:Option Tmp) (sv:SV) (A:List Nat) (n:Nat) (x z:Blk) (y:Blk) {b b0:Nat} (h0:b0<n):((Eff.mk d sv A [(b0,x)] n [z]).hpW b).getD y=if b=n then z else if b=b0 then x else y:=by
 unfold Eff.hpW
 simp only [cW]
 by_cases h:n≤b
 ·rw [if_pos h]
  by_cases hb:b=n
  ·subst hb;simp
  ·rw [if_neg hb,if_neg (by omega),fW (by simp;omega)];rfl
 ·have hbn:¬ b=n:=by omega
  simp only [h,hbn,if_false]
  by_cases hb:b=b0
  ·subst hb;simp
  ·rw [if_neg hb,if_neg (Ne.symm hb)];rfl
theorem oW {b0 n:Nat} {x:Blk} (h:b0<n):∀ b,cW [(b0,x)] b≠none→b<n:=fun b hb=>by
 simp only [cW] at hb
 by_cases e:b0=b
 ·omega
 ·simp [e] at hb
theorem fp {A:List Nat} {hp:List Blk} {b:Nat} (h:aP ((bp A 0 hp).getD b .none)=true):A.contains b=true∧aP (hp.getD b .none)=true∧b<hp.length:=by
 have h':=h
 rw [nK,Nat.zero_add] at h
 split at h
 ·rename_i hA
  exact ⟨hA,h,by have:=ol h';rwa [sa] at this⟩
 ·cases h
def uv (w:World) (Im:Nat→Prop) (ι:Nat→Option Value) (A:List Nat) (hpM:List Blk):Ent:=⟨w,Im,ι,fun r=>∃ b v,A.contains b=true∧ι b=some v∧aP (hpM.getD b .none)=true∧aH v=some r,[]⟩
theorem t9 (hC:C.Ok) {all:Array Oper} {o:Oper} {s:AS} {A:List Nat} {K:Eff→Prop} (hw:dt all o s True False):
  ∀ r,(∀ E Im ι w a tmS hpS,Sched C all o s A E tmS hpS Im ι a w→bg C.P Im ι w ((execOp a.eval o).run C.P w) r)→kF C o A s K r→∃ e,EffOk C all o s e∧K e
 | .bad,_,h=>h.elim
 | .need p r,hs,h=>t9 hC hw r (fun E Im ι w a tmS hpS k=>hs E Im ι w a tmS hpS k h.1) h.2
 | .know p r,hs,h=>t9 hC hw r (fun E Im ι w a tmS hpS k=>(hs E Im ι w a tmS hpS k).2) h
 | .split b r1 r2,hs,h=>by
  cases hb:b with
  | true=>exact t9 hC hw r1 (fun E Im ι w a tmS hpS k=>(hs E Im ι w a tmS hpS k).1 hb) (h.1 hb)
  | false=>exact t9 hC hw r2 (fun E Im ι w a tmS hpS k=>(hs E Im ι w a tmS hpS k).2 hb) (h.2 hb)
 | .val sv,hs,h=>by
  refine ⟨_,⟨rfl,rfl,fun b hb=>absurd rfl hb,fun E Im ι w a tmS hpS k hn hpF hF next Q hK=> .inl ⟨du hw k,?_⟩⟩,h⟩
  obtain ⟨v,hr,hv⟩:=hs E Im ι w a tmS hpS k
  unfold Oper.wp
  rw [hr]
  exact hK _ _ Im ι (k.rel.put (Later.refl _ _ _) (k.rel.mem.congr fun b=>by rw [hF,A8]) o.dst hv) (fun _ _=>rfl) (Later.refl _ _ _)
 | .new T cs,hs,h=>by
  refine ⟨_,⟨rfl,rfl,fun b hb=>absurd rfl hb,fun E Im ι w a tmS hpS k hn hpF hF next Q hK=> .inl ⟨du hw k,?_⟩⟩,h⟩
  obtain ⟨vs,hr,hv⟩:=hs E Im ι w a tmS hpS k
  unfold Oper.wp
  rw [hr]
  obtain ⟨hm,hl⟩:=Lo (c:=s.hp.length) (hp':=hpF) k.rel.mem (hn _ (Nat.le_refl _) (by simp)) (fun b hb=>by rw [hF,zs,if_neg hb]) (by rw [hF,zs,if_pos rfl]) hv
  exact hK _ _ Im _ (k.rel.put hl hm o.dst ⟨_,ιset_same _ _ _,rfl⟩) (fun b hb=>ιset_other _ _ _ fun e=>hb ⟨by simp [e],by simp [e]⟩) hl
 | .newRo sv,hs,h=>by
  refine ⟨_,⟨rfl,rfl,fun b hb=>absurd rfl hb,fun E Im ι w a tmS hpS k hn hpF hF next Q hK=> .inl ⟨du hw k,?_⟩⟩,h⟩
  obtain ⟨v,w',hr,hg,hv⟩:=hs E Im ι w a tmS hpS k
  unfold Oper.wp
  rw [hr]
  have hl:=fk hg k.rel.mem.mr.imlt (fun k h=>by cases h) (Im':=fun i=>Im i∨(w.heap.size≤i∧i<w'.heap.size)) (ι:=ι) (ι':=ι) (fun _ h=> .inl h) (fun _ _ h=>h)
  have hm:Mem C E hpF (fun i=>Im i∨(w.heap.size≤i∧i<w'.heap.size)) ι w':=by
   refine Mem.congr ?_ (hp:=hpS) (fun b=>by rw [hF,A8])
   exact (Mem.same k.rel.mem hg).1
  exact hK _ _ _ ι (k.rel.put hl hm o.dst hv) (fun _ _=>rfl) hl
 | .newOwn c T e l,hs,h=>by
  refine ⟨_,⟨rfl,rfl,fun b hb=>absurd rfl hb,fun E Im ι w a tmS hpS k hn hpF hF next Q hK=> .inl ⟨du hw k,?_⟩⟩,h⟩
  obtain ⟨v,w',xs,hr,hg,hsl,ho,hf,hk⟩:=hs E Im ι w a tmS hpS k
  unfold Oper.wp
  rw [hr]
  obtain ⟨hm,hl⟩:=Ej (c:=s.hp.length) (hp':=hpF) k.rel.mem (hn _ (Nat.le_refl _) (by simp)) (fun b hb=>by rw [hF,zs,if_neg hb]) (by rw [hF,zs,if_pos rfl]) hg ho hf hk
  exact hK _ _ Im _ (k.rel.put hl hm o.dst (Gd (ιset_same _ _ _) hsl)) (fun b hb=>ιset_other _ _ _ fun e=>hb ⟨by simp [e],by simp [e]⟩) hl
 | .upd b (.cells T cs),hs,h=>by
  obtain ⟨hA,hlv,hlt⟩:=fp h.1
  refine ⟨_,⟨rfl,rfl,oW hlt,fun E Im ι w a tmS hpS k hn hpF hF next Q hK=> .inl ⟨du hw k,?_⟩⟩,h.2⟩
  obtain ⟨r,vs,cur,T',hb,hr0,rfl,hr,hv⟩:=hs E Im ι w a tmS hpS k
  unfold Oper.wp
  rw [hr]
  obtain ⟨hm,hl⟩:=yg (hp':=hpF) k.rel.mem hb (by rw [show (⟨tmS,hpS⟩:AS).hp=hpS from rfl,k.hp b hA];exact hlv) hr0 (fun b' hb'=>by rw [hF,mB _ _ _ _ _ _ hlt,if_neg hb']) (by rw [hF,mB _ _ _ _ _ _ hlt,if_pos rfl]) hv
  exact hK _ _ Im ι (k.rel.put hl hm o.dst mu) (fun _ _=>rfl) hl
 | .upd b (.own T e l),hs,h=>by
  obtain ⟨hA,hlv,hlt⟩:=fp h.1
  refine ⟨_,⟨rfl,rfl,oW hlt,fun E Im ι w a tmS hpS k hn hpF hF next Q hK=> .inl ⟨du hw k,?_⟩⟩,h.2⟩
  obtain ⟨v,w',xs,hb,hr,hg,_,ho,hf⟩:=hs E Im ι w a tmS hpS k
  unfold Oper.wp
  rw [hr]
  obtain ⟨hm,hl⟩:=p9 (hp':=hpF) k.rel.mem hb (by rw [show (⟨tmS,hpS⟩:AS).hp=hpS from rfl,k.hp b hA];exact hlv) hg (fun b' hb'=>by rw [hF,mB _ _ _ _ _ _ hlt,if_neg hb']) (by rw [hF,mB _ _ _ _ _ _ hlt,if_pos rfl]) ho hf
  exact hK _ _ Im ι (k.rel.put hl hm o.dst mu) (fun _ _=>rfl) hl
 | .upd b .none,hs,h=>by
  obtain ⟨hA,hlv,hlt⟩:=fp h.1
  exact ⟨_,⟨rfl,rfl,oW hlt,fun E Im ι w a tmS hpS k hn hpF hF next Q hK=>(hs E Im ι w a tmS hpS k).elim⟩,h.2⟩
 | .upd b (.ro ..),hs,h=>by
  obtain ⟨hA,hlv,hlt⟩:=fp h.1
  exact ⟨_,⟨rfl,rfl,oW hlt,fun E Im ι w a tmS hpS k hn hpF hF next Q hK=>(hs E Im ι w a tmS hpS k).elim⟩,h.2⟩
 | .cpy b (.own T e l),hs,h=>by
  obtain ⟨hA,hlv,hlt⟩:=fp h.1
  refine ⟨_,⟨rfl,rfl,oW hlt,fun E Im ι w a tmS hpS k hn hpF hF next Q hK=> .inl ⟨du hw k,?_⟩⟩,h.2⟩
  obtain ⟨v,w',xs,u,hb,hr,hg,_,ho,hf⟩:=hs E Im ι w a tmS hpS k
  unfold Oper.wp
  rw [hr]
  obtain ⟨hm,hl⟩:=p9 (hp':=hpF) k.rel.mem hb (by rw [show (⟨tmS,hpS⟩:AS).hp=hpS from rfl,k.hp b hA];exact hlv) hg (fun b' hb'=>by rw [hF,mB _ _ _ _ _ _ hlt,if_neg hb']) (by rw [hF,mB _ _ _ _ _ _ hlt,if_pos rfl]) ho hf
  exact hK _ _ Im ι (k.rel.put hl hm o.dst trivial) (fun _ _=>rfl) hl
 | .cpy b .none,hs,h=>by
  obtain ⟨hA,hlv,hlt⟩:=fp h.1
  exact ⟨_,⟨rfl,rfl,oW hlt,fun E Im ι w a tmS hpS k hn hpF hF next Q hK=>(hs E Im ι w a tmS hpS k).elim⟩,h.2⟩
 | .cpy b (.cells ..),hs,h=>by
  obtain ⟨hA,hlv,hlt⟩:=fp h.1
  exact ⟨_,⟨rfl,rfl,oW hlt,fun E Im ι w a tmS hpS k hn hpF hF next Q hK=>(hs E Im ι w a tmS hpS k).elim⟩,h.2⟩
 | .cpy b (.ro ..),hs,h=>by
  obtain ⟨hA,hlv,hlt⟩:=fp h.1
  exact ⟨_,⟨rfl,rfl,oW hlt,fun E Im ι w a tmS hpS k hn hpF hF next Q hK=>(hs E Im ι w a tmS hpS k).elim⟩,h.2⟩
 | .app b T e l,hs,h=>by
  obtain ⟨hA,hlv,hlt⟩:=fp h.1
  refine ⟨_,⟨rfl,rfl,oW hlt,fun E Im ι w a tmS hpS k hn hpF hF next Q hK=> .inl ⟨du hw k,?_⟩⟩,h.2⟩
  obtain ⟨v,v',w',xs,hb,hr,hg,hsl,ho,hf,hk⟩:=hs E Im ι w a tmS hpS k
  unfold Oper.wp
  rw [hr]
  obtain ⟨hm,hl⟩:=L1 (c:=s.hp.length) (hp':=hpF) k.rel.mem hb (hn _ (Nat.le_refl _) (by simp)) (by rw [show (⟨tmS,hpS⟩:AS).hp=hpS from rfl,k.hp b hA];exact hlv) hg
   (fun b' h1 h2=>by rw [hF,E9 _ _ _ _ _ _ _ hlt,if_neg h2,if_neg h1]) (by rw [hF,E9 _ _ _ _ _ _ _ hlt,if_pos rfl]) (by rw [hF,E9 _ _ _ _ _ _ _ hlt,if_neg (by omega),if_pos rfl]) ho hf hk
  exact hK _ _ Im _ (k.rel.put hl hm o.dst ⟨ιset_same _ _ _,hsl⟩) (fun b hb=>ιset_other _ _ _ fun e=>hb ⟨by simp [e],by simp [e]⟩) hl
 | .frz b sv,hs,h=>by
  obtain ⟨hA,hlv,hlt⟩:=fp h.1
  refine ⟨_,⟨rfl,rfl,oW hlt,fun E Im ι w a tmS hpS k hn hpF hF next Q hK=> .inl ⟨du hw k,?_⟩⟩,h.2⟩
  obtain ⟨v,v',w',hb,hr,hg,hv⟩:=hs E Im ι w a tmS hpS k
  unfold Oper.wp
  rw [hr]
  obtain ⟨hm,hl⟩:=LV (hp':=hpF) k.rel.mem hb (by rw [show (⟨tmS,hpS⟩:AS).hp=hpS from rfl,k.hp b hA];exact hlv) hg (fun b' hb'=>by rw [hF,mB _ _ _ _ _ _ hlt,if_neg hb']) (by rw [hF,mB _ _ _ _ _ _ hlt,if_pos rfl])
  exact hK _ _ _ ι (k.rel.put hl hm o.dst hv) (fun _ _=>rfl) hl
 | .anyB f,_,h=>h.elim
 | .call f svs,hs,h=>by
  obtain ⟨sv,upd,news,h1,h2,h3⟩:=CR.dr_wp (hp:=bp A 0 s.hp) _ h
  refine ⟨_,⟨rfl,rfl,fun b hb=>(xH h1 hb).2,fun E Im ι w a tmS hpS k hn hpF hF next Q hK=> .inl ⟨du hw k,?_⟩⟩,h2⟩
  obtain ⟨vs,hv,hr⟩:=hs E Im ι w a tmS hpS k
  unfold Oper.wp
  rw [hr]
  have hM:∀ b,(bp A 0 s.hp).getD b .none=if A.contains b then hpS.getD b .none else .none:=fun b=>by
   rw [nK,Nat.zero_add]
   split
   ·rename_i hA;rw [k.hp b hA]
   ·rfl
  have hlen:=sa A s.hp 0
  have hMem:Mem C (uv w Im ι A (bp A 0 s.hp)) (bp A 0 s.hp) Im ι w:=by
   have m:=k.rel.mem
   have hlv:∀ b,aP ((bp A 0 s.hp).getD b .none)=true→A.contains b=true∧aP (hpS.getD b .none)=true:=fun b hb=>by
    obtain ⟨g1,g2,_⟩:=fp hb
    exact ⟨g1,by rw [k.hp b g1];exact g2⟩
   exact ⟨HV.mask m.hv k.hp,⟨m.mr.imlt,fun b v r g=>m.mr.imm b v r (hlv b g).2,fun b b' v v' r g g'=>m.mr.sep b b' v v' r (hlv b g).2 (hlv b' g').2,fun b v r g1 g2 g3=> .inr ⟨b,v,(hlv b g1).1,g2,g1,g3⟩⟩,⟨rfl,rfl,rfl,Nat.le_refl _,fun _ _ _=>rfl,fun _ _ h=>h,fun _ h=>h,fun _ h=> .inl h⟩,m.glob⟩
  have hc:=hC.spec f svs (bp A 0 s.hp) (fun sv' hp'=>sv'=sv∧hp'=bq (bp A 0 s.hp) upd++news) (fun b=>s.hp.length≤b∧b<s.hp.length+news.length)
   (CR.wp_mono (fun sv' hp' g=>⟨g,fun b g1 g2=>by
    rw [g.2,cx,gM,hlen] at g2
    rw [hlen] at g1
    exact ⟨g1,g2⟩⟩) _ h3) (uv w Im ι A (bp A 0 s.hp)) Im ι w vs hMem (fun b hb=>hn b hb.1 hb.2) hv
  have hpost:∀ v w',vk C (uv w Im ι A (bp A 0 s.hp)) Im ι w (bp A 0 s.hp).length (fun sv' hp'=>sv'=sv∧hp'=bq (bp A 0 s.hp) upd++news) (.returned v) w'→next (a.put o.dst v) w':=by
   rintro v w' ⟨v',sv',hp',Im',ι',g1,⟨rfl,rfl⟩,g3,g4,gn,g5,g6⟩
   cases g1
   rw [cx,gM,hlen] at g5
   have hX:∀ b,(bq (bp A 0 s.hp) upd++news).getD b .none=((if s.hp.length≤b then news[b-s.hp.length]? else cW upd b)).getD ((bp A 0 s.hp).getD b .none):=fun b=>by
    rw [ou,hlen]
   have hm:Mem C E hpF Im' ι' w':=Mem.frame (hpM:=bp A 0 s.hp) (n:=s.hp.length) (k:=news.length) k.rel.mem hM g4 g5 (fun b g1 g2=>hn b g1 g2)
    (fun b hb=>by
     rw [hF,hX]
     show (if s.hp.length≤b then news[b-s.hp.length]? else cW upd b).getD _=_
     rcases hb with hA | ⟨g7,g8⟩
     ·rw [hM,if_pos hA]
     ·rw [if_pos g7]
      rw [show news[b-s.hp.length]? =some (news[b-s.hp.length]'(by omega)) from cJ _]
      rfl)
    (fun b g7 g8=>by
     rw [hF]
     show (if s.hp.length≤b then news[b-s.hp.length]? else cW upd b).getD _=_
     by_cases g9:s.hp.length≤b
     ·rw [if_pos g9,fW (by omega)];rfl
     ·rw [if_neg g9]
      cases hu:cW upd b with
      | none=>rfl
      | some y=>
       have:=(xH h1 (i:=b) (by rw [hu];simp)).1
       rw [g7] at this;cases this)
   exact hK _ _ Im' ι' (k.rel.put g6 hm o.dst g3) g5 g6
  rcases hc with ⟨c1,c2⟩ | ⟨v,c1,c2⟩
  ·rw [c1]
   show Calls _ _ _ _ _
   refine Calls.mono c2 fun e w' he=> ?_
   cases e with
   | returned v=>exact hpost v w' he
   | panicked c=>obtain ⟨v',sv,hp',Im',ι',h1,_⟩:=he;cases h1
   | outgrown=>obtain ⟨v',sv,hp',Im',ι',h1,_⟩:=he;cases h1
  ·rw [c1]
   exact hpost v w c2
theorem agq (hC:C.Ok) {all:Array Oper} {o:Oper} {s:AS} {K:Eff→Prop}
  (h:dt all o s (kF C o (rZ C.glob s o.op) s K (fQ C.P C.zero (s.ev C.glob) (bp (rZ C.glob s o.op) 0 s.hp) o.op)) (K ⟨o.dst,.undef,[],[],s.hp.length,[]⟩)):
  ∃ e,EffOk C all o s e∧K e:=by
 rcases KN h with ⟨h1,h2⟩ | ⟨h1,h2⟩
 ·refine t9 hC h1 _ (fun E Im ι w a tmS hpS k=> ?_) h2
  refine AD hC.zero k.rel.mem.mr.imlt (HV.mask k.rel.mem.hv k.hp) fun x hx=> ?_
  have hv:=qL (hp:=s.hp) k.rel.tm k.rel.mem.glob x
  cases x with
  | tmp t=>
   have ht:t∈o.looksAt all:=by
    unfold Oper.looksAt
    refine List.mem_append_left _ (List.mem_filterMap.2 ⟨.tmp t,by simpa using hx,rfl⟩)
   have e1:s.ev C.glob (.tmp t)=AS.ev C.glob ⟨tmS,s.hp⟩ (.tmp t):=(k.tm t ht).symm
   rw [e1];exact hv
  | const v=>exact hv
  | global g=>exact hv
  | func f=>exact hv
 ·refine ⟨_,⟨rfl,rfl,fun b hb=>absurd rfl hb,fun E Im ι w a tmS hpS k hn hpF hF next Q hK=> .inr ⟨Ea h1 k,?_⟩⟩,h2⟩
  exact hK _ _ Im ι (k.rel.put (Later.refl _ _ _) (k.rel.mem.congr fun b=>by rw [hF,A8]) o.dst mu) (fun _ _=>rfl) (Later.refl _ _ _)
end
end Go.Avc
namespace Go.Avc
set_option linter.unusedVariables false
set_option linter.unusedSimpArgs false
section
variable {V:Type}
def kV (S:Nat→Bool):List (Nat→Option V)→Nat→(Nat→V)→(Nat→V)
 | [],_,st=>st
 | e::es,i,st=>kV S es (i+1) (if S i then fun l=>(e l).getD (st l) else st)
theorem iA {S S':Nat→Bool} {l:Nat} :∀ (es:List (Nat→Option V)) (i:Nat) (st st':Nat→V),(∀ j e,es[j]? =some e→e l≠none→S (i+j)=S' (i+j))→st l=st' l→kV S es i st l=kV S' es i st' l
 | [],_,_,_,_,h=>h
 | e::es,i,st,st',h,hst=>by
  refine iA es (i+1) _ _ (fun j e' hj hl=>by
   have:=h (j+1) e' (by simpa using hj) hl
   rwa [show i+(j+1)=i+1+j from by omega] at this) ?_
  cases he:e l with
  | none=>
   have h1:(if S i then fun l=>(e l).getD (st l) else st) l=st l:=by split <;>simp [he]
   have h2:(if S' i then fun l=>(e l).getD (st' l) else st') l=st' l:=by split <;>simp [he]
   rw [h1,h2,hst]
  | some x=>
   have h0:=h 0 e rfl (by rw [he];simp)
   rw [Nat.add_zero] at h0
   rw [h0]
   split
   ·simp [he]
   ·exact hst
theorem kO {S:Nat→Bool} {l:Nat} (es:List (Nat→Option V)) (i:Nat) (st:Nat→V) (h:∀ j e,es[j]? =some e→e l≠none→S (i+j)=false):kV S es i st l=st l:=by
 have:=iA (S:=S) (S':=fun _=>false) es i st st h rfl
 rw [this]
 clear this h
 induction es generalizing i st with
 | nil=>rfl
 | cons e es ih=>exact ih (i+1) st
theorem ns {S S':Nat→Bool} {l k:Nat} (hSk:S k=false) (hS':∀ j,S' j=(decide (j=k)||S j)):∀ (es:List (Nat→Option V)) (i:Nat) (st:Nat→V) (e:Nat→Option V),i≤k→es[k-i]? =some e→
  (∀ j e',es[j]? =some e'→k<i+j→e' l≠none→e l≠none→S (i+j)=false)→kV S' es i st l=(e l).getD (kV S es i st l)
 | [],i,st,e,_,h,_=>by simp at h
 | e0::es,i,st,e,hi,h,hn=>by
  by_cases hik:i=k
  ·subst hik
   rw [Nat.sub_self] at h
   cases h
   have h1:S' i=true:=by rw [hS'];simp
   simp only [kV,h1,hSk,if_true]
   simp only [Bool.false_eq_true,if_false]
   cases he:e0 l with
   | none=>
    rw [Option.getD_none]
    refine iA es (i+1) _ _ (fun j e' hj hl=> ?_) (by simp [he])
    rw [hS',decide_eq_false (by omega)]
    rfl
   | some x=>
    rw [Option.getD_some]
    rw [kO es (i+1) _ (fun j e' hj hl=> ?_)]
    ·simp [he]
    ·rw [hS',decide_eq_false (by omega),Bool.false_or]
     have:=hn (j+1) e' (by simpa using hj) (by omega) hl (by rw [he];simp)
     rwa [show i+(j+1)=i+1+j from by omega] at this
  ·have h1:S' i=S i:=by rw [hS',decide_eq_false hik];rfl
   simp only [kV,h1]
   have hkk:(e0::es)[k-i]? =es[k-(i+1)]? :=by
    rw [show k-i=(k-(i+1))+1 from by omega]
    rfl
   rw [hkk] at h
   exact ns hSk hS' es (i+1) _ e (by omega) h (fun j e' hj hlt h2 h3=>by
    have:=hn (j+1) e' (by simpa using hj) (by omega) h2 h3
    rwa [show i+(j+1)=i+1+j from by omega] at this)
theorem nO (es:List (Nat→Option V)) (T:Nat→Nat→V) (hT:∀ i e,es[i]? =some e→∀ l,T (i+1) l=(e l).getD (T i l)) (l:Nat):∀ k,k≤es.length→kV (fun j=>decide (j<k)) es 0 (T 0) l=T k l
 | 0,_=>kO es 0 _ fun j e _ _=>by simp
 | k+1,h=>by
  have hk:es[k]? =some es[k] :=cJ (by omega)
  rw [ns (S:=fun j=>decide (j<k)) (k:=k) (by simp) (fun j=>by
   by_cases h1:j=k
   ·simp [h1]
   ·by_cases h2:j<k
    ·simp [h2];omega
    ·simp [h1,h2];omega) es 0 (T 0) es[k] (by omega) (by simp) (fun j e' _ h1 _ _=>by simp;omega)]
  rw [nO es T hT l k (by omega),hT k es[k] hk]
end
def pv (ops:Array Oper) (S:Nat→Bool):Prop:=∀ j o,S j=true→ops[j]? =some o→∀ e∈o.after,Region.binds .any e=true→S e.on=true
theorem K6 {ops:Array Oper} {S:Nat→Bool} (hS:pv ops S):∀ (l:List Oper) (m:List Nat),ops.toList.drop m.length=l→(∀ j i,(m.getD j 0).testBit i=true→S j=true→S i=true)→
  ∀ j i,((RG l m).getD j 0).testBit i=true→S j=true→S i=true
 | [],m,_,h=>h
 | o::rest,m,hl,h=>by
  refine K6 hS rest _ ?_ ?_
  ·rw [cx,List.length_singleton,← List.drop_drop,hl];rfl
  ·intro j i hb hj
   rcases Nat.lt_trichotomy j m.length with hlt | heq | hgt
   ·refine h j i ?_ hj
    rwa [aw,List.getElem?_append_left hlt,← aw] at hb
   ·subst heq
    rw [aw,List.getElem?_append_right (Nat.le_refl _),Nat.sub_self] at hb
    simp only [List.getElem?_cons_zero,Option.getD_some] at hb
    have ho:ops[m.length]? =some o:=by
     have:(ops.toList.drop m.length)[0]? =some o:=by rw [hl];rfl
     simpa using this
    have key:∀ (es:List Edge) (acc:Nat),(∀ e∈es,e∈o.after)→(acc.testBit i=true→S i=true)→(es.foldl (fun acc e=>if Region.binds .any e then acc |||(1 <<< e.on) |||m.getD e.on 0 else acc) acc).testBit i=true→S i=true:=by
     intro es
     induction es with
     | nil=>exact fun acc _ ha hb=>ha hb
     | cons e es ih=>
      intro acc he ha hb
      refine ih _ (fun e' h'=>he e' (by simp [h'])) ?_ hb
      intro hb'
      dsimp only at hb'
      by_cases hbind:Region.binds .any e=true
      ·rw [if_pos hbind,Nat.testBit_or,Nat.testBit_or,Bool.or_eq_true,Bool.or_eq_true] at hb'
       have hon:=hS _ o hj ho e (he e (by simp)) hbind
       rcases hb' with (h1 | h1) | h1
       ·exact ha h1
       ·rw [Nat.one_shiftLeft,Nat.testBit_two_pow] at h1
        have:e.on=i:=by simpa using h1
        rwa [this] at hon
       ·exact h _ _ h1 hon
      ·rw [if_neg hbind] at hb'
       exact ha hb'
    exact key _ 0 (fun e he=>by simpa using he) (fun h0=>by simp at h0) hb
   ·rw [aw,fW (by simp;omega)] at hb
    simp at hb
end Go.Avc
namespace Go.Avc
set_option linter.unusedVariables false
set_option linter.unusedSimpArgs false
section
variable {C:Ctx} {E B:Ent}
def st (s:AS) (es:List Eff) (i:Nat):AS:=(es.take i).foldl AS.app s
theorem ud (s:AS) (es:List Eff):st s es 0=s:=rfl
theorem z9 (s:AS) (es:List Eff) (i:Nat) (e:Eff) (h:es[i]? =some e):st s es (i+1)=(st s es i).app e:=by
 unfold st
 rw [List.take_add_one,h]
 simp
theorem C9 (hC:C.Ok) {all:Array Oper} {K:AS→List (List Nat×List Nat)→Prop} :∀ (l:List Oper) (s:AS) (ks:List (List Nat×List Nat)),pQ C all l s ks K→
  ∃ es:List Eff,es.length=l.length∧(∀ i o e,l[i]? =some o→es[i]? =some e→EffOk C all o (st s es i) e)∧K (st s es es.length) (ks++es.map Eff.key)
 | [],s,ks,h=>⟨[],rfl,fun i o e ho=>by simp at ho,by
  have h':K s ks:=h
  simpa [st] using h'⟩
 | o::l,s,ks,h=>by
  have h':dt all o s
    (kF C o (rZ C.glob s o.op) s (fun e=>pQ C all l (s.app e) (ks++ [e.key]) K) (fQ C.P C.zero (s.ev C.glob) (bp (rZ C.glob s o.op) 0 s.hp) o.op))
    ((fun e=>pQ C all l (s.app e) (ks++ [e.key]) K) ⟨o.dst,.undef,[],[],s.hp.length,[]⟩):=by
   have e1:pQ C all l (s.app ⟨o.dst,.undef,[],[],s.hp.length,[]⟩) (ks++ [Eff.key ⟨o.dst,.undef,[],[],s.hp.length,[]⟩]) K=pQ C all l (s.put o.dst .undef) (ks++ [([],[])]) K:=by
    simp [AS.app,bq,Eff.key,kL]
   show dt all o s _ (pQ C all l (s.app ⟨o.dst,.undef,[],[],s.hp.length,[]⟩) (ks++ [Eff.key ⟨o.dst,.undef,[],[],s.hp.length,[]⟩]) K)
   rw [e1]
   exact mW h
  obtain ⟨e,he,hk⟩:=agq hC h'
  obtain ⟨es,h1,h2,h3⟩:=C9 hC l _ _ hk
  refine ⟨e::es,by simp [h1],fun i o' e' ho he'=> ?_,?_⟩
  ·cases i with
   | zero=>
    simp only [List.getElem?_cons_zero,Option.some.injEq] at ho he'
    subst ho he'
    exact he
   | succ i=>exact h2 i o' e' (by simpa using ho) (by simpa using he')
  ·have:ks++(e::es).map Eff.key=ks++ [e.key] ++es.map Eff.key:=by simp
   rw [this]
   exact h3
theorem Rel.congr {s s':AS} {Im:Nat→Prop} {ι:Nat→Option Value} {a:Act} {w:World} (h:Rel C E s Im ι a w) (hl:s'.tm.length=s.tm.length) (ht:∀ t,aM s'.tm t=aM s.tm t) (hh:∀ b,s'.hp.getD b .none=s.hp.getD b .none):Rel C E s' Im ι a w:=
 ⟨h.defers,h.size.trans hl.symm,fun t=>by rw [ht];exact h.tm t,h.mem.congr hh⟩
theorem Eb {n:Nat} {f:Nat→SV} {t:Nat} :aM ((List.range n).map f) t=if t<n then f t else .dead:=by
 have key:∀ (l:List SV) (t:Nat),aM l t=l[t]?.getD .dead:=by
  intro l
  induction l with
  | nil=>intro t;rfl
  | cons x l ih=>intro t;cases t with
   | zero=>rfl
   | succ t=>simpa [aM] using ih t
 rw [key,eW]
 by_cases h:t<n
 ·rw [List.getElem?_range h,if_pos h];rfl
 ·rw [fW (by simpa using h),if_neg h];rfl
theorem tS {n:Nat} {f:Nat→Blk} {b:Nat} :((List.range n).map f).getD b .none=if b<n then f b else .none:=by
 rw [aw,eW]
 by_cases h:b<n
 ·rw [List.getElem?_range h,if_pos h];rfl
 ·rw [fW (by simpa using h),if_neg h];rfl
theorem wE:∀ (l:List Blk) (n b:Nat),n≤b→b<n+l.length→b∈kL n l
 | [],n,b,h1,h2=>by simp at h2;omega
 | x::l,n,b,h1,h2=>by
  simp only [kL,List.mem_cons]
  by_cases h:b=n
  ·exact .inl h
  ·exact .inr (wE l (n+1) b (by omega) (by simp at h2;omega))
theorem IF:∀ (l:List (Nat×Blk)) (b:Nat),cW l b≠none→b∈l.map (·.1)
 | [],b,h=>absurd rfl h
 | (c,x)::l,b,h=>by
  simp only [cW] at h
  cases hu:cW l b with
  | some y=>exact List.mem_cons_of_mem _ (IF l b (by rw [hu];simp))
  | none=>
   rw [hu] at h
   by_cases hc:c=b
   ·subst hc;simp
   ·simp [hc] at h
theorem Ec {e:Eff} {b:Nat} (h:e.hpW b≠none):b∈e.key.2:=by
 unfold Eff.hpW at h
 unfold Eff.key
 split at h
 ·rename_i hb
  refine List.mem_append_right _ (wE _ _ _ hb ?_)
  rcases Nat.lt_or_ge b (e.base+e.news.length) with h' | h'
  ·exact h'
  ·exact absurd (fW (by omega)) h
 ·exact List.mem_append_left _ (IF _ _ h)
theorem EJ {e:Eff} {n t:Nat} (h:e.tmW n t≠none):e.dst=some t:=by
 unfold Eff.tmW at h
 split at h
 ·assumption
 ·exact absurd rfl h
structure Draw (C:Ctx) (ops:Array Oper) (s:AS) (es:List Eff):Prop where
 len:es.length=ops.size
 ok:∀ i o e,ops[i]? =some o→es[i]? =some e→EffOk C ops o (st s es i) e
 conf:gv ops (es.map Eff.key)=true
section
variable {ops:Array Oper} {s:AS} {es:List Eff}
theorem Draw.ord (d:Draw C ops s es) {S:Nat→Bool} (hS:pv ops S) {i j:Nat} {oi oj:Oper} {ei ej:Eff} (hij:i<j) (h1:ops[i]? =some oi) (h2:ops[j]? =some oj) (h3:es[i]? =some ei) (h4:es[j]? =some ej)
  (hc:jm ops oi oj ei.key ej.key=true) (hj:S j=true):S i=true:=by
 have hconf:=d.conf
 unfold gv Fe at hconf
 rw [cV,List.all_eq_true] at hconf
 have hjn:j<ops.size:=(Array.getElem?_eq_some_iff.1 h2).1
 have h5:=hconf.2 j (List.mem_range.2 hjn)
 rw [List.all_eq_true] at h5
 have h6:=h5 i (List.mem_range.2 hij)
 simp only [h1,h2,eW,h3,h4,Option.map_some,hc,Bool.not_true,Bool.false_or] at h6
 exact K6 hS ops.toList [] rfl (fun j i hb=>by simp at hb) j i h6 hj
theorem Draw.down (d:Draw C ops s es) {j:Nat} {o:Oper} (h:ops[j]? =some o) {e:Edge} (he:e∈o.after) (hb:Region.binds .any e=true):e.on<j:=by
 have hconf:=d.conf
 unfold gv FK at hconf
 rw [cV,List.all_eq_true] at hconf
 have h5:=hconf.1 j (List.mem_range.2 (Array.getElem?_eq_some_iff.1 h).1)
 simp only [h] at h5
 rw [List.all_eq_true] at h5
 have h6:=h5 e (by simpa using he)
 rw [hb] at h6
 simpa using h6
theorem Draw.eff (d:Draw C ops s es) {i:Nat} {o:Oper} (h:ops[i]? =some o):∃ e,es[i]? =some e∧EffOk C ops o (st s es i) e:=by
 have hlt:i<es.length:=by rw [d.len];exact (Array.getElem?_eq_some_iff.1 h).1
 exact ⟨es[i],cJ hlt,d.ok i o _ h (cJ hlt)⟩
theorem Draw.op (d:Draw C ops s es) {i:Nat} {e:Eff} (h:es[i]? =some e):∃ o,ops[i]? =some o∧EffOk C ops o (st s es i) e:=by
 have hlt:i<ops.size:=by rw [← d.len];exact (List.getElem?_eq_some_iff.1 h).1
 exact ⟨ops[i],Array.getElem?_eq_getElem hlt,d.ok i _ e (Array.getElem?_eq_getElem hlt) h⟩
theorem Gp (s:AS) (e:Eff):(s.app e).tm.length=s.tm.length:=by
 unfold AS.app AS.put
 split <;>simp [fT]
theorem Qn (s:AS) (e:Eff):(s.app e).hp=bq s.hp e.upd++e.news:=by
 unfold AS.app AS.put
 split <;>rfl
theorem KA (tm:List SV) (hp:List Blk) (e:Eff) (t:Nat):aM ((⟨tm,hp⟩:AS).put e.dst e.sv).tm t=(e.tmW tm.length t).getD (aM tm t):=by
 unfold AS.put Eff.tmW
 cases hd:e.dst with
 | none=>simp
 | some d=>
  simp only [Option.some.injEq]
  by_cases h:d=t
  ·subst h
   rw [if_pos rfl]
   by_cases hl:d<tm.length
   ·rw [if_pos hl,iU _ _ _ hl];rfl
   ·rw [if_neg hl,n6 (lv tm d e.sv) d (by rw [fT];exact Nat.le_of_not_lt hl),n6 tm d (Nat.le_of_not_lt hl)];rfl
  ·rw [if_neg h,eg _ _ _ _ h];rfl
theorem j8 (s:AS) (es:List Eff):∀ i,(st s es i).tm.length=s.tm.length
 | 0=>rfl
 | i+1=>by
  cases h:es[i]? with
  | none=>
   have:st s es (i+1)=st s es i:=by
    unfold st
    rw [List.take_add_one,h];simp
   rw [this];exact j8 s es i
  | some e=>rw [z9 s es i e h,Gp];exact j8 s es i
theorem Draw.tmT (d:Draw C ops s es) (i:Nat) (f:Nat→Option SV) (h:(es.map fun e=>e.tmW s.tm.length)[i]? =some f) (t:Nat):aM (st s es (i+1)).tm t=(f t).getD (aM (st s es i).tm t):=by
 rw [eW] at h
 cases he:es[i]? with
 | none=>rw [he] at h;cases h
 | some e=>
  rw [he] at h
  cases h
  rw [z9 s es i e he]
  have:=KA (st s es i).tm (bq (st s es i).hp e.upd++e.news) e t
  rw [j8] at this
  exact this
theorem Draw.hpT (d:Draw C ops s es) (i:Nat) (f:Nat→Option Blk) (h:(es.map Eff.hpW)[i]? =some f) (b:Nat):(st s es (i+1)).hp.getD b .none=(f b).getD ((st s es i).hp.getD b .none):=by
 rw [eW] at h
 cases he:es[i]? with
 | none=>rw [he] at h;cases h
 | some e=>
  rw [he] at h
  cases h
  obtain ⟨o,_,ho⟩:=d.op he
  rw [z9 s es i e he,Qn,ou]
  unfold Eff.hpW
  rw [ho.base]
theorem Draw.lenS (d:Draw C ops s es) {i:Nat} {e:Eff} (he:es[i]? =some e):(st s es (i+1)).hp.length=(st s es i).hp.length+e.news.length∧e.base=(st s es i).hp.length:=by
 obtain ⟨o,_,ho⟩:=d.op he
 exact ⟨by rw [z9 s es i e he,Qn,cx,gM],ho.base⟩
theorem Draw.lenM (d:Draw C ops s es):∀ (j i:Nat),i≤j→j≤es.length→(st s es i).hp.length≤(st s es j).hp.length
 | 0,i,h,_=>by rw [Nat.le_zero.1 h];exact Nat.le_refl _
 | j+1,i,h,hj=>by
  by_cases he:i=j+1
  ·rw [he];exact Nat.le_refl _
  ·have h1:=d.lenM j i (by omega) (by omega)
   have h2:=(d.lenS (cJ (show j<es.length from hj))).1
   omega
def tmS (s:AS) (es:List Eff) (S:Nat→Bool):List SV:=(List.range s.tm.length).map (kV S (es.map fun e=>e.tmW s.tm.length) 0 (aM s.tm))
def hpS (s:AS) (es:List Eff) (S:Nat→Bool):List Blk:=(List.range (st s es es.length).hp.length).map (kV S (es.map Eff.hpW) 0 (fun b=>s.hp.getD b .none))
theorem uf (S:Nat→Bool) (t:Nat):aM (tmS s es S) t=kV S (es.map fun e=>e.tmW s.tm.length) 0 (aM s.tm) t:=by
 unfold tmS
 rw [Eb]
 split
 ·rfl
 ·rename_i h
  rw [kO _ _ _ fun j e hj hl=> ?_,n6 _ _ (by omega)]
  rw [eW] at hj
  cases he:es[j]? with
  | none=>rw [he] at hj;cases hj
  | some e'=>
   rw [he] at hj
   cases hj
   refine absurd ?_ hl
   show Eff.tmW e' _ t=none
   unfold Eff.tmW
   rw [if_neg h]
   split <;>rfl
theorem Draw.hpS_get (d:Draw C ops s es) (S:Nat→Bool) (b:Nat):(hpS s es S).getD b .none=kV S (es.map Eff.hpW) 0 (fun b=>s.hp.getD b .none) b:=by
 unfold hpS
 rw [tS]
 split
 ·rfl
 ·rename_i h
  have h0:s.hp.length≤b:=by
   have:=d.lenM es.length 0 (Nat.zero_le _) (Nat.le_refl _)
   rw [ud] at this
   omega
  rw [kO _ _ _ fun j e hj hl=> ?_,aw,fW h0];rfl
  rw [eW] at hj
  cases he:es[j]? with
  | none=>rw [he] at hj;cases hj
  | some e'=>
   rw [he] at hj
   cases hj
   refine absurd ?_ hl
   obtain ⟨h1,h2⟩:=d.lenS he
   have h3:=d.lenM es.length (j+1) (List.getElem?_eq_some_iff.1 he).1 (Nat.le_refl _)
   unfold Eff.hpW
   rw [if_pos (by omega)]
   exact fW (by omega)
end
end
end Go.Avc
namespace Go.Avc
set_option linter.unusedVariables false
set_option linter.unusedSimpArgs false
section
variable {C:Ctx} {E B:Ent} {ops:Array Oper} {s:AS} {es:List Eff}
structure DInv (C:Ctx) (E B:Ent) (s:AS) (es:List Eff) (S:Nat→Bool) (a:Act) (w:World) (Im:Nat→Prop) (ι:Nat→Option Value):Prop where
 rel:Rel C E ⟨tmS s es S,hpS s es S⟩ Im ι a w
 fresh:∀ j e,es[j]? =some e→S j=false→∀ b,e.base≤b→b<e.base+e.news.length→ι b=none
 past:∀ b,(st s es es.length).hp.length≤b→ι b=none
 later:Aft B s.hp.length Im ι w
def xp (listed:Array Bool) (j:Nat):Bool:=listed.getD j false
theorem X9 {listed:Array Bool} {i:Nat} (hi:i<listed.size) (j:Nat):xp (listed.setIfInBounds i true) j=(decide (j=i)||xp listed j):=by
 unfold xp
 by_cases h:j=i
 ·subst h
  simp [hi]
 ·rw [getD_set_ne _ (Ne.symm h)]
  simp [h]
theorem mV {listed:Array Bool} {j:Nat} (h:j<listed.size):listed.getD j true=listed.getD j false:=by
 simp [h]
def jY (n:Nat) (S:Nat→Bool):Nat:=((List.range n).filter fun j=> !S j).length
theorem wT {S S':Nat→Bool} {i:Nat} (hS:∀ j,S' j=(decide (j=i)||S j)) (h0:S i=false):∀ n,i<n→jY n S'<jY n S
 | 0,h=>by omega
 | n+1,h=>by
  have hsplit:∀ (T:Nat→Bool) (n:Nat),jY (n+1) T=jY n T+(if T n then 0 else 1):=fun T n=>by
   unfold jY
   rw [List.range_succ,List.filter_append,cx]
   cases hT:T n <;>simp [hT]
  have hsub:∀ m,jY m S'≤jY m S:=fun m=>by
   induction m with
   | zero=>exact Nat.le_refl _
   | succ m ih=>
    rw [hsplit,hsplit,hS]
    by_cases hm:m=i
    ·subst hm;simp [h0];omega
    ·simp [hm];omega
  rw [hsplit,hsplit]
  by_cases hin:i=n
  ·subst hin
   have h1:S' i=true:=by rw [hS];simp
   rw [h1,h0]
   have:=hsub i
   simp;omega
  ·have h1:S' n=S n:=by rw [hS,decide_eq_false (Ne.symm hin)];rfl
   rw [h1]
   have:=wT hS h0 n (by omega)
   omega
theorem KM {S:Nat→Bool} {n:Nat} (h:jY n S=0):∀ j,j<n→S j=true:=fun j hj=>by
 unfold jY at h
 rw [List.length_eq_zero_iff,List.filter_eq_nil_iff] at h
 have:=h j (List.mem_range.2 hj)
 simpa using this
theorem Draw.sched (d:Draw C ops s es) {S:Nat→Bool} {i:Nat} {o:Oper} {e:Eff} (ho:ops[i]? =some o) (he:es[i]? =some e) (hS:pv ops S) (hi:S i=false) (hr:∀ x∈o.after,Region.binds .any x=true→S x.on=true) {a:Act} {w:World} {Im:Nat→Prop} {ι:Nat→Option Value} (I:DInv C E B s es S a w Im ι):
  Sched C ops o (st s es i) e.acc E (tmS s es S) (hpS s es S) Im ι a w:=by
 have hS':pv ops (fun j=>decide (j=i)||S j):=fun j o' hj ho' x hx hb=>by
  simp only [Bool.or_eq_true,aK] at hj ⊢
  by_cases hji:j=i
  ·subst hji
   rw [ho] at ho'
   cases ho'
   exact .inr (hr x hx hb)
  ·exact .inr (hS j o' (hj.resolve_left hji) ho' x hx hb)
 have hbef:∀ j oj ej,ops[j]? =some oj→es[j]? =some ej→(j<i→jm ops oj o ej.key e.key=true)→(i<j→jm ops o oj e.key ej.key=true)→S j=decide (j<i):=fun j oj ej h1 h2 h3 h4=>by
  rcases Nat.lt_trichotomy j i with h | h | h
  ·have:=d.ord hS' h h1 ho h2 he (h3 h) (by simp)
   simp only [Bool.or_eq_true,aK] at this
   rw [this.resolve_left (by omega)]
   simp [h]
  ·subst h
   rw [hi];simp
  ·rw [decide_eq_false (by omega)]
   cases hSj:S j with
   | false=>rfl
   | true=>
    have:=d.ord hS h ho h1 he h2 (h4 h) hSj
    rw [hi] at this;cases this
 have hil:i≤es.length:=Nat.le_of_lt (List.getElem?_eq_some_iff.1 he).1
 refine ⟨I.rel,?_,fun t ht=> ?_,fun b hb=> ?_⟩
 ·rw [j8];simp [tmS]
 ·have e1:=nO (es.map fun e=>e.tmW s.tm.length) (fun i t=>aM (st s es i).tm t) (fun i f h l=>d.tmT i f h l) t i (by simpa using hil)
  rw [uf]
  refine Eq.trans (iA _ _ _ _ (fun j f hj hl=> ?_) rfl) e1
  rw [eW] at hj
  cases hej:es[j]? with
  | none=>rw [hej] at hj;cases hj
  | some ej=>
   rw [hej] at hj
   cases hj
   obtain ⟨oj,hoj,hok⟩:=d.op hej
   have hd:=EJ hl
   rw [hok.dst] at hd
   rw [Nat.zero_add]
   refine hbef j oj ej hoj hej (fun _=> ?_) (fun _=> ?_)
   ·unfold jm
    rw [hd]
    simp [ht]
   ·unfold jm
    rw [hd]
    simp [ht]
 ·have e1:=nO (es.map Eff.hpW) (fun i b=>(st s es i).hp.getD b .none) (fun i f h l=>d.hpT i f h l) b i (by simpa using hil)
  rw [d.hpS_get]
  refine Eq.trans (iA _ _ _ _ (fun j f hj hl=> ?_) rfl) e1
  rw [eW] at hj
  cases hej:es[j]? with
  | none=>rw [hej] at hj;cases hj
  | some ej=>
   rw [hej] at hj
   cases hj
   obtain ⟨oj,hoj,hok⟩:=d.op hej
   have hk:=Ec hl
   rw [Nat.zero_add]
   have hb':b∈e.key.1:=by simpa [Eff.key] using hb
   refine hbef j oj ej hoj hej (fun _=> ?_) (fun _=> ?_)
   ·unfold jm
    have:ej.key.2.any (fun b=>e.key.1.contains b||e.key.2.contains b)=true:=List.any_eq_true.2 ⟨b,hk,by simp [hb']⟩
    rw [this];simp
   ·unfold jm
    have:ej.key.2.any (fun b=>e.key.1.contains b)=true:=List.any_eq_true.2 ⟨b,hk,by simp [hb']⟩
    rw [this];simp
theorem Draw.step (hC:C.Ok) (d:Draw C ops s es) {S S':Nat→Bool} {i:Nat} {o:Oper} (ho:ops[i]? =some o) (hS:pv ops S) (hS'c:pv ops S') (hi:S i=false) (hS':∀ j,S' j=(decide (j=i)||S j)) (hr:∀ x∈o.after,Region.binds .any x=true→S x.on=true) {a:Act} {w:World} {Im:Nat→Prop} {ι:Nat→Option Value} (I:DInv C E B s es S a w Im ι)
  {next:Act→World→Prop} {Q:Exit→Act→World→Prop} (hK:∀ a' w' Im' ι',DInv C E B s es S' a' w' Im' ι'→next a' w'):wpOp C.P ops Q i next a w:=by
 obtain ⟨e,he,hok⟩:=d.eff ho
 have hsch:=d.sched ho he hS hi hr I
 have hfresh:∀ b,e.base≤b→b<e.base+e.news.length→ι b=none:=I.fresh i e he hi
 have hww:∀ j oj ej,ops[j]? =some oj→es[j]? =some ej→i<j→jm ops o oj e.key ej.key=true→S j=false:=fun j oj ej h1 h2 h3 h4=>by
  cases hSj:S j with
  | false=>rfl
  | true=>
   have:=d.ord hS h3 ho h1 he h2 h4 hSj
   rw [hi] at this;cases this
 have htm:∀ t,aM (tmS s es S') t=(e.tmW s.tm.length t).getD (aM (tmS s es S) t):=fun t=>by
  rw [uf,uf]
  refine ns (k:=i) hi hS' _ 0 _ (e.tmW s.tm.length) (Nat.zero_le _) (by rw [eW,Nat.sub_zero,he];rfl) fun j f hj hlt h1 h2=> ?_
  rw [Nat.zero_add] at hlt ⊢
  rw [eW] at hj
  cases hej:es[j]? with
  | none=>rw [hej] at hj;cases hj
  | some ej=>
   rw [hej] at hj
   cases hj
   obtain ⟨oj,hoj,hokj⟩:=d.op hej
   have hd:=EJ h1
   have hd':=EJ h2
   rw [hokj.dst] at hd
   rw [hok.dst] at hd'
   refine hww j oj ej hoj hej hlt ?_
   unfold jm
   rw [hd,hd']
   simp
 have hhp:∀ b,(hpS s es S').getD b .none=(e.hpW b).getD ((hpS s es S).getD b .none):=fun b=>by
  rw [d.hpS_get,d.hpS_get]
  refine ns (k:=i) hi hS' _ 0 _ e.hpW (Nat.zero_le _) (by rw [eW,Nat.sub_zero,he];rfl) fun j f hj hlt h1 h2=> ?_
  rw [Nat.zero_add] at hlt ⊢
  rw [eW] at hj
  cases hej:es[j]? with
  | none=>rw [hej] at hj;cases hj
  | some ej=>
   rw [hej] at hj
   cases hj
   obtain ⟨oj,hoj,hokj⟩:=d.op hej
   refine hww j oj ej hoj hej hlt ?_
   unfold jm
   have:e.key.2.any (fun b=>ej.key.1.contains b||ej.key.2.contains b)=true:=List.any_eq_true.2 ⟨b,Ec h2,by simp [Ec h1]⟩
   rw [this];simp
 have hdoes:=hok.does E Im ι w a _ _ hsch hfresh (hpS s es S') hhp next Q fun a' w' Im' ι' hrel hι hl=>hK a' w' Im' ι' ⟨?_,?_,?_,I.later.step hl (Nat.le_refl _) fun b hb=>hι b fun h=> ?_⟩
 ·unfold wpOp
  rw [ho]
  rcases hdoes with ⟨h1,h2⟩ | ⟨h1,h2⟩
  ·simp only [h1,if_true];exact .inl h2
  ·simp only [h1,Bool.false_eq_true,if_false];exact h2
 ·refine hrel.congr ?_ (fun t=> ?_) (fun b=> ?_)
  ·unfold AS.put
   split <;>simp [fT,tmS]
  ·rw [KA,htm]
   simp [tmS]
  ·unfold AS.put
   split <;>rfl
 ·intro j ej hej hSj b h1 h2
  rw [hS',Bool.or_eq_false_iff,aT] at hSj
  have h3:=I.fresh j ej hej hSj.2 b h1 h2
  rw [hι b ?_]
  ·exact h3
  ·rintro ⟨h4,h5⟩
   obtain ⟨g1,g2⟩:=d.lenS he
   obtain ⟨g3,g4⟩:=d.lenS hej
   have k1:=(List.getElem?_eq_some_iff.1 he).1
   have k2:=(List.getElem?_eq_some_iff.1 hej).1
   rcases Nat.lt_or_gt_of_ne hSj.1 with h | h
   ·have:=d.lenM i (j+1) h (by omega)
    omega
   ·have:=d.lenM j (i+1) h (by omega)
    omega
 ·intro b hb
  rw [hι b ?_]
  ·exact I.past b hb
  ·rintro ⟨h4,h5⟩
   obtain ⟨g1,g2⟩:=d.lenS he
   have:=d.lenM es.length (i+1) (List.getElem?_eq_some_iff.1 he).1 (Nat.le_refl _)
   omega
 ·have g:=d.lenM i 0 (Nat.zero_le _) (Nat.le_of_lt (List.getElem?_eq_some_iff.1 he).1)
  have g2:=(d.lenS he).2
  rw [ud] at g
  omega
theorem Draw.any (hC:C.Ok) (d:Draw C ops s es) {Q:Exit→Act→World→Prop} (hQ:∀ a w,dH C E B (st s es es.length) a w→Q .normal a w):∀ (fuel:Nat) (listed:Array Bool) (a:Act) (w:World) (Im:Nat→Prop) (ι:Nat→Option Value),
  listed.size=ops.size→pv ops (xp listed)→jY ops.size (xp listed)≤fuel→DInv C E B s es (xp listed) a w Im ι→wpAny C.P .any ops Q fuel listed a w:=by
 have hall:∀ (S:Nat→Bool),(∀ j,j<ops.size→S j=true)→∀ a w Im ι,DInv C E B s es S a w Im ι→Q .normal a w:=fun S hS a w Im ι I=>by
  refine hQ a w ⟨Im,ι,I.rel.congr ?_ (fun t=> ?_) (fun b=> ?_),I.past,I.later.len (by have:=d.lenM es.length 0 (Nat.zero_le _) (Nat.le_refl _);rwa [ud] at this)⟩
  ·rw [j8];simp [tmS]
  ·rw [uf]
   have e1:=nO (es.map fun e=>e.tmW s.tm.length) (fun i t=>aM (st s es i).tm t) (fun i f h l=>d.tmT i f h l) t es.length (by simp)
   refine Eq.trans e1.symm (iA _ _ _ _ (fun j f hj hl=> ?_) rfl)
   have hlt:j<es.length:=by simpa using (List.getElem?_eq_some_iff.1 hj).1
   rw [Nat.zero_add,hS j (by rw [← d.len];exact hlt)]
   simp [hlt]
  ·rw [d.hpS_get]
   have e1:=nO (es.map Eff.hpW) (fun i b=>(st s es i).hp.getD b .none) (fun i f h l=>d.hpT i f h l) b es.length (by simp)
   refine Eq.trans e1.symm (iA _ _ _ _ (fun j f hj hl=> ?_) rfl)
   have hlt:j<es.length:=by simpa using (List.getElem?_eq_some_iff.1 hj).1
   rw [Nat.zero_add,hS j (by rw [← d.len];exact hlt)]
   simp [hlt]
 intro fuel
 induction fuel with
 | zero=>
  intro listed a w Im ι hsz hcl hun I
  have hS:=KM (Nat.le_zero.1 hun)
  refine ⟨?_,hall _ hS a w Im ι I⟩
  cases hr:Region.ready .any ops listed with
  | nil=>rfl
  | cons i l=>
   have hi:i∈Region.ready .any ops listed:=by rw [hr];simp
   obtain ⟨h1,o,ho,_⟩:=mem_ready.1 hi
   have hlt:=(Array.getElem?_eq_some_iff.1 ho).1
   rw [mV (by omega)] at h1
   have:=hS i hlt
   unfold xp at this
   rw [h1] at this;cases this
 | succ fuel ih=>
  intro listed a w Im ι hsz hcl hun I
  refine ⟨fun hr=>hall _ (fun j hj=> ?_) a w Im ι I,fun i hi=> ?_⟩
  ·induction j using Nat.strongRecOn with
   | _ j ihj=>
    cases hSj:xp listed j with
    | true=>rfl
    | false=>
     have ho:ops[j]? =some ops[j] :=Array.getElem?_eq_getElem hj
     have:j∈Region.ready .any ops listed:=mem_ready.2 ⟨by rw [mV (by omega)];exact hSj,_,ho,fun e he hb=>by
      have hlt:=d.down ho he hb
      exact ihj e.on hlt (by omega)⟩
     rw [hr] at this
     cases this
  ·obtain ⟨h1,o,ho,h2⟩:=mem_ready.1 hi
   have hlt:=(Array.getElem?_eq_some_iff.1 ho).1
   rw [mV (by omega)] at h1
   have hS':=X9 (listed:=listed) (i:=i) (by omega)
   have hcl':pv ops (xp (listed.setIfInBounds i true)):=fun j o' hj ho' x hx hb=>by
    rw [hS'] at hj ⊢
    simp only [Bool.or_eq_true,aK] at hj ⊢
    by_cases hji:j=i
    ·subst hji
     rw [ho] at ho'
     cases ho'
     exact .inr (h2 x hx hb)
    ·exact .inr (hcl j o' (hj.resolve_left hji) ho' x hx hb)
   refine d.step hC ho hcl hcl' h1 hS' h2 I fun a' w' Im' ι' I'=>ih _ a' w' Im' ι' (by simpa using hsz) hcl' ?_ I'
   have:=wT hS' h1 ops.size hlt
   omega
theorem Dl (hC:C.Ok) (hm:C.P.follows .mixedOrders=true) {id:Nat} {a:Act} {w:World} {K:AS→Prop} {Q:Exit→Act→World→Prop} (hQ:∀ s a w,K s→dH C E B s a w→Q .normal a w) (hR:dH C E B s a w) (h:P1 C ops s K):
  (Code.region id ops true).wp C.P Q a w:=by
 obtain ⟨es,h1,h2,h3,h4⟩:=C9 hC ops.toList s [] h
 have d:Draw C ops s es:=⟨by simpa using h1,fun i o e ho he=>h2 i o e (by simpa using ho) he,by simpa using h3⟩
 obtain ⟨Im,ι,hR,hF,hB⟩:=hR
 refine wp_region_any hm ?_
 have hl0:∀ j,xp (Array.replicate ops.size false) j=false:=fun j=>by
  unfold xp
  by_cases hj:j<ops.size
  ·simp [hj]
  ·simp [hj]
 have hg:w.grownBy {w with drawn:=w.drawn+1} none:=⟨rfl,rfl,rfl,Nat.le_refl _,fun _ _ _=>rfl⟩
 have hl:Later Im ι w Im ι {w with drawn:=w.drawn+1} :=fk hg hR.mem.mr.imlt (fun k h=>by cases h) (fun _ h=>h) (fun _ _ h=>h)
 have hlen0:=d.lenM es.length 0 (Nat.zero_le _) (Nat.le_refl _)
 rw [ud] at hlen0
 have hR':Rel C E s Im ι a {w with drawn:=w.drawn+1} :=by
  refine ⟨hR.defers,hR.size,fun t=>VRel.mono hl _ _ (hR.tm t),?_⟩
  exact (Mem.step s.hp.length hR.mem hg (fun k h=>by cases h) (fun _ h=>h) (fun _ h=> .inl h) (fun _ _ h=>h) (fun b hb=>⟨rfl,.inl rfl⟩) fun v hv=>by
   rw [hF _ (Nat.le_refl _)] at hv;cases hv).1
 refine d.any hC (fun a w r=>hQ _ a w h4 r) ops.size _ a _ Im ι (by simp) (fun j o hj=>by rw [hl0] at hj;cases hj) ?_ ⟨hR'.congr ?_ (fun t=> ?_) (fun b=> ?_),fun j e he _ b h5 h6=>hF b ?_,fun b hb=>hF b (by omega),hB.step hl (Nat.le_refl _) fun _ _=>rfl⟩
 ·unfold jY
  refine Nat.le_trans (List.length_filter_le _ _) ?_
  simp
 ·simp [tmS]
 ·rw [uf,kO _ _ _ fun j f _ _=>hl0 _]
 ·rw [d.hpS_get,kO _ _ _ fun j f _ _=>hl0 _]
 ·obtain ⟨g1,g2⟩:=d.lenS he
  have:=d.lenM j 0 (Nat.zero_le _) (Nat.le_of_lt (List.getElem?_eq_some_iff.1 he).1)
  rw [ud] at this
  omega
end
end Go.Avc
namespace Go.Avc
set_option linter.unusedVariables false
set_option linter.unusedSimpArgs false
section
variable (C:Ctx)
end
section
variable {C:Ctx} {E B:Ent}
theorem aiy {p:Nat→Prop} :∀ n,p n→∃ m,p m∧∀ k,p k→m≤k:=by
 intro n
 induction n using Nat.strongRecOn with
 | _ n ih=>
  intro h
  by_cases hx:∃ k,k<n∧p k
  ·obtain ⟨k,h1,h2⟩:=hx
   exact ih k h1 h2
  ·exact ⟨n,h,fun k hk=>Nat.le_of_not_lt fun h'=>hx ⟨k,h',hk⟩⟩
open Classical in
noncomputable def uN (p:Nat→Prop):Nat:=if h:∃ m,p m∧∀ k,p k→m≤k then Classical.choose h else 0
theorem nD {p:Nat→Prop} {n:Nat} (h:p n):p (uN p)∧∀ k,p k→uN p≤k:=by
 have hx:=aiy n h
 unfold uN
 rw [dif_pos hx]
 exact Classical.choose_spec hx
end
end Go.Avc
namespace Go.Avc
set_option linter.unusedVariables false
set_option linter.unusedSimpArgs false
def sI (P:Program) (s:AS):ResultVar→Option SV
 | .tmp t=>some (aM s.tm t)
 | .cell a T=>(match aM s.tm a with
  | .ptr b c=>(match xq P s.hp T (.ptr b c) with | .val sv=>some sv | _=>none)
  | _=>none)
def lE (P:Program) (s:AS):List ResultVar→Option (List SV)
 | [] =>some []
 | r::rs=>(match sI P s r,lE P s rs with | some x,some xs=>some (x::xs) | _,_=>none)
def GH (P:Program) (s:AS) (rs:List ResultVar):Option SV:=
 match lE P s rs with | some [x] =>some x | some xs=>some (.tup xs) | none=>none
section
variable {C:Ctx} {E B:Ent} {Im:Nat→Prop} {ι:Nat→Option Value} {w:World}
theorem Gk {P:Program} {x:Sem Value} {v:Value} {w':World} (h:(do let y ← x;pure (.value y):Sem Next).run P w= .ok (.value v) w'):x.run P w= .ok v w':=by
 simp only [Sem.run_bind] at h
 cases hx:x.run P w with
 | ok u w1=>rw [hx] at h;simpa [Result.andThen] using h
 | halt y w1=>rw [hx] at h;cases h
theorem P2 {s:AS} {a:Act} (hR:Rel C E s Im ι a w) {r:ResultVar} {sv:SV} (h:sI C.P s r=some sv):
  ∃ v,((match r with | .tmp t=>pure (a.tmps.getD t undef) | .cell p T=>do loadVar T (← asAddr (a.tmps.getD p undef)):Sem Value)).run C.P w= .ok v w∧VRel Im ι w sv v:=by
 cases r with
 | tmp t=>
  simp only [sI,Option.some.injEq] at h
  subst h
  exact ⟨_,rfl,hR.tm t⟩
 | cell p T=>
  simp only [sI] at h
  split at h
  ·rename_i b c hp
   have hv:=hR.tm p
   rw [hp] at hv
   have hs:=Dy (P:=C.P) (T:=T) hR.mem.hv hv
   split at h
   ·rename_i sv' hl
    cases h
    rw [hl] at hs
    obtain ⟨v,h1,h2⟩:=hs
    obtain ⟨r,h3,h4⟩:=hv
    refine ⟨v,?_,h2⟩
    have:=Gk h1
    rw [h4] at this
    show (do loadVar T (← asAddr (a.tmps.getD p undef)):Sem Value).run C.P w=_
    rw [h4]
    exact this
   ·cases h
  ·cases h
theorem BA {s:AS} {a:Act} (hR:Rel C E s Im ι a w):∀ {rs:List ResultVar} {svs:List SV},lE C.P s rs=some svs→
  ∃ vs,(rs.mapM (fun r=>(match r with | .tmp t=>pure (a.tmps.getD t undef) | .cell p T=>do loadVar T (← asAddr (a.tmps.getD p undef)):Sem Value))).run C.P w= .ok vs w∧VRels Im ι w svs vs
 | [],svs,h=>by
  simp only [lE,Option.some.injEq] at h
  subst h
  exact ⟨[],by simp,rfl⟩
 | r::rs,svs,h=>by
  simp only [lE] at h
  split at h
  ·rename_i x xs h1 h2
   cases h
   obtain ⟨v,g1,g2⟩:=P2 hR h1
   obtain ⟨vs,g3,g4⟩:=BA hR h2
   refine ⟨v::vs,?_,v,vs,rfl,g2,g4⟩
   rw [List.mapM_cons]
   simp only [Sem.run_bind,g1,Result.andThen,g3]
   rfl
  ·cases h
theorem sH {s:AS} {a:Act} (hR:Rel C E s Im ι a w) {fn:Func} {sv:SV} (h:GH C.P s fn.results.toList=some sv):∃ v,(results fn a.tmps).run C.P w= .ok v w∧VRel Im ι w sv v:=by
 unfold GH at h
 cases hs:lE C.P s fn.results.toList with
 | none=>rw [hs] at h;cases h
 | some svs=>
  rw [hs] at h
  obtain ⟨vs,h1,h2⟩:=BA hR hs
  have h3:(results fn a.tmps).run C.P w= .ok (if h:vs.toArray.size=1 then vs.toArray[0] else .tuple vs.toArray) w:=by
   unfold results
   rw [Array.mapM_eq_mapM_toList]
   simp only [Sem.run_bind,map_eq_pure_bind]
   erw [h1]
   rfl
  refine ⟨_,h3,?_⟩
  match svs,h2,h with
  | [],h2,h=>
   cases (show vs= [] from h2)
   cases h
   exact ⟨[],rfl,rfl⟩
  | [x],h2,h=>
   obtain ⟨v,vs',rfl,h4,h5⟩:=h2
   cases (show vs'= [] from h5)
   cases h
   exact h4
  | x::y::l,h2,h=>
   obtain ⟨v,vs',rfl,h4,v',vs'',rfl,h6⟩:=h2
   cases h
   rw [dif_neg (by simp)]
   exact ⟨_,rfl,v,_,rfl,h4,v',_,rfl,h6⟩
theorem lJ:∀ (l m:List SV) (t:Nat),aM (l++m) t=if t<l.length then aM l t else aM m (t-l.length)
 | [],m,t=>by simp
 | x::l,m,0=>by simp [aM]
 | x::l,m,t+1=>by
  simp only [List.cons_append,aM,lJ l m t,List.length_cons,Nat.succ_lt_succ_iff,Nat.add_lt_add_iff_right,Nat.add_sub_add_right]
theorem kY (n t:Nat) (x:SV):aM (List.replicate n x) t=if t<n then x else .dead:=by
 induction n generalizing t with
 | zero=>simp [aM]
 | succ n ih=>
  cases t with
  | zero=>simp [List.replicate,aM]
  | succ t=>simp [List.replicate,aM,ih]
theorem nI:∀ {svs:List SV} {vs:List Value},VRels Im ι w svs vs→∀ t,t<svs.length→∃ v,vs[t]? =some v∧VRel Im ι w (aM svs t) v
 | [],vs,h,t,ht=>by simp at ht
 | s::svs,vs,h,0,_=>by
  obtain ⟨v,vs',rfl,h1,h2⟩:=h
  exact ⟨v,rfl,h1⟩
 | s::svs,vs,h,t+1,ht=>by
  obtain ⟨v,vs',rfl,h1,h2⟩:=h
  simpa [aM] using nI h2 t (by simpa using ht)
theorem gj:∀ {svs:List SV} {vs:List Value},VRels Im ι w svs vs→vs.length=svs.length
 | [],vs,h=>by cases (show vs= [] from h);rfl
 | s::svs,vs,h=>by
  obtain ⟨v,vs',rfl,h1,h2⟩:=h
  simp [gj h2]
end
end Go.Avc
namespace Go.Avc
set_option linter.unusedVariables false
set_option linter.unusedSimpArgs false
mutual
def SV.ren (ρ:Nat→Nat):SV→SV
 | .agg cs=> .agg (renL ρ cs)
 | .ptr b c=> .ptr (ρ b) c
 | .aptr b c i=> .aptr (ρ b) c i
 | .own b=> .own (ρ b)
 | .lit b=> .lit (ρ b)
 | .win b c N lo n=> .win (ρ b) c N lo n
 | .optr b sz i c=> .optr (ρ b) sz i c
 | .ow b sz lo n=> .ow (ρ b) sz lo n
 | .fn f cs=> .fn f (renL ρ cs)
 | .fb f cs=> .fb f (renL ρ cs)
 | .tup cs=> .tup (renL ρ cs)
 | .sls cs=> .sls (renL ρ cs)
 | .iface t v=> .iface t (v.ren ρ)
 | s=>s
def renL (ρ:Nat→Nat):List SV→List SV
 | [] => []
 | s::cs=>s.ren ρ::renL ρ cs
end
def Blk.ren (ρ:Nat→Nat):Blk→Blk
 | .cells T cs=> .cells T (renL ρ cs)
 | b=>b
theorem J2 (ρ:Nat→Nat):∀ cs:List SV,(renL ρ cs).length=cs.length
 | [] =>rfl
 | s::cs=>by simp [renL,J2 ρ cs]
theorem vg (ρ:Nat→Nat) (b:Blk):aP (b.ren ρ)=aP b:=by cases b <;>rfl
section
variable {Im:Nat→Prop} {ι ι':Nat→Option Value} {w:World} {ρ:Nat→Nat}
mutual
theorem VRel.ren:∀ (s:SV) (v:Value),(∀ b∈s.hs,ι' (ρ b)=ι b)→(VRel Im ι' w (s.ren ρ) v↔VRel Im ι w s v)
 | .dead,v,h=>Iff.rfl
 | .int ..,v,h=>Iff.rfl
 | .bool _,v,h=>Iff.rfl
 | .str _,v,h=>Iff.rfl
 | .agg cs,v,h=>by
  have ih:=fun vs=>CellsRel.ren cs vs h
  simp only [SV.ren,VRel,ih]
 | .arrI ..,v,h=>Iff.rfl
 | .arrB ..,v,h=>Iff.rfl
 | .nilp,v,h=>Iff.rfl
 | .nilf,v,h=>Iff.rfl
 | .ptr b c,v,h=>by
  have:=h b (by simp [SV.hs,SV.h1])
  simp only [SV.ren,VRel,this]
 | .aptr b c i,v,h=>by
  have:=h b (by simp [SV.hs,SV.h1])
  simp only [SV.ren,VRel,this]
 | .rd e l,v,h=>Iff.rfl
 | .rdc e l,v,h=>Iff.rfl
 | .e0,v,h=>Iff.rfl
 | .nils,v,h=>Iff.rfl
 | .own b,v,h=>by
  have:=h b (by simp [SV.hs,SV.h1])
  simp only [SV.ren,VRel,this]
 | .lit b,v,h=>by
  have:=h b (by simp [SV.hs,SV.h1])
  simp only [SV.ren,VRel,this]
 | .win b c N lo n,v,h=>by
  have:=h b (by simp [SV.hs,SV.h1])
  simp only [SV.ren,VRel,this]
 | .eptr ..,v,h=>Iff.rfl
 | .optr b sz i c,v,h=>by
  have:=h b (by simp [SV.hs,SV.h1])
  simp only [SV.ren,VRel,this]
 | .ow b sz lo n,v,h=>by
  have:=h b (by simp [SV.hs,SV.h1])
  simp only [SV.ren,VRel,this]
 | .fn f cs,v,h=>by
  have ih:=fun vs=>VRels.ren cs vs h
  simp only [SV.ren,VRel,ih]
 | .fb f cs,v,h=>by
  have ih:=fun vs=>VRels.ren cs vs h
  simp only [SV.ren,VRel,ih]
 | .tup cs,v,h=>by
  have ih:=fun vs=>VRels.ren cs vs h
  simp only [SV.ren,VRel,ih]
 | .sls cs,v,h=>by
  have ih:=fun vs=>VRels.ren cs vs h
  simp only [SV.ren,VRel,ih,J2]
 | .nili,v,h=>Iff.rfl
 | .iface t s,v,h=>by
  have ih:=fun v=>VRel.ren s v h
  simp only [SV.ren,VRel,ih]
 | .val _,v,h=>Iff.rfl
theorem CellsRel.ren:∀ (cs:List SV) (vs:List Value),(∀ b∈hsL cs,ι' (ρ b)=ι b)→(CellsRel Im ι' w (renL ρ cs) vs↔CellsRel Im ι w cs vs)
 | [],vs,h=>Iff.rfl
 | s::cs,vs,h=>by
  have ih1:=fun v=>VRel.ren s v (fun b hb=>h b (by simp [hsL,hb]))
  have ih2:=fun vs=>CellsRel.ren cs vs (fun b hb=>h b (by simp [hsL,hb]))
  cases s with
  | arrI n k l=>
   simp only [renL,SV.ren,CellsRel]
   simp only [ih2]
  | arrB n l=>
   simp only [renL,SV.ren,CellsRel]
   simp only [ih2]
  | _=>
   simp only [SV.ren] at ih1
   simp only [renL,SV.ren,CellsRel]
   simp only [ih1,ih2]
theorem VRels.ren:∀ (cs:List SV) (vs:List Value),(∀ b∈hsL cs,ι' (ρ b)=ι b)→(VRels Im ι' w (renL ρ cs) vs↔VRels Im ι w cs vs)
 | [],vs,h=>Iff.rfl
 | s::cs,vs,h=>by
  have ih1:=fun v=>VRel.ren s v (fun b hb=>h b (by simp [hsL,hb]))
  have ih2:=fun vs=>VRels.ren cs vs (fun b hb=>h b (by simp [hsL,hb]))
  simp only [renL,VRels,ih1,ih2]
end
theorem BRel.ren {blk:Blk} {v:Value} (h:∀ b∈blk.hs,ι' (ρ b)=ι b):BRel Im ι' w (blk.ren ρ) v↔BRel Im ι w blk v:=by
 cases blk with
 | cells T cs=>
  have ih:=fun vs=>CellsRel.ren (Im:=Im) (w:=w) cs vs h
  simp only [Blk.ren,BRel,ih]
 | _=>exact Iff.rfl
end
end Go.Avc
namespace Go.Avc
set_option linter.unusedVariables false
set_option linter.unusedSimpArgs false
def abw (σ:List Nat) (n:Nat) (keep:List Nat) (i:Nat):Nat:=if i<σ.length then σ.getD i 0 else n+keep.idxOf i
structure Fit (σ:List Nat) (hp hp' hpl':List Blk) (sv:SV) (keep:List Nat):Prop where
 nodup:keep.Nodup
 past:∀ i∈keep,σ.length≤i
 len:hp'.length=hp.length+keep.length
 res:∀ b∈sv.hs,b<σ.length∨b∈keep
 old:∀ i,i<σ.length→hp'.getD (σ.getD i 0) .none= .none∨(hp'.getD (σ.getD i 0) .none=(hpl'.getD i .none).ren (abw σ hp.length keep)∧∀ b∈(hpl'.getD i .none).hs,b<σ.length∨b∈keep)
 new:∀ i,i∈keep→hp'.getD (hp.length+keep.idxOf i) .none=(hpl'.getD i .none).ren (abw σ hp.length keep)∧∀ b∈(hpl'.getD i .none).hs,b<σ.length∨b∈keep
 oth:∀ b,b<hp.length→b∉σ→hp'.getD b .none=hp.getD b .none
section
variable {C:Ctx}
end
end Go.Avc
namespace Go.Avc
set_option linter.unusedVariables false
set_option linter.unusedSimpArgs false
structure GE where
 t:Nat
 d:Nat
 want:Bool
 c:Bool
 sv:SV
structure ES where
 n:Nat
 ov:List (Nat×SV)
 tm:List SV
 hp:List Blk
 G:List GE
def qB:List (Nat×SV)→List SV→Nat→SV
 | [],tm,t=>aM tm t
 | (d,v)::ov,tm,t=>bif Nat.beq d t then v else qB ov tm t
def aN:List (Nat×SV)→List SV→List SV
 | [],tm=>tm
 | (d,v)::ov,tm=>lv (aN ov tm) d v
def ES.as (s:ES):AS:=⟨aN s.ov s.tm,s.hp⟩
def ES.ev (glob:Nat→Option SV) (s:ES):Operand→SV
 | .tmp t=>qB s.ov s.tm t
 | .const v=>uD v
 | .global g=>(glob g).getD .dead
 | .func f=> .fn f []
def bw:Bool→Bool→Bool
 | true,b=>b
 | false,b=> !b
def aY (tm:List SV) (d:Nat) (want:Bool):Bool:=match aM tm d with | .bool b=>bw want b | _=>false
def GInv (tm:List SV) (G:List GE):Prop:=∀ g∈G,g.c=aY tm g.d g.want∧aM tm g.t=bif g.c then g.sv else .undef
structure ES.Ok (s:ES):Prop where
 len:s.n=s.tm.length
 ov:∀ p∈s.ov,p.1<s.tm.length
 g:GInv s.as.tm s.G
 gt:∀ g∈s.G,g.t<s.tm.length
def bN (sv:SV) (K:SV→Prop):Prop:=
 match sv with
 | .dead=>K .dead
 | .int k n=>K (.int k n)
 | .bool b=>K (.bool b)
 | .str l=>K (.str l)
 | .agg cs=>K (.agg cs)
 | .arrI n k l=>K (.arrI n k l)
 | .arrB n l=>K (.arrB n l)
 | .nilp=>K .nilp
 | .nilf=>K .nilf
 | .ptr b c=>K (.ptr b c)
 | .aptr b c i=>K (.aptr b c i)
 | .rd e l=>K (.rd e l)
 | .rdc e l=>K (.rdc e l)
 | .e0=>K .e0
 | .nils=>K .nils
 | .own b=>K (.own b)
 | .lit b=>K (.lit b)
 | .win b c N lo n=>K (.win b c N lo n)
 | .eptr e l i c=>K (.eptr e l i c)
 | .optr b sz i c=>K (.optr b sz i c)
 | .ow b sz lo n=>K (.ow b sz lo n)
 | .fn f caps=>K (.fn f caps)
 | .fb f caps=>K (.fb f caps)
 | .tup vs=>K (.tup vs)
 | .sls vs=>K (.sls vs)
 | .nili=>K .nili
 | .iface t v=>K (.iface t v)
 | .val v=>K (.val v)
theorem aX (sv:SV) (K:SV→Prop):bN sv K=K sv:=by cases sv <;>rfl
def CI:List GE→Nat→Bool
 | [],_=>true
 | g::G,d=> !Nat.beq g.t d&&(!Nat.beq g.d d&&CI G d)
def vN:List GE→Nat→List GE
 | [],_=> []
 | g::G,d=>bif Nat.beq g.t d||Nat.beq g.d d then vN G d else g::vN G d
def cg (s:ES) (dst:Option Tmp) (sv:SV) (K:ES→Prop):Prop:=
 match dst,s with
 | none,s=>K s
 | some d,⟨n,ov,tm,hp,G⟩=>bif Nat.blt d n then (bif CI G d then K ⟨n,(d,sv)::ov,tm,hp,G⟩ else K ⟨n,(d,sv)::ov,tm,hp,vN G d⟩) else False
def oa (s:ES) (dst:Option Tmp) (d:Nat) (want c:Bool) (sv:SV) (K:ES→Prop):Prop:=
 match dst with
 | none=>K s
 | some t=>bif Nat.beq d t then False else cg s (some t) (bif c then sv else .undef) fun s=>match s with | ⟨n,ov,tm,hp,G⟩=>K ⟨n,ov,tm,hp,⟨t,d,want,c,sv⟩::G⟩
def GE.is (g:GE) (t d:Nat) (want:Bool):Bool:=Nat.beq g.t t&&(Nat.beq g.d d&&bw g.want want)
def zp:List GE→Nat→Nat→Bool→Option SV
 | [],_,_,_=>none
 | g::G,t,d,want=>bif g.is t d want then some g.sv else zp G t d want
def xd:List GE→Nat→Option GE
 | [],_=>none
 | g::G,t=>bif Nat.beq g.t t then some g else xd G t
def zI (G:List GE) (t:Nat):Nat→Nat→Bool→Option SV
 | 0,_,_=>none
 | k+1,d,want=>match zp G t d want with
  | some sv=>some sv
  | none=>match xd G d with | some g=>zI G t k g.d g.want | none=>none
def ES.evG (glob:Nat→Option SV) (s:ES) (d:Nat) (want:Bool):Operand→SV
 | .tmp t=>match zI s.G t 6 d want with | some sv=>sv | none=>qB s.ov s.tm t
 | .const v=>uD v
 | .global g=>(glob g).getD .dead
 | .func f=> .fn f []
def GC (s:ES) (d:Nat) (want:Bool):Option Bool:=
 match xd s.G d with
 | some g=>match g.sv with | .bool b=>some (g.c&&bw want b) | _=>none
 | none=>match qB s.ov s.tm d with | .bool b=>some (bw want b) | .tup [] =>some false | _=>none
def lP:List GE→Nat→Bool→(List (Nat×SV)×List GE)
 | [],_,_=>([],[])
 | g::G,d,want=>match lP G d want with
  | (ov,G')=>bif Nat.beq g.d d&&bw g.want want then ((g.t,g.sv)::ov,G') else (bif Nat.beq g.t d then (ov,G') else (ov,g::G'))
def ES.tellT (s:ES) (d:Nat) (want:Bool):ES:=
 match s with
 | ⟨n,ov,tm,hp,G⟩=>match lP G d want with | (ov',G')=>bif Nat.blt d n then ⟨n,(d,.bool want)::(ov'++ov),tm,hp,G'⟩ else ⟨n,ov,tm,hp,G⟩
def ES.tellF (s:ES) (d:Nat) (want:Bool):ES:=
 match s with
 | ⟨n,ov,tm,hp,G⟩=>match xd G d with
  | some _=>⟨n,ov,tm,hp,G⟩
  | none=>match qB ov tm d with
   | .bool _=>(match lP G d (!want) with | (ov',G')=>⟨n,(d,.bool (!want))::(ov'++ov),tm,hp,G'⟩)
   | _=>⟨n,ov,tm,hp,G⟩
def Ot (b:Bool) (x y:Operand) (u v:SV):Option SV:=
 match u,v with
 | .bool p,.bool q=>some (match x,y with
  | .const (.bool true),_=> .bool (b||q)
  | _,.const (.bool false)=> .bool (b&&p)
  | .const (.bool false),_=> .bool (!b&&q)
  | _,.const (.bool true)=> .bool (!b||p)
  | _,_=> .bool (bif b then p else q))
 | .int k p,.int k' q=>if k=k' then some (.int k (bif b then p else q)) else none
 | .str p,.str q=>some (.str (bif b then p else q))
 | _,_=>none
def t8 (G:List GE) (ρ:Operand→SV) (d:Nat) (want:Bool):Operand→SV
 | .tmp t=>(match zI G t 6 d want with | some sv=>sv | none=>ρ (.tmp t))
 | z=>ρ z
def y8 (s:ES) (ρ:Operand→SV) (c x y:Operand):Option SV:=
 match c with
 | .tmp d=>(match ρ (.tmp d) with
  | .bool b=>Ot b x y (t8 s.G ρ d true x) (t8 s.G ρ d false y)
  | _=>none)
 | _=>none
section
variable (C:Ctx)
def xA (s:ES) (dst:Option Tmp) (K:ES→Prop):OR→Prop
 | .bad=>False
 | .need p r=>p∧xA s dst K r
 | .know p r=>p→xA s dst K r
 | .split b r1 r2=>bif b then xA s dst K r1 else xA s dst K r2
 | .val sv=>bN sv fun sv=>cg s dst sv K
 | .newRo sv=>bN sv fun sv=>cg s dst sv K
 | .new T cs=>(match s with | ⟨n,ov,tm,hp,G⟩=>cg ⟨n,ov,tm,hp++ [.cells T cs],G⟩ dst (.ptr hp.length 0) K)
 | .newOwn true T e l=>(match s with | ⟨n,ov,tm,hp,G⟩=>cg ⟨n,ov,tm,hp++ [.own T e l],G⟩ dst (.lit hp.length) K)
 | .newOwn false T e l=>(match s with | ⟨n,ov,tm,hp,G⟩=>cg ⟨n,ov,tm,hp++ [.own T e l],G⟩ dst (.own hp.length) K)
 | .upd b blk=>bif aP (s.hp.getD b .none) then (match s with | ⟨n,ov,tm,hp,G⟩=>cg ⟨n,ov,tm,hp.set b blk,G⟩ dst .undef K) else False
 | .cpy b blk=>bif aP (s.hp.getD b .none) then (match s with | ⟨n,ov,tm,hp,G⟩=>cg ⟨n,ov,tm,hp.set b blk,G⟩ dst .dead K) else False
 | .app b T e l=>bif aP (s.hp.getD b .none) then (match s with | ⟨n,ov,tm,hp,G⟩=>cg ⟨n,ov,tm,hp.set b .none++ [.own T e l],G⟩ dst (.own hp.length) K) else False
 | .frz b sv=>bif aP (s.hp.getD b .none) then (match s with | ⟨n,ov,tm,hp,G⟩=>bN sv fun sv=>cg ⟨n,ov,tm,hp.set b .none,G⟩ dst sv K) else False
 | .anyB f=>∀ β,f β→cg s dst (.bool β) K
 | .call f svs=>(C.spec f svs s.hp).wp s.hp fun sv hp'=>bN sv fun sv=>match s with | ⟨n,ov,tm,_,G⟩=>cg ⟨n,ov,tm,hp',G⟩ dst sv K
def wC (s:ES) (dst:Option Tmp) (d:Nat) (want c:Bool) (K:ES→Prop):CR→Prop
 | .bad=>(c=true→False)∧cg s dst .undef K
 | .need p r=>(c=true→p)∧wC s dst d want c K r
 | .know p r=>(c=true→p)→wC s dst d want c K r
 | .ret sv [] [] =>bN sv fun sv=>oa s dst d want c sv K
 | .ret sv upd news=>(c=true→bN sv fun sv=>match s.tellT d want with | ⟨n,ov,tm,hp,G⟩=>cg ⟨n,ov,tm,bq hp upd++news,G⟩ dst sv K)∧(c=false→cg (s.tellF d want) dst .undef K)
 | .anyI f=>∀ n,wC s dst d want c K (f n)
 | .anyB f=>∀ n,wC s dst d want c K (f n)
 | .anyL f=>∀ n,wC s dst d want c K (f n)
 | .ite b r1 r2=>bif b then wC s dst d want c K r1 else wC s dst d want c K r2
def I7 (s:ES) (dst:Option Tmp) (d:Nat) (want c:Bool) (K:ES→Prop):OR→Prop
 | .bad=>(c=true→False)∧cg s dst .undef K
 | .need p r=>(c=true→p)∧I7 s dst d want c K r
 | .know p r=>(c=true→p)→I7 s dst d want c K r
 | .val sv=>bN sv fun sv=>oa s dst d want c sv K
 | .newRo sv=>bN sv fun sv=>oa s dst d want c sv K
 | .anyB f=>∀ β,(c=true→f β)→oa s dst d want c (.bool β) K
 | .call f svs=>wC s dst d want c K (C.spec f svs s.hp)
 | r=>(c=true→xA C (s.tellT d want) dst K r)∧(c=false→cg (s.tellF d want) dst .undef K)
def iS (all:Array Oper):List Oper→ES→(ES→Prop)→Prop
 | [],s,K=>K s
 | o::rest,s,K=>
  match o.guard with
  | none=>(match o.op with
   | .pick c x y=>(match y8 s (s.ev C.glob) c x y with
    | some sv=>bN sv fun sv=>cg s o.dst sv fun s=>iS all rest s K
    | none=>xA C s o.dst (fun s=>iS all rest s K) (fQ C.P C.zero (s.ev C.glob) s.hp (.pick c x y)))
   | op=>xA C s o.dst (fun s=>iS all rest s K) (fQ C.P C.zero (s.ev C.glob) s.hp op))
  | some (j,want)=>(match (all[j]?).bind (·.dst) with
   | some d=>(match GC s d want with
    | some c=>(match o.op with
     | .pick c0 x y=>(match y8 s (s.evG C.glob d want) c0 x y with
      | some sv=>bN sv fun sv=>oa s o.dst d want c sv fun s=>iS all rest s K
      | none=>I7 C s o.dst d want c (fun s=>iS all rest s K) (fQ C.P C.zero (s.evG C.glob d want) s.hp (.pick c0 x y)))
     | op=>I7 C s o.dst d want c (fun s=>iS all rest s K) (fQ C.P C.zero (s.evG C.glob d want) s.hp op))
    | none=>False)
   | none=>False)
end
theorem aD {a b:Nat} :Nat.beq a b=true↔a=b:=⟨Nat.eq_of_beq_eq_true,fun h=>by subst h;exact Nat.beq_refl a⟩
theorem eI {a b:Nat} :Nat.beq a b=false↔a≠b:=by
 rw [← Bool.not_eq_true,aD]
theorem l9 {a b:Nat} :Nat.blt a b=true↔a<b:=by
 unfold Nat.blt;rw [Nat.ble_eq];omega
theorem El {a b:Bool} :bw a b=true↔a=b:=by cases a <;>cases b <;>simp [bw]
theorem eY:∀ (ov:List (Nat×SV)) (tm:List SV),(aN ov tm).length=tm.length
 | [],_=>rfl
 | (d,v)::ov,tm=>by simp [aN,fT,eY ov tm]
theorem mg:∀ (ov:List (Nat×SV)) (tm:List SV),(∀ p∈ov,p.1<tm.length)→∀ t,qB ov tm t=aM (aN ov tm) t
 | [],_,_,_=>rfl
 | (d,v)::ov,tm,h,t=>by
  have hd:d<(aN ov tm).length:=by rw [eY];exact h (d,v) (by simp)
  unfold qB aN
  cases hb:Nat.beq d t with
  | true=>cases aD.1 hb;simp [iU _ _ _ hd]
  | false=>
   rw [eg _ _ _ _ (eI.1 hb)]
   exact mg ov tm (fun p hp=>h p (by simp [hp])) t
theorem ES.ev_eq {s:ES} (h:s.Ok) (glob:Nat→Option SV):s.ev glob=s.as.ev glob:=by
 funext x
 cases x with
 | tmp t=>exact mg _ _ h.ov t
 | _=>rfl
theorem Ai:∀ {G:List GE} {d:Nat},CI G d=true→∀ g∈G,g.t≠d∧g.d≠d
 | [],_,_,g,hg=>by simp at hg
 | g0::G,d,h,g,hg=>by
  simp only [CI,cV,Bool.not_eq_true'] at h
  rcases List.mem_cons.1 hg with rfl | hg
  ·exact ⟨eI.1 h.1,eI.1 h.2.1⟩
  ·exact Ai h.2.2 g hg
theorem pO:∀ {G:List GE} {d:Nat},∀ g∈vN G d,g∈G∧g.t≠d∧g.d≠d
 | [],_,g,hg=>by simp [vN] at hg
 | g0::G,d,g,hg=>by
  unfold vN at hg
  cases hb:(Nat.beq g0.t d||Nat.beq g0.d d) with
  | true=>rw [hb] at hg;have:=pO g hg;exact ⟨by simp [this.1],this.2⟩
  | false=>
   rw [hb] at hg
   simp only [Bool.or_eq_false_iff] at hb
   rcases List.mem_cons.1 hg with rfl | hg
   ·exact ⟨by simp,eI.1 hb.1,eI.1 hb.2⟩
   ·have:=pO g hg;exact ⟨by simp [this.1],this.2⟩
theorem GInv.put {tm:List SV} {G G':List GE} (h:GInv tm G) {d:Nat} {sv:SV} (h':∀ g∈G',g∈G∧g.t≠d∧g.d≠d):GInv (lv tm d sv) G':=fun g hg=>by
 obtain ⟨h1,h2,h3⟩:=h' g hg
 obtain ⟨h4,h5⟩:=h g h1
 refine ⟨?_,?_⟩
 ·rw [h4];unfold aY;rw [eg _ _ _ _ (Ne.symm h3)]
 ·rw [eg _ _ _ _ (Ne.symm h2)];exact h5
theorem Be {s:ES} (hs:s.Ok) {dst:Option Tmp} {sv:SV} {K:ES→Prop} (h:cg s dst sv K):∃ s',s'.Ok∧s'.as=s.as.put dst sv∧K s'∧(∀ d,dst=some d→s'.n=s.n∧d<s.tm.length∧∀ g∈s'.G,g.t≠d∧g.d≠d):=by
 obtain ⟨n,ov,tm,hp,G⟩:=s
 cases dst with
 | none=>exact ⟨_,hs,rfl,h,fun d hd=>by cases hd⟩
 | some d=>
  simp only [cg] at h
  cases hb:Nat.blt d n with
  | false=>rw [hb] at h;exact h.elim
  | true=>
   rw [hb] at h
   have hlen:n=tm.length:=hs.len
   have hd:d<tm.length:=by rw [← hlen];exact l9.1 hb
   have hov:∀ p∈(d,sv)::ov,p.1<tm.length:=fun p hp=>by
    rcases List.mem_cons.1 hp with rfl | hp
    ·exact hd
    ·exact hs.ov p hp
   cases hf:CI G d with
   | true=>
    rw [hf] at h
    have hG:=fun g hg=>Ai hf g hg
    exact ⟨⟨n,(d,sv)::ov,tm,hp,G⟩,⟨hlen,hov,GInv.put (tm:=aN ov tm) hs.g fun g hg=>⟨hg,hG g hg⟩,hs.gt⟩,rfl,h,fun d' e=>by cases e;exact ⟨rfl,hd,hG⟩⟩
   | false=>
    rw [hf] at h
    exact ⟨⟨n,(d,sv)::ov,tm,hp,vN G d⟩,⟨hlen,hov,GInv.put (tm:=aN ov tm) hs.g fun g hg=>pO g hg,fun g hg=>hs.gt g (pO g hg).1⟩,rfl,h,fun d' e=>by cases e;exact ⟨rfl,hd,fun g hg=>(pO g hg).2⟩⟩
theorem HW {s:ES} (hs:s.Ok) {dst:Option Tmp} {d:Nat} {want c:Bool} (hc:c=aY s.as.tm d want) {sv:SV} {K:ES→Prop} (h:oa s dst d want c sv K):∃ s',s'.Ok∧s'.as=s.as.put dst (bif c then sv else .undef)∧K s':=by
 cases dst with
 | none=>exact ⟨_,hs,rfl,h⟩
 | some t=>
  simp only [oa] at h
  cases hb:Nat.beq d t with
  | true=>rw [hb] at h;exact h.elim
  | false=>
   simp only [hb,cond_false] at h
   have hne:=eI.1 hb
   obtain ⟨⟨n,ov,tm,hp,G⟩,h1,h2,h3,h4⟩:=Be hs h
   obtain ⟨_,htlt,_⟩:=h4 t rfl
   have htm:aN ov tm=lv (aN s.ov s.tm) t (bif c then sv else .undef):=congrArg AS.tm h2
   refine ⟨⟨n,ov,tm,hp,⟨t,d,want,c,sv⟩::G⟩,⟨h1.len,h1.ov,fun g hg=> ?_,fun g hg=> ?_⟩,h2,h3⟩
   rotate_left
   ·have hl:s.tm.length=tm.length:=by
     have:=congrArg List.length htm
     rw [fT,eY,eY] at this
     exact this.symm
    rcases List.mem_cons.1 hg with rfl | hg
    ·rw [hl] at htlt;exact htlt
    ·exact h1.gt g hg
   rcases List.mem_cons.1 hg with rfl | hg
   ·refine ⟨?_,?_⟩
    ·show c=aY (aN ov tm) d want
     rw [htm];unfold aY;rw [eg _ _ _ _ (Ne.symm hne)];exact hc
    ·show aM (aN ov tm) t=_
     rw [htm,iU _ _ _ (by rw [eY];exact htlt)]
   ·exact h1.g g hg
theorem Fq:∀ {G:List GE} {t d:Nat} {want:Bool} {sv:SV},zp G t d want=some sv→∃ g∈G,g.t=t∧g.d=d∧g.want=want∧g.sv=sv
 | [],_,_,_,_,h=>by simp [zp] at h
 | g::G,t,d,want,sv,h=>by
  unfold zp at h
  cases hb:g.is t d want with
  | true=>
   rw [hb] at h
   simp only [GE.is,cV] at hb
   exact ⟨g,by simp,aD.1 hb.1,aD.1 hb.2.1,El.1 hb.2.2,by simpa using h⟩
  | false=>
   rw [hb] at h
   obtain ⟨g',h1,h2⟩:=Fq h
   exact ⟨g',by simp [h1],h2⟩
theorem Bm:∀ {G:List GE} {t:Nat} {g:GE},xd G t=some g→g∈G∧g.t=t
 | [],_,_,h=>by simp [xd] at h
 | g0::G,t,g,h=>by
  unfold xd at h
  cases hb:Nat.beq g0.t t with
  | true=>rw [hb] at h;simp at h;subst h;exact ⟨by simp,aD.1 hb⟩
  | false=>rw [hb] at h;have:=Bm h;exact ⟨by simp [this.1],this.2⟩
theorem Sb {tm:List SV} {g:GE} (h:g.c=aY tm g.d g.want∧aM tm g.t=bif g.c then g.sv else .undef) {want:Bool} (hg:aY tm g.t want=true):g.c=true:=by
 cases hc:g.c with
 | true=>rfl
 | false=>
  have h2:=h.2
  rw [hc] at h2
  unfold aY at hg
  rw [h2] at hg
  cases hg
theorem AG {tm:List SV} {G:List GE} (h:GInv tm G) {t:Nat} :∀ {k d:Nat} {want:Bool} {sv:SV},zI G t k d want=some sv→aY tm d want=true→aM tm t=sv
 | 0,_,_,_,e,_=>by simp [zI] at e
 | k+1,d,want,sv,e,hg=>by
  unfold zI at e
  cases hf:zp G t d want with
  | some sv'=>
   rw [hf] at e
   cases e
   obtain ⟨g,h1,h2,h3,h4,h5⟩:=Fq hf
   obtain ⟨h6,h7⟩:=h g h1
   rw [h3,h4,hg] at h6
   rw [← h2,h7,h6,← h5]
   rfl
  | none=>
   rw [hf] at e
   cases hn:xd G d with
   | none=>rw [hn] at e;cases e
   | some g=>
    rw [hn] at e
    obtain ⟨h1,h2⟩:=Bm hn
    have h3:=h g h1
    have hc:=Sb h3 (want:=want) (by rw [h2];exact hg)
    exact AG h e (by rw [← h3.1];exact hc)
theorem ES.evG_eq {s:ES} (h:s.Ok) (glob:Nat→Option SV) {d:Nat} {want:Bool} (hg:aY s.as.tm d want=true):s.evG glob d want=s.as.ev glob:=by
 funext x
 cases x with
 | tmp t=>
  simp only [ES.evG]
  split
  ·rename_i sv hl
   exact (AG h.g hl hg).symm
  ·exact mg _ _ h.ov t
 | _=>rfl
theorem Ii {s:ES} (h:s.Ok) {d:Nat} {want c:Bool} (e:GC s d want=some c):c=aY s.as.tm d want∧(c=false→(∃ b,aM s.as.tm d= .bool b)∨aM s.as.tm d= .undef):=by
 unfold GC at e
 split at e
 ·rename_i g hg
  split at e
  ·rename_i b hb
   cases e
   obtain ⟨h1,h2⟩:=Bm hg
   obtain ⟨h3,h4⟩:=h.g g h1
   rw [h2,hb] at h4
   unfold aY
   cases hc:g.c with
   | true=>rw [hc] at h4;simp only [cond_true] at h4;rw [h4];exact ⟨rfl,fun _=> .inl ⟨_,rfl⟩⟩
   | false=>rw [hc] at h4;simp only [cond_false] at h4;rw [h4];exact ⟨rfl,fun _=> .inr rfl⟩
  ·cases e
 ·have ho:=mg _ _ h.ov d
  have ho':qB s.ov s.tm d=aM s.as.tm d:=ho
  rw [ho'] at e
  unfold aY
  split at e
  ·rename_i b hb;cases e;rw [hb];exact ⟨rfl,fun _=> .inl ⟨_,rfl⟩⟩
  ·rename_i hb;cases e;rw [hb];exact ⟨rfl,fun _=> .inr rfl⟩
  ·cases e
theorem FQ {tm:List SV} {hp:List Blk} {d:Nat} {want c:Bool} (hc:c=aY tm d want) (hf:c=false→(∃ b,aM tm d= .bool b)∨aM tm d= .undef) {yes no:AS→Prop} (h1:c=true→yes ⟨tm,hp⟩) (h2:c=false→no ⟨tm,hp⟩):BP want ⟨tm,hp⟩ yes no (some d):=by
 simp only [BP]
 have hput:∀ b,aM tm d= .bool b→(⟨tm,hp⟩:AS).put (some d) (.bool b)=⟨tm,hp⟩:=fun b hb=>by
  show (⟨lv tm d (.bool b),hp⟩:AS)=_
  rw [← hb,sC]
 cases hv:aM tm d with
 | bool b=>
  have hc':c=bw want b:=by rw [hc];unfold aY;rw [hv]
  refine ⟨fun e=> ?_,fun e=> ?_⟩
  ·subst e;rw [hput _ hv];exact h1 (by rw [hc'];cases b <;>rfl)
  ·subst e;rw [hput _ hv];exact h2 (by rw [hc'];cases want <;>rfl)
 | tup vs=>
  have hc':c=false:=by rw [hc];unfold aY;rw [hv]
  rcases hf hc' with ⟨b,hb⟩ | hb
  ·rw [hv] at hb;cases hb
  ·rw [hv] at hb;cases hb
   exact h2 hc'
 | _=>
  have hc':c=false:=by rw [hc];unfold aY;rw [hv]
  rcases hf hc' with ⟨b,hb⟩ | hb <;> · rw [hv] at hb;cases hb
theorem AL {tm:List SV} {d:Nat} {want:Bool} (hg:aY tm d want=true):∀ {G:List GE},GInv tm G→(∀ p∈(lP G d want).1,aM tm p.1=p.2∧∃ g∈G,g.t=p.1)∧∀ g∈(lP G d want).2,g∈G
 | [],_=>⟨fun p hp=>by simp [lP] at hp,fun g hg=>by simp [lP] at hg⟩
 | g::G,h=>by
  obtain ⟨ih1,ih2⟩:=AL hg (G:=G) fun g' hg'=>h g' (by simp [hg'])
  obtain ⟨h3,h4⟩:=h g (by simp)
  simp only [lP]
  have ih1':∀ p∈(lP G d want).1,aM tm p.1=p.2∧∃ g'∈g::G,g'.t=p.1:=fun p hp=>by
   obtain ⟨k1,g',k2,k3⟩:=ih1 p hp
   exact ⟨k1,g',by simp [k2],k3⟩
  have ih2':∀ g'∈(lP G d want).2,g'∈g::G:=fun g' hg'=>by simp [ih2 g' hg']
  cases hb:(Nat.beq g.d d&&bw g.want want) with
  | true=>
   simp only [cV] at hb
   refine ⟨fun p hp=> ?_,ih2'⟩
   rcases List.mem_cons.1 hp with rfl | hp
   ·refine ⟨?_,g,by simp,rfl⟩
    rw [aD.1 hb.1,El.1 hb.2,hg] at h3
    rw [h4,h3];rfl
   ·exact ih1' p hp
  | false=>
   cases hb2:Nat.beq g.t d with
   | true=>exact ⟨ih1',ih2'⟩
   | false=>
    refine ⟨ih1',fun g' hg'=> ?_⟩
    rcases List.mem_cons.1 hg' with rfl | hg'
    ·simp
    ·exact ih2' g' hg'
theorem xy:∀ {ov' ov:List (Nat×SV)} {tm:List SV},(∀ p∈ov',aM (aN ov tm) p.1=p.2)→aN (ov'++ov) tm=aN ov tm
 | [],_,_,_=>rfl
 | (d,v)::ov',ov,tm,h=>by
  have ih:=xy (ov':=ov') (ov:=ov) (tm:=tm) fun p hp=>h p (by simp [hp])
  show lv (aN (ov'++ov) tm) d v=_
  have h0:aM (aN ov tm) d=v:=h (d,v) (by simp)
  rw [ih,← h0,sC]
theorem Mi {n:Nat} {ov ov':List (Nat×SV)} {tm:List SV} {hp:List Blk} {G G':List GE} (hs:(⟨n,ov,tm,hp,G⟩:ES).Ok) (h1:∀ p∈ov',aM (aN ov tm) p.1=p.2∧p.1<tm.length) (h2:∀ g∈G',g∈G):(⟨n,ov'++ov,tm,hp,G'⟩:ES).Ok∧(⟨n,ov'++ov,tm,hp,G'⟩:ES).as=(⟨n,ov,tm,hp,G⟩:ES).as:=by
 have e:=xy (ov':=ov') (ov:=ov) (tm:=tm) fun p hp=>(h1 p hp).1
 refine ⟨⟨hs.len,fun p hp=> ?_,fun g hg=> ?_,fun g hg=>hs.gt g (h2 g hg)⟩,?_⟩
 ·rcases List.mem_append.1 hp with hp | hp
  ·exact (h1 p hp).2
  ·exact hs.ov p hp
 ·show g.c=aY (aN (ov'++ov) tm) g.d g.want∧aM (aN (ov'++ov) tm) g.t=_
  rw [e];exact hs.g g (h2 g hg)
 ·show (⟨aN (ov'++ov) tm,hp⟩:AS)=_
  rw [e];rfl
theorem ld {s:ES} (hs:s.Ok) {d:Nat} {want:Bool} (hg:aY s.as.tm d want=true):(s.tellT d want).Ok∧(s.tellT d want).as=s.as:=by
 obtain ⟨n,ov,tm,hp,G⟩:=s
 have key:=AL (tm:=aN ov tm) hg (G:=G) hs.g
 simp only [ES.tellT]
 cases hb:Nat.blt d n with
 | false=>exact ⟨hs,rfl⟩
 | true=>
  have hd:d<tm.length:=by have:=hs.len;have:=l9.1 hb;simp_all
  refine Mi (ov':=(d,.bool want)::(lP G d want).1) hs (fun p hp=> ?_) key.2
  rcases List.mem_cons.1 hp with rfl | hp
  ·refine ⟨?_,hd⟩
   have hg':aY (aN ov tm) d want=true:=hg
   unfold aY at hg'
   split at hg'
   ·rename_i b hb;rw [hb,El.1 hg']
   ·cases hg'
  ·obtain ⟨h1,g,h2,h3⟩:=key.1 p hp
   exact ⟨h1,by rw [← h3];exact hs.gt g h2⟩
theorem CK {s:ES} (hs:s.Ok) {d:Nat} {want:Bool} (hg:aY s.as.tm d want=false):(s.tellF d want).Ok∧(s.tellF d want).as=s.as:=by
 obtain ⟨n,ov,tm,hp,G⟩:=s
 simp only [ES.tellF]
 split
 ·exact ⟨hs,rfl⟩
 ·split
  ·rename_i b hb
   have hb':aM (aN ov tm) d= .bool b:=(mg _ _ hs.ov d).symm.trans hb
   have hg':aY (aN ov tm) d want=false:=hg
   have hbw:b= !want:=by
    unfold aY at hg'
    rw [hb'] at hg'
    revert hg'
    cases b <;>cases want <;>simp [bw]
   have hgn:aY (aN ov tm) d (!want)=true:=by
    unfold aY
    rw [hb',hbw]
    cases want <;>rfl
   have key:=AL (tm:=aN ov tm) hgn (G:=G) hs.g
   have hd:d<tm.length:=by
    rcases Nat.lt_or_ge d tm.length with h | h
    ·exact h
    ·rw [n6 _ _ (by rw [eY];exact h)] at hb';cases hb'
   refine Mi (ov':=(d,.bool (!want))::(lP G d (!want)).1) hs (fun p hp=> ?_) key.2
   rcases List.mem_cons.1 hp with rfl | hp
   ·exact ⟨by rw [hb',hbw],hd⟩
   ·obtain ⟨h1,g,h2,h3⟩:=key.1 p hp
    exact ⟨h1,by rw [← h3];exact hs.gt g h2⟩
  ·exact ⟨hs,rfl⟩
theorem wh {s:ES} (hs:s.Ok) {ρ:Operand→SV} {c x y:Operand} {sv:SV} {glob:Nat→Option SV} (hρ:ρ=s.as.ev glob) (h:y8 s ρ c x y=some sv):∃ b,ρ c= .bool b∧sv=bif b then ρ x else ρ y:=by
 unfold y8 at h
 split at h
 ·rename_i d
  split at h
  ·rename_i b hb
   have hg:∀ want,bw want b=true→aY s.as.tm d want=true:=fun want hw=>by
    have:aM s.as.tm d= .bool b:=by rw [hρ] at hb;exact hb
    unfold aY;rw [this];exact hw
   have hside:∀ want z,bw want b=true→t8 s.G ρ d want z=ρ z:=fun want z hw=>by
    unfold t8
    split
    ·rename_i t
     split
     ·rename_i sv' hl
      rw [hρ]
      exact (AG hs.g hl (hg want hw)).symm
     ·rfl
    ·rfl
   refine ⟨b,hb,?_⟩
   generalize hu:t8 s.G ρ d true x=u at h
   generalize hv:t8 s.G ρ d false y=v at h
   have h':=h
   have hu':b=true→u=ρ x:=fun e=>by rw [← hu];exact hside true x (by rw [e];rfl)
   have hv':b=false→v=ρ y:=fun e=>by rw [← hv];exact hside false y (by rw [e];rfl)
   have hconst:∀ z q,z=Operand.const (.bool q)→ρ z= .bool q:=fun z q e=>by rw [hρ,e];rfl
   unfold Ot at h'
   cases b with
   | true=>
    rw [cond_true,← hu' rfl]
    split at h'
    ·rename_i p q
     cases h'
     split
     ·have:=hu' rfl;rw [hconst _ true rfl] at this;cases this;rfl
     ·rfl
     ·have:=hu' rfl;rw [hconst _ false rfl] at this;cases this;rfl
     ·simp
     ·rfl
    ·split at h'
     ·cases h';rfl
     ·cases h'
    ·cases h';rfl
    ·cases h'
   | false=>
    rw [cond_false,← hv' rfl]
    split at h'
    ·rename_i p q
     cases h'
     split
     ·rfl
     ·have:=hv' rfl;rw [hconst _ false rfl] at this;cases this;rfl
     ·rfl
     ·have:=hv' rfl;rw [hconst _ true rfl] at this;cases this;rfl
     ·rfl
    ·split at h'
     ·rename_i hk;cases h';subst hk;rfl
     ·cases h'
    ·cases h';rfl
    ·cases h'
  ·cases h
 ·cases h
theorem dQ {n:Nat} {ov:List (Nat×SV)} {tm:List SV} {hp hp':List Blk} {G:List GE} (hs:(⟨n,ov,tm,hp,G⟩:ES).Ok):(⟨n,ov,tm,hp',G⟩:ES).Ok:=⟨hs.len,hs.ov,hs.g,hs.gt⟩
section
variable {C:Ctx}
def Next (K:ES→Prop):AS→Prop:=fun s=>∃ s':ES,s'.Ok∧s'.as=s∧K s'
theorem cF {s:ES} (hs:s.Ok) {dst:Option Tmp} {sv:SV} {K:ES→Prop} (h:cg s dst sv K):Next K (s.as.put dst sv):=by
 obtain ⟨s',h1,h2,h3,_⟩:=Be hs h
 exact ⟨s',h1,h2,h3⟩
theorem mm {s:ES} (hs:s.Ok) {dst:Option Tmp} {d:Nat} {want c:Bool} (hc:c=aY s.as.tm d want) {sv:SV} {K:ES→Prop} (h:oa s dst d want c sv K):(c=true→Next K (s.as.put dst sv))∧(c=false→Next K (s.as.put dst .undef)):=by
 obtain ⟨s',h1,h2,h3⟩:=HW hs hc h
 exact ⟨fun e=>by subst e;exact ⟨s',h1,h2,h3⟩,fun e=>by subst e;exact ⟨s',h1,h2,h3⟩⟩
theorem mA {b:Nat} {hp:List Blk} {p:Prop} (h:bif aP (hp.getD b .none) then p else False):aP (hp.getD b .none)=true∧p:=by
 cases hl:aP (hp.getD b .none) with
 | true=>rw [hl] at h;exact ⟨rfl,h⟩
 | false=>rw [hl] at h;exact h.elim
theorem oc {s:ES} (hs:s.Ok) {dst:Option Tmp} {K:ES→Prop} :∀ r,xA C s dst K r→lq C dst s.as (Next K) r
 | .bad,h=>h
 | .need p r,h=>⟨h.1,oc hs r h.2⟩
 | .know p r,h=>fun hp=>oc hs r (h hp)
 | .split b r1 r2,h=>by
  cases b with
  | true=>exact ⟨fun _=>oc hs r1 h,fun e=>by cases e⟩
  | false=>exact ⟨(fun e=>by cases e),fun _=>oc hs r2 h⟩
 | .val sv,h=>by
  simp only [xA,aX] at h
  exact cF hs h
 | .newRo sv,h=>by
  simp only [xA,aX] at h
  exact cF hs h
 | .new T cs,h=>by
  obtain ⟨n,ov,tm,hp,G⟩:=s
  exact cF (dQ hs) h
 | .newOwn true T e l,h=>by
  obtain ⟨n,ov,tm,hp,G⟩:=s
  exact cF (dQ hs) h
 | .newOwn false T e l,h=>by
  obtain ⟨n,ov,tm,hp,G⟩:=s
  exact cF (dQ hs) h
 | .upd b blk,h=>by
  obtain ⟨n,ov,tm,hp,G⟩:=s
  obtain ⟨h1,h2⟩:=mA h
  exact ⟨h1,cF (dQ hs) h2⟩
 | .cpy b blk,h=>by
  obtain ⟨n,ov,tm,hp,G⟩:=s
  obtain ⟨h1,h2⟩:=mA h
  exact ⟨h1,cF (dQ hs) h2⟩
 | .app b T e l,h=>by
  obtain ⟨n,ov,tm,hp,G⟩:=s
  obtain ⟨h1,h2⟩:=mA h
  exact ⟨h1,cF (dQ hs) h2⟩
 | .frz b sv,h=>by
  obtain ⟨n,ov,tm,hp,G⟩:=s
  obtain ⟨h1,h2⟩:=mA h
  simp only [aX] at h2
  exact ⟨h1,cF (dQ hs) h2⟩
 | .anyB f,h=>fun β hβ=>cF hs (h β hβ)
 | .call f svs,h=>by
  obtain ⟨n,ov,tm,hp,G⟩:=s
  refine CR.wp_mono (fun sv hp' k=> ?_) _ h
  simp only [aX] at k
  exact cF (dQ hs) k
theorem AA {s:ES} (hs:s.Ok) {d:Nat} {want c:Bool} (hc:c=aY s.as.tm d want) {dst:Option Tmp} {K:ES→Prop} (h:c=false→cg (s.tellF d want) dst .undef K):c=false→Next K (s.as.put dst .undef):=fun e=>by
 obtain ⟨h1,h2⟩:=CK hs (d:=d) (want:=want) (by rw [← hc,e])
 have:=cF h1 (h e)
 rwa [h2] at this
theorem ga {s:ES} (hs:s.Ok) {dst:Option Tmp} {d:Nat} {want c:Bool} (hc:c=aY s.as.tm d want) {K:ES→Prop} :∀ r,wC s dst d want c K r→
  (c=true→r.wp s.hp fun sv hp'=>Next K (({s.as with hp:=hp'} :AS).put dst sv))∧(c=false→Next K (s.as.put dst .undef))
 | .bad,h=>⟨fun e=>(h.1 e).elim,fun _=>cF hs h.2⟩
 | .need p r,h=>⟨fun e=>⟨h.1 e,(ga hs hc r h.2).1 e⟩,(ga hs hc r h.2).2⟩
 | .know p r,h=>⟨fun e hp=>(ga hs hc r (h fun _=>hp)).1 e,fun e=>(ga hs hc r (h fun e'=>by rw [e] at e';cases e')).2 e⟩
 | .ret sv [] [],h=>by
  simp only [wC,aX] at h
  have:=mm hs hc h
  refine ⟨fun e=> ?_,this.2⟩
  show Next K (({s.as with hp:=bq s.hp [] ++ []} :AS).put dst sv)
  rw [show bq s.hp [] ++ [] =s.hp from List.append_nil _]
  exact this.1 e
 | .ret sv (u::us) news,h=>by
  simp only [wC,aX] at h
  refine ⟨fun e=> ?_,AA hs hc h.2⟩
  obtain ⟨h1,h2⟩:=ld hs (d:=d) (want:=want) (by rw [← hc,e])
  have h3:=h.1 e
  generalize s.tellT d want=s' at h1 h2 h3
  obtain ⟨n,ov,tm,hp,G⟩:=s'
  have:=cF (dQ h1) h3
  have e2:hp=s.hp:=congrArg AS.hp h2
  have e3:aN ov tm=s.as.tm:=congrArg AS.tm h2
  subst e2
  show Next K _
  simpa [CR.wp,ES.as,e3] using this
 | .ret sv [] (u::news),h=>by
  simp only [wC,aX] at h
  refine ⟨fun e=> ?_,AA hs hc h.2⟩
  obtain ⟨h1,h2⟩:=ld hs (d:=d) (want:=want) (by rw [← hc,e])
  have h3:=h.1 e
  generalize s.tellT d want=s' at h1 h2 h3
  obtain ⟨n,ov,tm,hp,G⟩:=s'
  have:=cF (dQ h1) h3
  have e2:hp=s.hp:=congrArg AS.hp h2
  have e3:aN ov tm=s.as.tm:=congrArg AS.tm h2
  subst e2
  show Next K _
  simpa [CR.wp,ES.as,e3] using this
 | .anyI f,h=>⟨fun e n=>(ga hs hc (f n) (h n)).1 e,(ga hs hc (f 0) (h 0)).2⟩
 | .anyB f,h=>⟨fun e n=>(ga hs hc (f n) (h n)).1 e,(ga hs hc (f true) (h true)).2⟩
 | .anyL f,h=>⟨fun e n=>(ga hs hc (f n) (h n)).1 e,(ga hs hc (f []) (h [])).2⟩
 | .ite true r1 r2,h=>ga hs hc r1 h
 | .ite false r1 r2,h=>ga hs hc r2 h
theorem Ma {s:ES} (hs:s.Ok) {dst:Option Tmp} {d:Nat} {want c:Bool} (hc:c=aY s.as.tm d want) {K:ES→Prop} :∀ r,I7 C s dst d want c K r→
  (c=true→lq C dst s.as (Next K) r)∧(c=false→Next K (s.as.put dst .undef)):=by
 have other:∀ r,(c=true→xA C (s.tellT d want) dst K r)∧(c=false→cg (s.tellF d want) dst .undef K)→(c=true→lq C dst s.as (Next K) r)∧(c=false→Next K (s.as.put dst .undef)):=fun r h=>by
  refine ⟨fun e=> ?_,AA hs hc h.2⟩
  obtain ⟨h1,h2⟩:=ld hs (d:=d) (want:=want) (by rw [← hc,e])
  have:=oc h1 r (h.1 e)
  rwa [h2] at this
 intro r
 induction r with
 | bad=>exact fun h=>⟨fun e=>(h.1 e).elim,fun _=>cF hs h.2⟩
 | need p r ih=>exact fun h=>⟨fun e=>⟨h.1 e,(ih h.2).1 e⟩,(ih h.2).2⟩
 | know p r ih=>exact fun h=>⟨fun e hp=>(ih (h fun _=>hp)).1 e,fun e=>(ih (h fun e'=>by rw [e] at e';cases e')).2 e⟩
 | val sv=>
  intro h
  simp only [I7,aX] at h
  exact mm hs hc h
 | newRo sv=>
  intro h
  simp only [I7,aX] at h
  exact mm hs hc h
 | anyB f=>exact fun h=>⟨fun e β hβ=>(mm hs hc (h β fun _=>hβ)).1 e,fun e=>(mm hs hc (h true fun e'=>by rw [e] at e';cases e')).2 e⟩
 | call f svs=>
  intro h
  exact ga hs hc _ h
 | split b r1 r2=>exact fun h=>other _ h
 | new T cs=>exact fun h=>other _ h
 | newOwn c T e l=>exact fun h=>other _ h
 | upd b blk=>exact fun h=>other _ h
 | cpy b blk=>exact fun h=>other _ h
 | app b T e l=>exact fun h=>other _ h
 | frz b sv=>exact fun h=>other _ h
theorem mc {dst:Option Tmp} {s:AS} {K K':AS→Prop} (h:∀ s,K s→K' s):∀ r,lq C dst s K r→lq C dst s K' r
 | .bad,k=>k
 | .need p r,k=>⟨k.1,mc h r k.2⟩
 | .know p r,k=>fun hp=>mc h r (k hp)
 | .split b r1 r2,k=>⟨fun e=>mc h r1 (k.1 e),fun e=>mc h r2 (k.2 e)⟩
 | .val sv,k=>h _ k
 | .newRo sv,k=>h _ k
 | .new T cs,k=>h _ k
 | .newOwn c T e l,k=>h _ k
 | .upd b blk,k=>⟨k.1,h _ k.2⟩
 | .cpy b blk,k=>⟨k.1,h _ k.2⟩
 | .app b T e l,k=>⟨k.1,h _ k.2⟩
 | .frz b sv,k=>⟨k.1,h _ k.2⟩
 | .anyB f,k=>fun β hβ=>h _ (k β hβ)
 | .call f svs,k=>CR.wp_mono (fun sv hp k=>h _ k) _ k
theorem HS {s:AS} {dst:Option Tmp} {K:AS→Prop} {c x y:Operand} {b:Bool} (h1:s.ev C.glob c= .bool b) (h:K (s.put dst (bif b then s.ev C.glob x else s.ev C.glob y))):lq C dst s K (fQ C.P C.zero (s.ev C.glob) s.hp (.pick c x y)):=by
 simp only [fQ,h1,lq]
 exact ⟨fun e=>by subst e;exact h,fun e=>by subst e;exact h⟩
theorem n5 {all:Array Oper} {K:ES→Prop} :∀ (l:List Oper) (s:ES),s.Ok→iS C all l s K→qf C all l s.as (Next K)
 | [],s,hs,h=>⟨s,hs,rfl,h⟩
 | o::rest,s,hs,h=>by
  have ih:∀ s':AS,Next (fun s=>iS C all rest s K) s'→qf C all rest s' (Next K):=fun s' ⟨s'',h1,h2,h3⟩=>by
   have:=n5 rest s'' h1 h3
   rwa [h2] at this
  unfold iS at h
  show oZ all o s.as _ _
  unfold oZ
  have hev:=s.ev_eq hs C.glob
  split at h
  ·rename_i hg
   rw [hg]
   show lq C o.dst s.as (fun s'=>qf C all rest s' (Next K)) (fQ C.P C.zero (s.as.ev C.glob) s.as.hp o.op)
   refine mc ih _ ?_
   split at h
   ·rename_i c x y hop
    rw [hop]
    split at h
    ·rename_i sv hp
     obtain ⟨b,h1,h2⟩:=wh (glob:=C.glob) hs hev hp
     rw [hev] at h1 h2
     refine HS h1 ?_
     rw [← h2]
     rw [aX] at h
     exact cF hs h
    ·rw [hev] at h
     exact oc hs _ h
   ·rw [hev] at h
    exact oc hs _ h
  ·rename_i j want hg
   rw [hg]
   simp only [zO]
   split at h
   ·rename_i d hd
    rw [hd]
    split at h
    ·rename_i c hc
     obtain ⟨hc1,hc2⟩:=Ii hs hc
     have key:(c=true→lq C o.dst s.as (Next fun s=>iS C all rest s K) (fQ C.P C.zero (s.as.ev C.glob) s.as.hp o.op))∧(c=false→Next (fun s=>iS C all rest s K) (s.as.put o.dst .undef)):=by
      have hevG:c=true→s.evG C.glob d want=s.as.ev C.glob:=fun e=>s.evG_eq hs C.glob (by rw [← hc1,e])
      split at h
      ·rename_i c0 x y hop
       rw [hop]
       split at h
       ·rename_i sv hp
        rw [aX] at h
        have:=mm hs hc1 h
        refine ⟨fun e=> ?_,this.2⟩
        obtain ⟨b,h1,h2⟩:=wh (glob:=C.glob) hs (hevG e) hp
        rw [hevG e] at h1 h2
        refine HS h1 ?_
        rw [← h2]
        exact this.1 e
       ·have:=Ma hs hc1 _ h
        exact ⟨fun e=>by have k:=this.1 e;rw [hevG e] at k;exact k,this.2⟩
      ·have:=Ma hs hc1 _ h
       exact ⟨fun e=>by have k:=this.1 e;rw [hevG e] at k;exact k,this.2⟩
     exact FQ hc1 hc2 (fun e=>mc ih _ (key.1 e)) (fun e=>ih _ (key.2 e))
    ·exact h.elim
   ·exact h.elim
end
abbrev jc:=List Nat×List Nat
def Nk (ρ:Operand→SV) (hp:List Blk):Op→List Nat
 | .load _ a=>(ρ a).h1
 | .store _ a _=>(ρ a).h1
 | .indexAddr _ x _=>(ρ x).h1
 | .slice _ x _ _ _=>(ρ x).h1
 | .convert _ _ x=>(ρ x).h1
 | .sliceToArrayPointer _ x=>(ρ x).h1
 | .call c=>(match c.callee with
  | .builtin _=>c.args.toList.flatMap fun x=>(ρ x).h1
  | .value f=>yG hp 6 ((ρ f).hs++c.args.toList.flatMap fun x=>(ρ x).hs)
  | .invoke r _=>yG hp 6 ((ρ r).hs++c.args.toList.flatMap fun x=>(ρ x).hs))
 | _=> []
theorem H4 (glob:Nat→Option SV) (s:AS) (op:Op):Nk (s.ev glob) s.hp op=rZ glob s op:=by cases op <;>rfl
def CR.dB (A:List Nat) (n:Nat) (K:SV→List (Nat×Blk)→List Blk→Prop):CR→Prop
 | .need p c=>p∧c.dB A n K
 | .know _ c=>c.dB A n K
 | .ret sv upd news=>bif pu A n upd then K sv upd news else False
 | .ite b c1 c2=>bif b then c1.dB A n K else c2.dB A n K
 | _=>False
theorem CR.dB_dr {A:List Nat} {n:Nat} {K K':SV→List (Nat×Blk)→List Blk→Prop} (hk:∀ sv u m,K sv u m→K' sv u m):∀ c:CR,c.dB A n K→c.dr A n K'
 | .bad,h=>h
 | .need p c,h=>⟨h.1,dB_dr hk c h.2⟩
 | .know p c,h=>dB_dr hk c h
 | .ret sv u m,h=>by
  simp only [CR.dB] at h
  cases hb:pu A n u with
  | true=>rw [hb] at h;exact ⟨hb,hk _ _ _ h⟩
  | false=>rw [hb] at h;exact h.elim
 | .anyI f,h=>h
 | .anyB f,h=>h
 | .anyL f,h=>h
 | .ite true c1 c2,h=>dB_dr hk c1 h
 | .ite false c1 c2,h=>dB_dr hk c2 h
section
variable (C:Ctx)
def Ap (s:ES) (dst:Option Tmp) (A:List Nat) (K:ES→jc→Prop):OR→Prop
 | .bad=>False
 | .need p r=>p∧Ap s dst A K r
 | .know _ r=>Ap s dst A K r
 | .split b r1 r2=>bif b then Ap s dst A K r1 else Ap s dst A K r2
 | .val sv=>bN sv fun sv=>cg s dst sv fun s=>K s (A,[])
 | .newRo sv=>bN sv fun sv=>cg s dst sv fun s=>K s (A,[])
 | .new T cs=>(match s with | ⟨n,ov,tm,hp,G⟩=>cg ⟨n,ov,tm,hp++ [.cells T cs],G⟩ dst (.ptr hp.length 0) fun s=>K s (A,[hp.length]))
 | .newOwn true T e l=>(match s with | ⟨n,ov,tm,hp,G⟩=>cg ⟨n,ov,tm,hp++ [.own T e l],G⟩ dst (.lit hp.length) fun s=>K s (A,[hp.length]))
 | .newOwn false T e l=>(match s with | ⟨n,ov,tm,hp,G⟩=>cg ⟨n,ov,tm,hp++ [.own T e l],G⟩ dst (.own hp.length) fun s=>K s (A,[hp.length]))
 | .upd b blk=>bif aP ((bp A 0 s.hp).getD b .none) then (match s with | ⟨n,ov,tm,hp,G⟩=>cg ⟨n,ov,tm,hp.set b blk,G⟩ dst .undef fun s=>K s (A,[b])) else False
 | .cpy b blk=>bif aP ((bp A 0 s.hp).getD b .none) then (match s with | ⟨n,ov,tm,hp,G⟩=>cg ⟨n,ov,tm,hp.set b blk,G⟩ dst .dead fun s=>K s (A,[b])) else False
 | .app b T e l=>bif aP ((bp A 0 s.hp).getD b .none) then (match s with | ⟨n,ov,tm,hp,G⟩=>cg ⟨n,ov,tm,hp.set b .none++ [.own T e l],G⟩ dst (.own hp.length) fun s=>K s (A,[b,hp.length])) else False
 | .frz b sv=>bif aP ((bp A 0 s.hp).getD b .none) then (match s with | ⟨n,ov,tm,hp,G⟩=>bN sv fun sv=>cg ⟨n,ov,tm,hp.set b .none,G⟩ dst sv fun s=>K s (A,[b])) else False
 | .anyB _=>False
 | .call f svs=>(C.spec f svs (bp A 0 s.hp)).dB A s.hp.length fun sv upd news=>bN sv fun sv=>match s with | ⟨n,ov,tm,hp,G⟩=>cg ⟨n,ov,tm,bq hp upd++news,G⟩ dst sv fun s=>K s (A,upd.map (·.1)++kL hp.length news)
def vW (s:ES) (dst:Option Tmp) (A:List Nat) (d:Nat) (want c:Bool) (K:ES→jc→Prop):CR→Prop
 | .need p r=>(c=true→p)∧vW s dst A d want c K r
 | .know _ r=>vW s dst A d want c K r
 | .ret sv [] [] =>bN sv fun sv=>oa s dst d want c sv fun s=>K s (A,[])
 | .ret sv upd news=>(c=true→bif pu A s.hp.length upd then bN sv fun sv=>match s.tellT d want with | ⟨n,ov,tm,hp,G⟩=>cg ⟨n,ov,tm,bq hp upd++news,G⟩ dst sv fun s=>K s (A,upd.map (·.1)++kL hp.length news) else False)∧(c=false→cg (s.tellF d want) dst .undef fun s=>K s ([],[]))
 | .ite b r1 r2=>bif b then vW s dst A d want c K r1 else vW s dst A d want c K r2
 | _=>(c=true→False)∧cg s dst .undef fun s=>K s ([],[])
def Lb (s:ES) (dst:Option Tmp) (A:List Nat) (d:Nat) (want c:Bool) (K:ES→jc→Prop):OR→Prop
 | .bad=>(c=true→False)∧cg s dst .undef fun s=>K s ([],[])
 | .need p r=>(c=true→p)∧Lb s dst A d want c K r
 | .know _ r=>Lb s dst A d want c K r
 | .val sv=>bN sv fun sv=>oa s dst d want c sv fun s=>K s (A,[])
 | .newRo sv=>bN sv fun sv=>oa s dst d want c sv fun s=>K s (A,[])
 | .call f svs=>vW s dst A d want c K (C.spec f svs (bp A 0 s.hp))
 | r=>(c=true→Ap C (s.tellT d want) dst A K r)∧(c=false→cg (s.tellF d want) dst .undef fun s=>K s ([],[]))
def kU (all:Array Oper):List Oper→ES→List jc→(ES→List jc→Prop)→Prop
 | [],s,es,K=>K s es
 | o::rest,s,es,K=>
  match o.guard with
  | none=>(match o.op with
   | .pick c x y=>(match y8 s (s.ev C.glob) c x y with
    | some sv=>bN sv fun sv=>cg s o.dst sv fun s=>kU all rest s (es++ [([],[])]) K
    | none=>False)
   | op=>(fun A=>Ap C s o.dst A (fun s k=>kU all rest s (es++ [k]) K) (fQ C.P C.zero (s.ev C.glob) (bp A 0 s.hp) op)) (Nk (s.ev C.glob) s.hp op))
  | some (j,want)=>(match (all[j]?).bind (·.dst) with
   | some d=>(match GC s d want with
    | some c=>(match o.op with
     | .pick c0 x y=>(match y8 s (s.evG C.glob d want) c0 x y with
      | some sv=>bN sv fun sv=>oa s o.dst d want c sv fun s=>kU all rest s (es++ [([],[])]) K
      | none=>False)
     | op=>(fun A=>Lb C s o.dst A d want c (fun s k=>kU all rest s (es++ [k]) K) (fQ C.P C.zero (s.evG C.glob d want) (bp A 0 s.hp) op)) (Nk (s.evG C.glob d want) s.hp op))
    | none=>False)
   | none=>False)
def Ny (all:Array Oper) (s:ES) (K:ES→Prop):Prop:=kU C all all.toList s [] fun s es=>bif gv all es then K s else False
end
def BK (a b:jc):Prop:=a=b∨a=([],[])
structure KeysLe (l m:List jc):Prop where
 len:l.length=m.length
 le:∀ (i:Nat) (a b:jc),l[i]? =some a→m[i]? =some b→BK a b
theorem KeysLe.nil:KeysLe [] [] :=⟨rfl,fun i a b h=>by simp at h⟩
theorem KeysLe.snoc {l m:List jc} (h:KeysLe l m) {a b:jc} (hab:BK a b):KeysLe (l++ [a]) (m++ [b]):=by
 refine ⟨by simp [h.len],fun i x y hx hy=> ?_⟩
 rcases Nat.lt_or_ge i l.length with hi | hi
 ·rw [List.getElem?_append_left hi] at hx
  rw [List.getElem?_append_left (by rw [← h.len];exact hi)] at hy
  exact h.le i x y hx hy
 ·rw [List.getElem?_append_right hi] at hx
  rw [List.getElem?_append_right (by rw [← h.len];exact hi)] at hy
  rw [← h.len] at hy
  cases hj:i-l.length with
  | zero=>rw [hj] at hx hy;simp at hx hy;subst hx;subst hy;exact hab
  | succ j=>rw [hj] at hx;simp at hx
theorem MC {all:Array Oper} {oi oj:Oper} {ki kj ki' kj':jc} (hi:BK ki ki') (hj:BK kj kj') (h:jm all oi oj ki kj=true):jm all oi oj ki' kj'=true:=by
 unfold jm at h ⊢
 simp only [Bool.or_eq_true] at h ⊢
 rcases h with (h | h) | h
 ·exact .inl (.inl h)
 ·rcases hi with rfl | rfl
  ·rcases hj with rfl | rfl
   ·exact .inl (.inr h)
   ·simp at h
  ·simp at h
 ·rcases hi with rfl | rfl
  ·rcases hj with rfl | rfl
   ·exact .inr h
   ·simp at h
  ·simp at h
theorem KT {all:Array Oper} {l m:List jc} (h:KeysLe l m) (hc:gv all m=true):gv all l=true:=by
 unfold gv at hc ⊢
 simp only [cV] at hc ⊢
 refine ⟨hc.1,?_⟩
 have h2:=hc.2
 unfold Fe at h2 ⊢
 rw [List.all_eq_true] at h2 ⊢
 intro j hj
 have h3:=h2 j hj
 rw [List.all_eq_true] at h3 ⊢
 intro i hi
 have h4:=h3 i hi
 split
 ·rename_i oi oj ki kj e1 e2 e3 e4
  have l1:i<m.length:=by rw [← h.len];exact (List.getElem?_eq_some_iff.1 e3).1
  have l2:j<m.length:=by rw [← h.len];exact (List.getElem?_eq_some_iff.1 e4).1
  rw [e1,e2,cJ l1,cJ l2] at h4
  simp only [Bool.or_eq_true,Bool.not_eq_true'] at h4 ⊢
  rcases h4 with h4 | h4
  ·left
   cases hk:jm all oi oj ki kj with
   | false=>rfl
   | true=>
    have:=MC (h.le i _ _ e3 (cJ l1)) (h.le j _ _ e4 (cJ l2)) hk
    rw [h4] at this;cases this
  ·exact .inr h4
 ·rfl
section
variable {C:Ctx}
def fi (K:ES→jc→Prop) (s:AS) (k:jc):Prop:=∃ (s':ES) (k':jc),s'.Ok∧s'.as=s∧BK k k'∧K s' k'
theorem bK {s:ES} (hs:s.Ok) {dst:Option Tmp} {sv:SV} {K:ES→jc→Prop} {k:jc} (h:cg s dst sv fun s=>K s k):fi K (s.as.put dst sv) k:=by
 obtain ⟨s',h1,h2,h3,_⟩:=Be hs h
 exact ⟨s',k,h1,h2,.inl rfl,h3⟩
theorem qd {s:ES} (hs:s.Ok) {dst:Option Tmp} {d:Nat} {want c:Bool} (hc:c=aY s.as.tm d want) {sv:SV} {K:ES→jc→Prop} {k:jc} (h:oa s dst d want c sv fun s=>K s k):(c=true→fi K (s.as.put dst sv) k)∧(c=false→fi K (s.as.put dst .undef) ([],[])):=by
 obtain ⟨s',h1,h2,h3⟩:=HW hs hc h
 exact ⟨fun e=>by subst e;exact ⟨s',k,h1,h2,.inl rfl,h3⟩,fun e=>by subst e;exact ⟨s',k,h1,h2,.inr rfl,h3⟩⟩
def HC (K:ES→jc→Prop) (s:AS) (e:Eff):Prop:=fi K (s.app e) e.key
theorem oI (s:AS) (dst:Option Tmp) (sv:SV) (A:List Nat) (n:Nat):s.app ⟨dst,sv,A,[],n,[]⟩=s.put dst sv:=by
 show (⟨s.tm,bq s.hp [] ++ []⟩:AS).put dst sv=_
 rw [show bq s.hp [] ++ [] =s.hp from List.append_nil _]
theorem qw {o:Oper} {s:ES} (hs:s.Ok) {A:List Nat} {K:ES→jc→Prop} :∀ r,Ap C s o.dst A K r→kF C o A s.as (HC K s.as) r
 | .bad,h=>h
 | .need p r,h=>⟨h.1,qw hs r h.2⟩
 | .know p r,h=>qw hs r h
 | .split b r1 r2,h=>by
  cases b with
  | true=>exact ⟨fun _=>qw hs r1 h,fun e=>by cases e⟩
  | false=>exact ⟨(fun e=>by cases e),fun _=>qw hs r2 h⟩
 | .val sv,h=>by
  simp only [Ap,aX] at h
  have:=bK hs h
  show fi K _ _
  rw [oI];exact this
 | .newRo sv,h=>by
  simp only [Ap,aX] at h
  have:=bK hs h
  show fi K _ _
  rw [oI];exact this
 | .new T cs,h=>by
  obtain ⟨n,ov,tm,hp,G⟩:=s
  exact bK (dQ hs) h
 | .newOwn true T e l,h=>by
  obtain ⟨n,ov,tm,hp,G⟩:=s
  exact bK (dQ hs) h
 | .newOwn false T e l,h=>by
  obtain ⟨n,ov,tm,hp,G⟩:=s
  exact bK (dQ hs) h
 | .upd b blk,h=>by
  obtain ⟨n,ov,tm,hp,G⟩:=s
  obtain ⟨h1,h2⟩:=mA h
  refine ⟨h1,?_⟩
  have:=bK (dQ hs) h2
  show fi K ((⟨aN ov tm,bq hp [(b,blk)] ++ []⟩:AS).put o.dst .undef) _
  rw [List.append_nil]
  exact this
 | .cpy b blk,h=>by
  obtain ⟨n,ov,tm,hp,G⟩:=s
  obtain ⟨h1,h2⟩:=mA h
  refine ⟨h1,?_⟩
  have:=bK (dQ hs) h2
  show fi K ((⟨aN ov tm,bq hp [(b,blk)] ++ []⟩:AS).put o.dst .dead) _
  rw [List.append_nil]
  exact this
 | .app b T e l,h=>by
  obtain ⟨n,ov,tm,hp,G⟩:=s
  obtain ⟨h1,h2⟩:=mA h
  exact ⟨h1,bK (dQ hs) h2⟩
 | .frz b sv,h=>by
  obtain ⟨n,ov,tm,hp,G⟩:=s
  obtain ⟨h1,h2⟩:=mA h
  simp only [aX] at h2
  refine ⟨h1,?_⟩
  have:=bK (dQ hs) h2
  show fi K ((⟨aN ov tm,bq hp [(b,.none)] ++ []⟩:AS).put o.dst sv) _
  rw [List.append_nil]
  exact this
 | .anyB f,h=>h
 | .call f svs,h=>by
  obtain ⟨n,ov,tm,hp,G⟩:=s
  refine CR.dB_dr (fun sv u m k=> ?_) _ h
  simp only [aX] at k
  exact bK (dQ hs) k
theorem Rq {s:ES} (hs:s.Ok) {d:Nat} {want c:Bool} (hc:c=aY s.as.tm d want) {dst:Option Tmp} {K:ES→jc→Prop} (h:c=false→cg (s.tellF d want) dst .undef fun s=>K s ([],[])):c=false→fi K (s.as.put dst .undef) ([],[]):=fun e=>by
 obtain ⟨h1,h2⟩:=CK hs (d:=d) (want:=want) (by rw [← hc,e])
 have:=bK h1 (h e)
 rwa [h2] at this
theorem J0 {b:Bool} {p:Prop} (h:bif b then p else False):b=true∧p:=by
 cases b with
 | true=>exact ⟨rfl,h⟩
 | false=>exact h.elim
theorem od {o:Oper} {s:ES} (hs:s.Ok) {A:List Nat} {d:Nat} {want c:Bool} (hc:c=aY s.as.tm d want) {K:ES→jc→Prop} :∀ r,vW s o.dst A d want c K r→
  (c=true→r.dr A s.hp.length fun sv upd news=>HC K s.as ⟨o.dst,sv,A,upd,s.hp.length,news⟩)∧(c=false→fi K (s.as.put o.dst .undef) ([],[]))
 | .bad,h=>⟨fun e=>h.1 e,fun _=>bK hs h.2⟩
 | .need p r,h=>⟨fun e=>⟨h.1 e,(od hs hc r h.2).1 e⟩,(od hs hc r h.2).2⟩
 | .know p r,h=>od hs hc r h
 | .ret sv [] [],h=>by
  simp only [vW,aX] at h
  have:=qd hs hc h
  refine ⟨fun e=>⟨rfl,?_⟩,this.2⟩
  show fi K _ _
  rw [oI];exact this.1 e
 | .ret sv (u::us) news,h=>by
  simp only [vW,aX] at h
  refine ⟨fun e=> ?_,Rq hs hc h.2⟩
  obtain ⟨h1,h2⟩:=ld hs (d:=d) (want:=want) (by rw [← hc,e])
  have h34:=h.1 e
  have ⟨h3,h4⟩:=J0 h34
  refine ⟨h3,?_⟩
  generalize s.tellT d want=s' at h1 h2 h4
  obtain ⟨n,ov,tm,hp,G⟩:=s'
  have:=bK (dQ h1) h4
  have e2:hp=s.hp:=congrArg AS.hp h2
  have e3:aN ov tm=s.as.tm:=congrArg AS.tm h2
  subst e2
  show fi K _ _
  simpa [ES.as,e3,AS.app,Eff.key] using this
 | .ret sv [] (u::news),h=>by
  simp only [vW,aX] at h
  refine ⟨fun e=> ?_,Rq hs hc h.2⟩
  obtain ⟨h1,h2⟩:=ld hs (d:=d) (want:=want) (by rw [← hc,e])
  have h34:=h.1 e
  have ⟨h3,h4⟩:=J0 h34
  refine ⟨h3,?_⟩
  generalize s.tellT d want=s' at h1 h2 h4
  obtain ⟨n,ov,tm,hp,G⟩:=s'
  have:=bK (dQ h1) h4
  have e2:hp=s.hp:=congrArg AS.hp h2
  have e3:aN ov tm=s.as.tm:=congrArg AS.tm h2
  subst e2
  show fi K _ _
  simpa [ES.as,e3,AS.app,Eff.key] using this
 | .anyI f,h=>⟨fun e=>h.1 e,fun _=>bK hs h.2⟩
 | .anyB f,h=>⟨fun e=>h.1 e,fun _=>bK hs h.2⟩
 | .anyL f,h=>⟨fun e=>h.1 e,fun _=>bK hs h.2⟩
 | .ite true r1 r2,h=>od hs hc r1 h
 | .ite false r1 r2,h=>od hs hc r2 h
theorem W8 {o:Oper} {s:ES} (hs:s.Ok) {A:List Nat} {d:Nat} {want c:Bool} (hc:c=aY s.as.tm d want) {K:ES→jc→Prop} :∀ r,Lb C s o.dst A d want c K r→
  (c=true→kF C o A s.as (HC K s.as) r)∧(c=false→fi K (s.as.put o.dst .undef) ([],[])):=by
 have other:∀ r,(c=true→Ap C (s.tellT d want) o.dst A K r)∧(c=false→cg (s.tellF d want) o.dst .undef fun s=>K s ([],[]))→(c=true→kF C o A s.as (HC K s.as) r)∧(c=false→fi K (s.as.put o.dst .undef) ([],[])):=fun r h=>by
  refine ⟨fun e=> ?_,Rq hs hc h.2⟩
  obtain ⟨h1,h2⟩:=ld hs (d:=d) (want:=want) (by rw [← hc,e])
  have:=qw h1 r (h.1 e)
  rwa [h2] at this
 intro r
 induction r with
 | bad=>exact fun h=>⟨fun e=>h.1 e,fun _=>bK hs h.2⟩
 | need p r ih=>exact fun h=>⟨fun e=>⟨h.1 e,(ih h.2).1 e⟩,(ih h.2).2⟩
 | know p r ih=>exact fun h=>ih h
 | val sv=>
  intro h
  simp only [Lb,aX] at h
  have:=qd hs hc h
  refine ⟨fun e=> ?_,this.2⟩
  show fi K _ _
  rw [oI];exact this.1 e
 | newRo sv=>
  intro h
  simp only [Lb,aX] at h
  have:=qd hs hc h
  refine ⟨fun e=> ?_,this.2⟩
  show fi K _ _
  rw [oI];exact this.1 e
 | anyB f=>exact fun h=>other _ h
 | call f svs=>
  intro h
  exact od hs hc _ h
 | split b r1 r2=>exact fun h=>other _ h
 | new T cs=>exact fun h=>other _ h
 | newOwn c T e l=>exact fun h=>other _ h
 | upd b blk=>exact fun h=>other _ h
 | cpy b blk=>exact fun h=>other _ h
 | app b T e l=>exact fun h=>other _ h
 | frz b sv=>exact fun h=>other _ h
theorem tO (A:List Nat) (n:Nat) {K1 K2:SV→List (Nat×Blk)→List Blk→Prop} (hk:∀ sv u m,K1 sv u m→K2 sv u m):∀ c:CR,c.dr A n K1→c.dr A n K2
 | .bad,h=>h
 | .need p c,h=>⟨h.1,tO A n hk c h.2⟩
 | .know p c,h=>tO A n hk c h
 | .ret sv u m,h=>⟨h.1,hk _ _ _ h.2⟩
 | .anyI f,h=>h
 | .anyB f,h=>h
 | .anyL f,h=>h
 | .ite true c1 c2,h=>tO A n hk c1 h
 | .ite false c1 c2,h=>tO A n hk c2 h
theorem mE {o:Oper} {A:List Nat} {s:AS} {K K':Eff→Prop} (h:∀ e,K e→K' e):∀ r,kF C o A s K r→kF C o A s K' r
 | .bad,k=>k
 | .need p r,k=>⟨k.1,mE h r k.2⟩
 | .know p r,k=>mE h r k
 | .split b r1 r2,k=>⟨fun e=>mE h r1 (k.1 e),fun e=>mE h r2 (k.2 e)⟩
 | .val sv,k=>h _ k
 | .newRo sv,k=>h _ k
 | .new T cs,k=>h _ k
 | .newOwn c T e l,k=>h _ k
 | .upd b blk,k=>⟨k.1,h _ k.2⟩
 | .cpy b blk,k=>⟨k.1,h _ k.2⟩
 | .app b T e l,k=>⟨k.1,h _ k.2⟩
 | .frz b sv,k=>⟨k.1,h _ k.2⟩
 | .anyB f,k=>k
 | .call f svs,k=>tO _ _ (fun sv u m k=>h _ k) _ k
theorem Lg {o:Oper} {s:AS} {K:Eff→Prop} {c x y:Operand} {b:Bool} {A:List Nat} (h1:s.ev C.glob c= .bool b) (h:K ⟨o.dst,bif b then s.ev C.glob x else s.ev C.glob y,A,[],s.hp.length,[]⟩) (hp:List Blk):kF C o A s K (fQ C.P C.zero (s.ev C.glob) hp (.pick c x y)):=by
 simp only [fQ,h1,kF]
 exact ⟨fun e=>by subst e;exact h,fun e=>by subst e;exact h⟩
theorem FL {all:Array Oper} {K:ES→Prop} :∀ (l:List Oper) (s:ES) (es es':List jc),s.Ok→KeysLe es es'→kU C all l s es' (fun s es=>bif gv all es then K s else False)→
  pQ C all l s.as es fun s es=>gv all es=true∧Next K s
 | [],s,es,es',hs,hle,h=>by
  simp only [kU] at h
  cases hc:gv all es' with
  | false=>rw [hc] at h;exact h.elim
  | true=>rw [hc] at h;exact ⟨KT hle hc,s,hs,rfl,h⟩
 | o::rest,s,es,es',hs,hle,h=>by
  have ih:∀ (s':AS) (k:jc),fi (fun s k=>kU C all rest s (es'++ [k]) (fun s es=>bif gv all es then K s else False)) s' k→pQ C all rest s' (es++ [k]) fun s es=>gv all es=true∧Next K s:=fun s' k ⟨s'',k',h1,h2,h3,h4⟩=>by
   have:=FL rest s'' (es++ [k]) (es'++ [k']) h1 (hle.snoc h3) h4
   rwa [h2] at this
  unfold kU at h
  show oZ all o s.as _ _
  unfold oZ
  have hev:=s.ev_eq hs C.glob
  split at h
  ·rename_i hg
   rw [hg]
   show kF C o (rZ C.glob s.as o.op) s.as (fun e=>pQ C all rest (s.as.app e) (es++ [e.key]) _) (fQ C.P C.zero (s.as.ev C.glob) (bp (rZ C.glob s.as o.op) 0 s.as.hp) o.op)
   refine mE (fun e k=>ih _ _ k) _ ?_
   split at h
   ·rename_i c x y hop
    rw [hop]
    split at h
    ·rename_i sv hp
     obtain ⟨b,h1,h2⟩:=wh (glob:=C.glob) hs hev hp
     rw [hev] at h1 h2
     refine Lg h1 ?_ _
     rw [← h2,oI]
     rw [aX] at h
     exact bK (K:=fun s k=>kU C all rest s (es'++ [k]) _) hs h
    ·exact h.elim
   ·rename_i hop
    rw [hev,show s.hp=s.as.hp from rfl,H4] at h
    exact qw hs _ h
  ·rename_i j want hg
   rw [hg]
   simp only [zO]
   split at h
   ·rename_i d hd
    rw [hd]
    split at h
    ·rename_i c hc
     obtain ⟨hc1,hc2⟩:=Ii hs hc
     have key:(c=true→kF C o (rZ C.glob s.as o.op) s.as (HC (fun s k=>kU C all rest s (es'++ [k]) (fun s es=>bif gv all es then K s else False)) s.as) (fQ C.P C.zero (s.as.ev C.glob) (bp (rZ C.glob s.as o.op) 0 s.as.hp) o.op))∧
       (c=false→fi (fun s k=>kU C all rest s (es'++ [k]) (fun s es=>bif gv all es then K s else False)) (s.as.put o.dst .undef) ([],[])):=by
      have hevG:c=true→s.evG C.glob d want=s.as.ev C.glob:=fun e=>s.evG_eq hs C.glob (by rw [← hc1,e])
      split at h
      ·rename_i c0 x y hop
       rw [hop]
       split at h
       ·rename_i sv hp
        rw [aX] at h
        have:=qd (K:=fun s k=>kU C all rest s (es'++ [k]) _) (k:=([],[])) hs hc1 h
        refine ⟨fun e=> ?_,this.2⟩
        obtain ⟨b,h1,h2⟩:=wh (glob:=C.glob) hs (hevG e) hp
        rw [hevG e] at h1 h2
        refine Lg h1 ?_ _
        show fi _ _ _
        rw [← h2,oI]
        exact this.1 e
       ·exact h.elim
      ·rename_i hop
       have:=W8 hs hc1 _ h
       refine ⟨fun e=> ?_,this.2⟩
       have k:=this.1 e
       rw [hevG e,show s.hp=s.as.hp from rfl,H4] at k
       exact k
     exact FQ hc1 hc2 (fun e=>mE (fun e k=>ih _ _ k) _ (key.1 e)) (fun e=>ih _ _ (key.2 e))
    ·exact h.elim
   ·exact h.elim
theorem Fx {all:Array Oper} {s:ES} (hs:s.Ok) {K:ES→Prop} (h:Ny C all s K):P1 C all s.as (Next K):=FL _ s [] [] hs .nil h
end
end Go.Avc
