/-
  AVC, part P: an operation of a region whose order isn't given, done whenever it may be.
-/
import Derived.Test.YteiecapbaeajdaaGreatDoorJ2
import Derived.Laws.Sem
namespace Go.Avc
set_option linter.unusedVariables false
set_option linter.unusedSimpArgs false
section
variable {C:Ctx} {E B:Ent}
theorem Mem.congr {hp hp':List Blk} {Im:Nat→Prop} {ι:Nat→Option Value} {w:World} (m:Mem C E hp Im ι w) (h:∀ b,hp'.getD b .none=hp.getD b .none):Mem C E hp' Im ι w:=
  ⟨fun b v hb=>by rw [h];exact m.hv b v hb,⟨m.mr.imlt,fun b v r h1=>m.mr.imm b v r (by rwa [h] at h1),fun b b' v v' r h1 h2=>m.mr.sep b b' v v' r (by rwa [h] at h1) (by rwa [h] at h2),fun b v r h1=>m.mr.mine b v r (by rwa [h] at h1)⟩,m.since,m.glob⟩
theorem rl {all:Array Oper} {o:Oper} {s:AS} {tmS:List SV} {hpS:List Blk} {p q:Prop} (hl:∀ t,t∈o.looksAt all→aD tmS t=aD s.tm t) (h:cB all o s p q):cB all o ⟨tmS,hpS⟩ p q:=by
  unfold cB at h ⊢
  split at h
  · exact h
  · rename_i j want hg
    cases hd:(all[j]?).bind (·.dst) with
    | none=>rw [hd] at h;simpa using h
    | some d=>
      rw [hd] at h
      simp only
      rw [hl d (by unfold Oper.looksAt;rw [hg];simp [hd])]
      exact h
theorem Ch {all:Array Oper} {o:Oper} {s:AS} {p q:Prop} (h:cB all o s p q):(cB all o s True False∧p)∨(cB all o s False True∧q):=by
  unfold cB at h ⊢
  split at h
  · exact .inl ⟨trivial,h⟩
  · rename_i j want hg
    cases hd:(all[j]?).bind (·.dst) with
    | none=>rw [hd] at h;exact .inr ⟨trivial,h⟩
    | some d=>
      rw [hd] at h
      simp only at h ⊢
      split at h
      · rename_i b hb
        by_cases hbw:b=want
        · exact .inl ⟨⟨fun _=>trivial,fun h'=>(h' hbw).elim⟩,h.1 hbw⟩
        · exact .inr ⟨⟨fun h'=>(hbw h').elim,fun _=>trivial⟩,h.2 hbw⟩
      · exact .inr ⟨trivial,h⟩
      · exact h.elim
structure Sched (C:Ctx) (all:Array Oper) (o:Oper) (s:AS) (A:List Nat) (E:Ent) (tmS:List SV) (hpS:List Blk) (Im:Nat→Prop) (ι:Nat→Option Value) (a:Act) (w:World):Prop where
  rel:Rel C E ⟨tmS,hpS⟩ Im ι a w
  len:tmS.length=s.tm.length
  tm:∀ t,t∈o.looksAt all→aD tmS t=aD s.tm t
  hp:∀ b,A.contains b=true→hpS.getD b .none=s.hp.getD b .none
structure EffOk (C:Ctx) (all:Array Oper) (o:Oper) (s:AS) (e:Eff):Prop where
  dst:e.dst=o.dst
  base:e.base=s.hp.length
  keys:∀ b,cb e.upd b≠none→b<e.base
  does:∀ E Im ι w a tmS hpS,Sched C all o s e.acc E tmS hpS Im ι a w→(∀ b,e.base≤b→b<e.base+e.news.length→ι b=none)→
    ∀ hpF,(∀ b,hpF.getD b .none=(e.hpW b).getD (hpS.getD b .none))→∀ (next:Act→World→Prop) (Q:Exit→Act→World→Prop),
      (∀ a' w' Im' ι',Rel C E ((⟨tmS,hpF⟩:AS).put e.dst e.sv) Im' ι' a' w'→(∀ b,¬ (e.base≤b∧b<e.base+e.news.length)→ι' b=ι b)→Later Im ι w Im' ι' w'→next a' w')→
      (Region.wanted o (yielded all a.tmps)=true∧o.wp C.P a w next Q)∨(Region.wanted o (yielded all a.tmps)=false∧next (a.put o.dst undef) w)
theorem cG {all:Array Oper} {o:Oper} {s:AS} {A:List Nat} (h:cB all o s True False) {tmS:List SV} {hpS:List Blk} {Im:Nat→Prop} {ι:Nat→Option Value} {a:Act} {w:World} (hs:Sched C all o s A E tmS hpS Im ι a w):
    Region.wanted o (yielded all a.tmps)=true:=by
  rcases lz (s:=⟨tmS,hpS⟩) hs.rel.tm (rl hs.tm h) with ⟨h1,_⟩ | ⟨_,h2⟩
  · exact h1
  · exact h2.elim
theorem uR {all:Array Oper} {o:Oper} {s:AS} {A:List Nat} (h:cB all o s False True) {tmS:List SV} {hpS:List Blk} {Im:Nat→Prop} {ι:Nat→Option Value} {a:Act} {w:World} (hs:Sched C all o s A E tmS hpS Im ι a w):
    Region.wanted o (yielded all a.tmps)=false:=by
  rcases lz (s:=⟨tmS,hpS⟩) hs.rel.tm (rl hs.tm h) with ⟨_,h2⟩ | ⟨h1,_⟩
  · exact h2.elim
  · exact h1
theorem qC (d:Option Tmp) (sv:SV) (A:List Nat) (n:Nat) (x:Blk) (y:Blk) {b:Nat} :((Eff.mk d sv A [] n [x]).hpW b).getD y=if b=n then x else y:=by
  unfold Eff.hpW
  simp only
  by_cases h:n≤b
  · rw [if_pos h]
    by_cases hb:b=n
    · subst hb;simp
    · rw [if_neg hb,List.getElem?_eq_none (by simp;omega)];rfl
  · rw [if_neg h,if_neg (by omega)];rfl
theorem sf (d:Option Tmp) (sv:SV) (A:List Nat) (n:Nat) (y:Blk) {b:Nat} :((Eff.mk d sv A [] n []).hpW b).getD y=y:=by
  unfold Eff.hpW
  simp only
  split <;>rfl
theorem iT (d:Option Tmp) (sv:SV) (A:List Nat) (n:Nat) (x:Blk) (y:Blk) {b b0:Nat} (h0:b0<n):((Eff.mk d sv A [(b0,x)] n []).hpW b).getD y=if b=b0 then x else y:=by
  unfold Eff.hpW
  simp only [cb]
  by_cases h:n≤b
  · rw [if_pos h,if_neg (by omega)];rfl
  · rw [if_neg h]
    by_cases hb:b=b0
    · subst hb;simp
    · rw [if_neg hb,if_neg (Ne.symm hb)];rfl
theorem uK (d:Option Tmp) (sv:SV) (A:List Nat) (n:Nat) (x z:Blk) (y:Blk) {b b0:Nat} (h0:b0<n):((Eff.mk d sv A [(b0,x)] n [z]).hpW b).getD y=if b=n then z else if b=b0 then x else y:=by
  unfold Eff.hpW
  simp only [cb]
  by_cases h:n≤b
  · rw [if_pos h]
    by_cases hb:b=n
    · subst hb;simp
    · rw [if_neg hb,if_neg (by omega),List.getElem?_eq_none (by simp;omega)];rfl
  · have hbn:¬ b=n:=by omega
    simp only [h,hbn,if_false]
    by_cases hb:b=b0
    · subst hb;simp
    · rw [if_neg hb,if_neg (Ne.symm hb)];rfl
theorem jX {b0 n:Nat} {x:Blk} (h:b0<n):∀ b,cb [(b0,x)] b≠none→b<n:=fun b hb=>by
  simp only [cb] at hb
  by_cases e:b0=b
  · omega
  · simp [e] at hb
theorem dl {A:List Nat} {hp:List Blk} {b:Nat} (h:aH ((ba A 0 hp).getD b .none)=true):A.contains b=true∧aH (hp.getD b .none)=true∧b<hp.length:=by
  have h':=h
  rw [i9,Nat.zero_add] at h
  split at h
  · rename_i hA
    exact ⟨hA,h,by have:=jH h';rwa [lC] at this⟩
  · cases h
def mZ (w:World) (Im:Nat→Prop) (ι:Nat→Option Value) (A:List Nat) (hpM:List Blk):Ent:=⟨w,Im,ι,fun r=>∃ b v,A.contains b=true∧ι b=some v∧aH (hpM.getD b .none)=true∧aC v=some r,[]⟩
theorem nO (hC:C.Ok) {all:Array Oper} {o:Oper} {s:AS} {A:List Nat} {K:Eff→Prop} (hw:cB all o s True False):
    ∀ r,(∀ E Im ι w a tmS hpS,Sched C all o s A E tmS hpS Im ι a w→aV C.P Im ι w ((execOp a.eval o).run C.P w) r)→gh C o A s K r→∃ e,EffOk C all o s e∧K e
  | .bad,_,h=>h.elim
  | .need p r,hs,h=>nO hC hw r (fun E Im ι w a tmS hpS k=>hs E Im ι w a tmS hpS k h.1) h.2
  | .know p r,hs,h=>nO hC hw r (fun E Im ι w a tmS hpS k=>(hs E Im ι w a tmS hpS k).2) h
  | .split b r1 r2,hs,h=>by
    cases hb:b with
    | true=>exact nO hC hw r1 (fun E Im ι w a tmS hpS k=>(hs E Im ι w a tmS hpS k).1 hb) (h.1 hb)
    | false=>exact nO hC hw r2 (fun E Im ι w a tmS hpS k=>(hs E Im ι w a tmS hpS k).2 hb) (h.2 hb)
  | .val sv,hs,h=>by
    refine ⟨_,⟨rfl,rfl,fun b hb=>absurd rfl hb,fun E Im ι w a tmS hpS k hn hpF hF next Q hK=> .inl ⟨cG hw k,?_⟩⟩,h⟩
    obtain ⟨v,hr,hv⟩:=hs E Im ι w a tmS hpS k
    unfold Oper.wp
    rw [hr]
    exact hK _ _ Im ι (k.rel.put (Later.refl _ _ _) (k.rel.mem.congr fun b=>by rw [hF,sf]) o.dst hv) (fun _ _=>rfl) (Later.refl _ _ _)
  | .new T cs,hs,h=>by
    refine ⟨_,⟨rfl,rfl,fun b hb=>absurd rfl hb,fun E Im ι w a tmS hpS k hn hpF hF next Q hK=> .inl ⟨cG hw k,?_⟩⟩,h⟩
    obtain ⟨vs,hr,hv⟩:=hs E Im ι w a tmS hpS k
    unfold Oper.wp
    rw [hr]
    obtain ⟨hm,hl⟩:=C0 (c:=s.hp.length) (hp':=hpF) k.rel.mem (hn _ (Nat.le_refl _) (by simp)) (fun b hb=>by rw [hF,qC,if_neg hb]) (by rw [hF,qC,if_pos rfl]) hv
    exact hK _ _ Im _ (k.rel.put hl hm o.dst ⟨_,ιset_same _ _ _,rfl⟩) (fun b hb=>ιset_other _ _ _ fun e=>hb ⟨by simp [e],by simp [e]⟩) hl
  | .newRo sv,hs,h=>by
    refine ⟨_,⟨rfl,rfl,fun b hb=>absurd rfl hb,fun E Im ι w a tmS hpS k hn hpF hF next Q hK=> .inl ⟨cG hw k,?_⟩⟩,h⟩
    obtain ⟨v,w',hr,hg,hv⟩:=hs E Im ι w a tmS hpS k
    unfold Oper.wp
    rw [hr]
    have hl:=dj hg k.rel.mem.mr.imlt (fun k h=>by cases h) (Im':=fun i=>Im i∨(w.heap.size≤i∧i<w'.heap.size)) (ι:=ι) (ι':=ι) (fun _ h=> .inl h) (fun _ _ h=>h)
    have hm:Mem C E hpF (fun i=>Im i∨(w.heap.size≤i∧i<w'.heap.size)) ι w':=by
      refine Mem.congr ?_ (hp:=hpS) (fun b=>by rw [hF,sf])
      exact (Mem.same k.rel.mem hg).1
    exact hK _ _ _ ι (k.rel.put hl hm o.dst hv) (fun _ _=>rfl) hl
  | .newOwn T e l,hs,h=>by
    refine ⟨_,⟨rfl,rfl,fun b hb=>absurd rfl hb,fun E Im ι w a tmS hpS k hn hpF hF next Q hK=> .inl ⟨cG hw k,?_⟩⟩,h⟩
    obtain ⟨v,w',xs,hr,hg,hsl,ho,hf,hk⟩:=hs E Im ι w a tmS hpS k
    unfold Oper.wp
    rw [hr]
    obtain ⟨hm,hl⟩:=uG (c:=s.hp.length) (hp':=hpF) k.rel.mem (hn _ (Nat.le_refl _) (by simp)) (fun b hb=>by rw [hF,qC,if_neg hb]) (by rw [hF,qC,if_pos rfl]) hg ho hf hk
    exact hK _ _ Im _ (k.rel.put hl hm o.dst ⟨ιset_same _ _ _,hsl⟩) (fun b hb=>ιset_other _ _ _ fun e=>hb ⟨by simp [e],by simp [e]⟩) hl
  | .upd b (.cells T cs),hs,h=>by
    obtain ⟨hA,hlv,hlt⟩:=dl h.1
    refine ⟨_,⟨rfl,rfl,jX hlt,fun E Im ι w a tmS hpS k hn hpF hF next Q hK=> .inl ⟨cG hw k,?_⟩⟩,h.2⟩
    obtain ⟨r,vs,cur,T',hb,hr0,rfl,hr,hv⟩:=hs E Im ι w a tmS hpS k
    unfold Oper.wp
    rw [hr]
    obtain ⟨hm,hl⟩:=pP (hp':=hpF) k.rel.mem hb (by rw [show (⟨tmS,hpS⟩:AS).hp=hpS from rfl,k.hp b hA];exact hlv) hr0 (fun b' hb'=>by rw [hF,iT _ _ _ _ _ _ hlt,if_neg hb']) (by rw [hF,iT _ _ _ _ _ _ hlt,if_pos rfl]) hv
    exact hK _ _ Im ι (k.rel.put hl hm o.dst iV) (fun _ _=>rfl) hl
  | .upd b (.own T e l),hs,h=>by
    obtain ⟨hA,hlv,hlt⟩:=dl h.1
    refine ⟨_,⟨rfl,rfl,jX hlt,fun E Im ι w a tmS hpS k hn hpF hF next Q hK=> .inl ⟨cG hw k,?_⟩⟩,h.2⟩
    obtain ⟨v,w',xs,hb,hr,hg,_,ho,hf⟩:=hs E Im ι w a tmS hpS k
    unfold Oper.wp
    rw [hr]
    obtain ⟨hm,hl⟩:=kK (hp':=hpF) k.rel.mem hb (by rw [show (⟨tmS,hpS⟩:AS).hp=hpS from rfl,k.hp b hA];exact hlv) hg (fun b' hb'=>by rw [hF,iT _ _ _ _ _ _ hlt,if_neg hb']) (by rw [hF,iT _ _ _ _ _ _ hlt,if_pos rfl]) ho hf
    exact hK _ _ Im ι (k.rel.put hl hm o.dst iV) (fun _ _=>rfl) hl
  | .upd b .none,hs,h=>by
    obtain ⟨hA,hlv,hlt⟩:=dl h.1
    exact ⟨_,⟨rfl,rfl,jX hlt,fun E Im ι w a tmS hpS k hn hpF hF next Q hK=>(hs E Im ι w a tmS hpS k).elim⟩,h.2⟩
  | .upd b (.ro ..),hs,h=>by
    obtain ⟨hA,hlv,hlt⟩:=dl h.1
    exact ⟨_,⟨rfl,rfl,jX hlt,fun E Im ι w a tmS hpS k hn hpF hF next Q hK=>(hs E Im ι w a tmS hpS k).elim⟩,h.2⟩
  | .cpy b (.own T e l),hs,h=>by
    obtain ⟨hA,hlv,hlt⟩:=dl h.1
    refine ⟨_,⟨rfl,rfl,jX hlt,fun E Im ι w a tmS hpS k hn hpF hF next Q hK=> .inl ⟨cG hw k,?_⟩⟩,h.2⟩
    obtain ⟨v,w',xs,u,hb,hr,hg,_,ho,hf⟩:=hs E Im ι w a tmS hpS k
    unfold Oper.wp
    rw [hr]
    obtain ⟨hm,hl⟩:=kK (hp':=hpF) k.rel.mem hb (by rw [show (⟨tmS,hpS⟩:AS).hp=hpS from rfl,k.hp b hA];exact hlv) hg (fun b' hb'=>by rw [hF,iT _ _ _ _ _ _ hlt,if_neg hb']) (by rw [hF,iT _ _ _ _ _ _ hlt,if_pos rfl]) ho hf
    exact hK _ _ Im ι (k.rel.put hl hm o.dst trivial) (fun _ _=>rfl) hl
  | .cpy b .none,hs,h=>by
    obtain ⟨hA,hlv,hlt⟩:=dl h.1
    exact ⟨_,⟨rfl,rfl,jX hlt,fun E Im ι w a tmS hpS k hn hpF hF next Q hK=>(hs E Im ι w a tmS hpS k).elim⟩,h.2⟩
  | .cpy b (.cells ..),hs,h=>by
    obtain ⟨hA,hlv,hlt⟩:=dl h.1
    exact ⟨_,⟨rfl,rfl,jX hlt,fun E Im ι w a tmS hpS k hn hpF hF next Q hK=>(hs E Im ι w a tmS hpS k).elim⟩,h.2⟩
  | .cpy b (.ro ..),hs,h=>by
    obtain ⟨hA,hlv,hlt⟩:=dl h.1
    exact ⟨_,⟨rfl,rfl,jX hlt,fun E Im ι w a tmS hpS k hn hpF hF next Q hK=>(hs E Im ι w a tmS hpS k).elim⟩,h.2⟩
  | .app b T e l,hs,h=>by
    obtain ⟨hA,hlv,hlt⟩:=dl h.1
    refine ⟨_,⟨rfl,rfl,jX hlt,fun E Im ι w a tmS hpS k hn hpF hF next Q hK=> .inl ⟨cG hw k,?_⟩⟩,h.2⟩
    obtain ⟨v,v',w',xs,hb,hr,hg,hsl,ho,hf,hk⟩:=hs E Im ι w a tmS hpS k
    unfold Oper.wp
    rw [hr]
    obtain ⟨hm,hl⟩:=Dw (c:=s.hp.length) (hp':=hpF) k.rel.mem hb (hn _ (Nat.le_refl _) (by simp)) (by rw [show (⟨tmS,hpS⟩:AS).hp=hpS from rfl,k.hp b hA];exact hlv) hg
      (fun b' h1 h2=>by rw [hF,uK _ _ _ _ _ _ _ hlt,if_neg h2,if_neg h1]) (by rw [hF,uK _ _ _ _ _ _ _ hlt,if_pos rfl]) (by rw [hF,uK _ _ _ _ _ _ _ hlt,if_neg (by omega),if_pos rfl]) ho hf hk
    exact hK _ _ Im _ (k.rel.put hl hm o.dst ⟨ιset_same _ _ _,hsl⟩) (fun b hb=>ιset_other _ _ _ fun e=>hb ⟨by simp [e],by simp [e]⟩) hl
  | .frz b sv,hs,h=>by
    obtain ⟨hA,hlv,hlt⟩:=dl h.1
    refine ⟨_,⟨rfl,rfl,jX hlt,fun E Im ι w a tmS hpS k hn hpF hF next Q hK=> .inl ⟨cG hw k,?_⟩⟩,h.2⟩
    obtain ⟨v,v',w',hb,hr,hg,hv⟩:=hs E Im ι w a tmS hpS k
    unfold Oper.wp
    rw [hr]
    obtain ⟨hm,hl⟩:=Dc (hp':=hpF) k.rel.mem hb (by rw [show (⟨tmS,hpS⟩:AS).hp=hpS from rfl,k.hp b hA];exact hlv) hg (fun b' hb'=>by rw [hF,iT _ _ _ _ _ _ hlt,if_neg hb']) (by rw [hF,iT _ _ _ _ _ _ hlt,if_pos rfl])
    exact hK _ _ _ ι (k.rel.put hl hm o.dst hv) (fun _ _=>rfl) hl
  | .anyB f,_,h=>h.elim
  | .call f svs,hs,h=>by
    obtain ⟨sv,upd,news,h1,h2,h3⟩:=CR.dr_wp (hp:=ba A 0 s.hp) _ h
    refine ⟨_,⟨rfl,rfl,fun b hb=>(p6 h1 hb).2,fun E Im ι w a tmS hpS k hn hpF hF next Q hK=> .inl ⟨cG hw k,?_⟩⟩,h2⟩
    obtain ⟨vs,hv,hr⟩:=hs E Im ι w a tmS hpS k
    unfold Oper.wp
    rw [hr]
    have hM:∀ b,(ba A 0 s.hp).getD b .none=if A.contains b then hpS.getD b .none else .none:=fun b=>by
      rw [i9,Nat.zero_add]
      split
      · rename_i hA;rw [k.hp b hA]
      · rfl
    have hlen:=lC A s.hp 0
    have hMem:Mem C (mZ w Im ι A (ba A 0 s.hp)) (ba A 0 s.hp) Im ι w:=by
      have m:=k.rel.mem
      have hlv:∀ b,aH ((ba A 0 s.hp).getD b .none)=true→A.contains b=true∧aH (hpS.getD b .none)=true:=fun b hb=>by
        obtain ⟨g1,g2,_⟩:=dl hb
        exact ⟨g1,by rw [k.hp b g1];exact g2⟩
      exact ⟨HV.mask m.hv k.hp,⟨m.mr.imlt,fun b v r g=>m.mr.imm b v r (hlv b g).2,fun b b' v v' r g g'=>m.mr.sep b b' v v' r (hlv b g).2 (hlv b' g').2,fun b v r g1 g2 g3=> .inr ⟨b,v,(hlv b g1).1,g2,g1,g3⟩⟩,⟨rfl,rfl,rfl,Nat.le_refl _,fun _ _ _=>rfl,fun _ _ h=>h,fun _ h=>h,fun _ h=> .inl h⟩,m.glob⟩
    have hc:=hC.spec f svs (ba A 0 s.hp) (fun sv' hp'=>sv'=sv∧hp'=bc (ba A 0 s.hp) upd++news) (fun b=>s.hp.length≤b∧b<s.hp.length+news.length)
      (CR.wp_mono (fun sv' hp' g=>⟨g,fun b g1 g2=>by
        rw [g.2,List.length_append,eH,hlen] at g2
        rw [hlen] at g1
        exact ⟨g1,g2⟩⟩) _ h3) (mZ w Im ι A (ba A 0 s.hp)) Im ι w vs hMem (fun b hb=>hn b hb.1 hb.2) hv
    have hpost:∀ v w',nX C (mZ w Im ι A (ba A 0 s.hp)) Im ι w (ba A 0 s.hp).length (fun sv' hp'=>sv'=sv∧hp'=bc (ba A 0 s.hp) upd++news) (.returned v) w'→next (a.put o.dst v) w':=by
      rintro v w' ⟨v',sv',hp',Im',ι',g1,⟨rfl,rfl⟩,g3,g4,gn,g5,g6⟩
      cases g1
      rw [List.length_append,eH,hlen] at g5
      have hX:∀ b,(bc (ba A 0 s.hp) upd++news).getD b .none=((if s.hp.length≤b then news[b-s.hp.length]? else cb upd b)).getD ((ba A 0 s.hp).getD b .none):=fun b=>by
        rw [jC,hlen]
      have hm:Mem C E hpF Im' ι' w':=Mem.frame (hpM:=ba A 0 s.hp) (n:=s.hp.length) (k:=news.length) k.rel.mem hM g4 g5 (fun b g1 g2=>hn b g1 g2)
        (fun b hb=>by
          rw [hF,hX]
          show (if s.hp.length≤b then news[b-s.hp.length]? else cb upd b).getD _=_
          rcases hb with hA | ⟨g7,g8⟩
          · rw [hM,if_pos hA]
          · rw [if_pos g7]
            rw [show news[b-s.hp.length]? =some (news[b-s.hp.length]'(by omega)) from List.getElem?_eq_getElem _]
            rfl)
        (fun b g7 g8=>by
          rw [hF]
          show (if s.hp.length≤b then news[b-s.hp.length]? else cb upd b).getD _=_
          by_cases g9:s.hp.length≤b
          · rw [if_pos g9,List.getElem?_eq_none (by omega)];rfl
          · rw [if_neg g9]
            cases hu:cb upd b with
            | none=>rfl
            | some y=>
              have:=(p6 h1 (i:=b) (by rw [hu];simp)).1
              rw [g7] at this;cases this)
      exact hK _ _ Im' ι' (k.rel.put g6 hm o.dst g3) g5 g6
    rcases hc with ⟨c1,c2⟩ | ⟨v,c1,c2⟩
    · rw [c1]
      show Calls _ _ _ _ _
      refine Calls.mono c2 fun e w' he=> ?_
      cases e with
      | returned v=>exact hpost v w' he
      | panicked c=>obtain ⟨v',sv,hp',Im',ι',h1,_⟩:=he;cases h1
      | outgrown=>obtain ⟨v',sv,hp',Im',ι',h1,_⟩:=he;cases h1
    · rw [c1]
      exact hpost v w c2
theorem UR (hC:C.Ok) {all:Array Oper} {o:Oper} {s:AS} {K:Eff→Prop}
    (h:cB all o s (gh C o (lp C.glob s o.op) s K (fk C.P C.zero (s.ev C.glob) (ba (lp C.glob s o.op) 0 s.hp) o.op)) (K ⟨o.dst,.undef,[],[],s.hp.length,[]⟩)):
    ∃ e,EffOk C all o s e∧K e:=by
  rcases Ch h with ⟨h1,h2⟩ | ⟨h1,h2⟩
  · refine nO hC h1 _ (fun E Im ι w a tmS hpS k=> ?_) h2
    refine AP hC.zero k.rel.mem.mr.imlt (HV.mask k.rel.mem.hv k.hp) fun x hx=> ?_
    have hv:=sL (hp:=s.hp) k.rel.tm k.rel.mem.glob x
    cases x with
    | tmp t=>
      have ht:t∈o.looksAt all:=by
        unfold Oper.looksAt
        refine List.mem_append_left _ (List.mem_filterMap.2 ⟨.tmp t,by simpa using hx,rfl⟩)
      have e1:s.ev C.glob (.tmp t)=AS.ev C.glob ⟨tmS,s.hp⟩ (.tmp t):=(k.tm t ht).symm
      rw [e1];exact hv
    | const v=>exact hv
    | global g=>exact hv
    | func f=>exact hv
  · refine ⟨_,⟨rfl,rfl,fun b hb=>absurd rfl hb,fun E Im ι w a tmS hpS k hn hpF hF next Q hK=> .inr ⟨uR h1 k,?_⟩⟩,h2⟩
    exact hK _ _ Im ι (k.rel.put (Later.refl _ _ _) (k.rel.mem.congr fun b=>by rw [hF,sf]) o.dst iV) (fun _ _=>rfl) (Later.refl _ _ _)
end
end Go.Avc
namespace Go.Avc
set_option linter.unusedVariables false
set_option linter.unusedSimpArgs false
section
variable {V:Type}
def gN (S:Nat→Bool):List (Nat→Option V)→Nat→(Nat→V)→(Nat→V)
  | [],_,st=>st
  | e::es,i,st=>gN S es (i+1) (if S i then fun l=>(e l).getD (st l) else st)
theorem fa {S S':Nat→Bool} {l:Nat} :∀ (es:List (Nat→Option V)) (i:Nat) (st st':Nat→V),(∀ j e,es[j]? =some e→e l≠none→S (i+j)=S' (i+j))→st l=st' l→gN S es i st l=gN S' es i st' l
  | [],_,_,_,_,h=>h
  | e::es,i,st,st',h,hst=>by
    refine fa es (i+1) _ _ (fun j e' hj hl=>by
      have:=h (j+1) e' (by simpa using hj) hl
      rwa [show i+(j+1)=i+1+j from by omega] at this) ?_
    cases he:e l with
    | none=>
      have h1:(if S i then fun l=>(e l).getD (st l) else st) l=st l:=by split <;>simp [he]
      have h2:(if S' i then fun l=>(e l).getD (st' l) else st') l=st' l:=by split <;>simp [he]
      rw [h1,h2,hst]
    | some x=>
      have h0:=h 0 e rfl (by rw [he];simp)
      rw [Nat.add_zero] at h0
      rw [h0]
      split
      · simp [he]
      · exact hst
theorem gT {S:Nat→Bool} {l:Nat} (es:List (Nat→Option V)) (i:Nat) (st:Nat→V) (h:∀ j e,es[j]? =some e→e l≠none→S (i+j)=false):gN S es i st l=st l:=by
  have:=fa (S:=S) (S':=fun _=>false) es i st st h rfl
  rw [this]
  clear this h
  induction es generalizing i st with
  | nil=>rfl
  | cons e es ih=>exact ih (i+1) st
theorem iZ {S S':Nat→Bool} {l k:Nat} (hSk:S k=false) (hS':∀ j,S' j=(decide (j=k)||S j)):∀ (es:List (Nat→Option V)) (i:Nat) (st:Nat→V) (e:Nat→Option V),i≤k→es[k-i]? =some e→
    (∀ j e',es[j]? =some e'→k<i+j→e' l≠none→e l≠none→S (i+j)=false)→gN S' es i st l=(e l).getD (gN S es i st l)
  | [],i,st,e,_,h,_=>by simp at h
  | e0::es,i,st,e,hi,h,hn=>by
    by_cases hik:i=k
    · subst hik
      rw [Nat.sub_self] at h
      cases h
      have h1:S' i=true:=by rw [hS'];simp
      simp only [gN,h1,hSk,if_true]
      simp only [Bool.false_eq_true,if_false]
      cases he:e0 l with
      | none=>
        rw [Option.getD_none]
        refine fa es (i+1) _ _ (fun j e' hj hl=> ?_) (by simp [he])
        rw [hS',decide_eq_false (by omega)]
        rfl
      | some x=>
        rw [Option.getD_some]
        rw [gT es (i+1) _ (fun j e' hj hl=> ?_)]
        · simp [he]
        · rw [hS',decide_eq_false (by omega),Bool.false_or]
          have:=hn (j+1) e' (by simpa using hj) (by omega) hl (by rw [he];simp)
          rwa [show i+(j+1)=i+1+j from by omega] at this
    · have h1:S' i=S i:=by rw [hS',decide_eq_false hik];rfl
      simp only [gN,h1]
      have hkk:(e0::es)[k-i]? =es[k-(i+1)]? :=by
        rw [show k-i=(k-(i+1))+1 from by omega]
        rfl
      rw [hkk] at h
      exact iZ hSk hS' es (i+1) _ e (by omega) h (fun j e' hj hlt h2 h3=>by
        have:=hn (j+1) e' (by simpa using hj) (by omega) h2 h3
        rwa [show i+(j+1)=i+1+j from by omega] at this)
theorem jp (es:List (Nat→Option V)) (T:Nat→Nat→V) (hT:∀ i e,es[i]? =some e→∀ l,T (i+1) l=(e l).getD (T i l)) (l:Nat):∀ k,k≤es.length→gN (fun j=>decide (j<k)) es 0 (T 0) l=T k l
  | 0,_=>gT es 0 _ fun j e _ _=>by simp
  | k+1,h=>by
    have hk:es[k]? =some es[k] :=List.getElem?_eq_getElem (by omega)
    rw [iZ (S:=fun j=>decide (j<k)) (k:=k) (by simp) (fun j=>by
      by_cases h1:j=k
      · simp [h1]
      · by_cases h2:j<k
        · simp [h2];omega
        · simp [h1,h2];omega) es 0 (T 0) es[k] (by omega) (by simp) (fun j e' _ h1 _ _=>by simp;omega)]
    rw [jp es T hT l k (by omega),hT k es[k] hk]
end
def kr (ops:Array Oper) (S:Nat→Bool):Prop:=∀ j o,S j=true→ops[j]? =some o→∀ e∈o.after,Region.binds .any e=true→S e.on=true
theorem DL {ops:Array Oper} {S:Nat→Bool} (hS:kr ops S):∀ (l:List Oper) (m:List Nat),ops.toList.drop m.length=l→(∀ j i,(m.getD j 0).testBit i=true→S j=true→S i=true)→
    ∀ j i,((Kj l m).getD j 0).testBit i=true→S j=true→S i=true
  | [],m,_,h=>h
  | o::rest,m,hl,h=>by
    refine DL hS rest _ ?_ ?_
    · rw [List.length_append,List.length_singleton,← List.drop_drop,hl];rfl
    · intro j i hb hj
      rcases Nat.lt_trichotomy j m.length with hlt | heq | hgt
      · refine h j i ?_ hj
        rwa [List.getD_eq_getElem?_getD,List.getElem?_append_left hlt,← List.getD_eq_getElem?_getD] at hb
      · subst heq
        rw [List.getD_eq_getElem?_getD,List.getElem?_append_right (Nat.le_refl _),Nat.sub_self] at hb
        simp only [List.getElem?_cons_zero,Option.getD_some] at hb
        have ho:ops[m.length]? =some o:=by
          have:(ops.toList.drop m.length)[0]? =some o:=by rw [hl];rfl
          simpa using this
        have key:∀ (es:List Edge) (acc:Nat),(∀ e∈es,e∈o.after)→(acc.testBit i=true→S i=true)→(es.foldl (fun acc e=>if Region.binds .any e then acc |||(1 <<< e.on) |||m.getD e.on 0 else acc) acc).testBit i=true→S i=true:=by
          intro es
          induction es with
          | nil=>exact fun acc _ ha hb=>ha hb
          | cons e es ih=>
            intro acc he ha hb
            refine ih _ (fun e' h'=>he e' (by simp [h'])) ?_ hb
            intro hb'
            dsimp only at hb'
            by_cases hbind:Region.binds .any e=true
            · rw [if_pos hbind,Nat.testBit_or,Nat.testBit_or,Bool.or_eq_true,Bool.or_eq_true] at hb'
              have hon:=hS _ o hj ho e (he e (by simp)) hbind
              rcases hb' with (h1 | h1) | h1
              · exact ha h1
              · rw [Nat.one_shiftLeft,Nat.testBit_two_pow] at h1
                have:e.on=i:=by simpa using h1
                rwa [this] at hon
              · exact h _ _ h1 hon
            · rw [if_neg hbind] at hb'
              exact ha hb'
        exact key _ 0 (fun e he=>by simpa using he) (fun h0=>by simp at h0) hb
      · rw [List.getD_eq_getElem?_getD,List.getElem?_eq_none (by simp;omega)] at hb
        simp at hb
end Go.Avc
namespace Go.Avc
set_option linter.unusedVariables false
set_option linter.unusedSimpArgs false
section
variable {C:Ctx} {E B:Ent}
def st (s:AS) (es:List Eff) (i:Nat):AS:=(es.take i).foldl AS.app s
theorem nf (s:AS) (es:List Eff):st s es 0=s:=rfl
theorem qp (s:AS) (es:List Eff) (i:Nat) (e:Eff) (h:es[i]? =some e):st s es (i+1)=(st s es i).app e:=by
  unfold st
  rw [List.take_add_one,h]
  simp
theorem ur (hC:C.Ok) {all:Array Oper} {K:AS→List (List Nat×List Nat)→Prop} :∀ (l:List Oper) (s:AS) (ks:List (List Nat×List Nat)),kv C all l s ks K→
    ∃ es:List Eff,es.length=l.length∧(∀ i o e,l[i]? =some o→es[i]? =some e→EffOk C all o (st s es i) e)∧K (st s es es.length) (ks++es.map Eff.key)
  | [],s,ks,h=>⟨[],rfl,fun i o e ho=>by simp at ho,by
    have h':K s ks:=h
    simpa [st] using h'⟩
  | o::l,s,ks,h=>by
    have h':cB all o s
        (gh C o (lp C.glob s o.op) s (fun e=>kv C all l (s.app e) (ks++ [e.key]) K) (fk C.P C.zero (s.ev C.glob) (ba (lp C.glob s o.op) 0 s.hp) o.op))
        ((fun e=>kv C all l (s.app e) (ks++ [e.key]) K) ⟨o.dst,.undef,[],[],s.hp.length,[]⟩):=by
      have e1:kv C all l (s.app ⟨o.dst,.undef,[],[],s.hp.length,[]⟩) (ks++ [Eff.key ⟨o.dst,.undef,[],[],s.hp.length,[]⟩]) K=kv C all l (s.put o.dst .undef) (ks++ [([],[])]) K:=by
        simp [AS.app,bc,Eff.key,gv]
      show cB all o s _ (kv C all l (s.app ⟨o.dst,.undef,[],[],s.hp.length,[]⟩) (ks++ [Eff.key ⟨o.dst,.undef,[],[],s.hp.length,[]⟩]) K)
      rw [e1]
      exact oJ h
    obtain ⟨e,he,hk⟩:=UR hC h'
    obtain ⟨es,h1,h2,h3⟩:=ur hC l _ _ hk
    refine ⟨e::es,by simp [h1],fun i o' e' ho he'=> ?_,?_⟩
    · cases i with
      | zero=>
        simp only [List.getElem?_cons_zero,Option.some.injEq] at ho he'
        subst ho he'
        exact he
      | succ i=>exact h2 i o' e' (by simpa using ho) (by simpa using he')
    · have:ks++(e::es).map Eff.key=ks++ [e.key] ++es.map Eff.key:=by simp
      rw [this]
      exact h3
theorem Rel.congr {s s':AS} {Im:Nat→Prop} {ι:Nat→Option Value} {a:Act} {w:World} (h:Rel C E s Im ι a w) (hl:s'.tm.length=s.tm.length) (ht:∀ t,aD s'.tm t=aD s.tm t) (hh:∀ b,s'.hp.getD b .none=s.hp.getD b .none):Rel C E s' Im ι a w:=
  ⟨h.defers,h.size.trans hl.symm,fun t=>by rw [ht];exact h.tm t,h.mem.congr hh⟩
theorem vk {n:Nat} {f:Nat→SV} {t:Nat} :aD ((List.range n).map f) t=if t<n then f t else .dead:=by
  have key:∀ (l:List SV) (t:Nat),aD l t=l[t]?.getD .dead:=by
    intro l
    induction l with
    | nil=>intro t;rfl
    | cons x l ih=>intro t;cases t with
      | zero=>rfl
      | succ t=>simpa [aD] using ih t
  rw [key,List.getElem?_map]
  by_cases h:t<n
  · rw [List.getElem?_range h,if_pos h];rfl
  · rw [List.getElem?_eq_none (by simpa using h),if_neg h];rfl
theorem nz {n:Nat} {f:Nat→Blk} {b:Nat} :((List.range n).map f).getD b .none=if b<n then f b else .none:=by
  rw [List.getD_eq_getElem?_getD,List.getElem?_map]
  by_cases h:b<n
  · rw [List.getElem?_range h,if_pos h];rfl
  · rw [List.getElem?_eq_none (by simpa using h),if_neg h];rfl
theorem oQ:∀ (l:List Blk) (n b:Nat),n≤b→b<n+l.length→b∈gv n l
  | [],n,b,h1,h2=>by simp at h2;omega
  | x::l,n,b,h1,h2=>by
    simp only [gv,List.mem_cons]
    by_cases h:b=n
    · exact .inl h
    · exact .inr (oQ l (n+1) b (by omega) (by simp at h2;omega))
theorem A6:∀ (l:List (Nat×Blk)) (b:Nat),cb l b≠none→b∈l.map (·.1)
  | [],b,h=>absurd rfl h
  | (c,x)::l,b,h=>by
    simp only [cb] at h
    cases hu:cb l b with
    | some y=>exact List.mem_cons_of_mem _ (A6 l b (by rw [hu];simp))
    | none=>
      rw [hu] at h
      by_cases hc:c=b
      · subst hc;simp
      · simp [hc] at h
theorem uT {e:Eff} {b:Nat} (h:e.hpW b≠none):b∈e.key.2:=by
  unfold Eff.hpW at h
  unfold Eff.key
  split at h
  · rename_i hb
    refine List.mem_append_right _ (oQ _ _ _ hb ?_)
    rcases Nat.lt_or_ge b (e.base+e.news.length) with h' | h'
    · exact h'
    · exact absurd (List.getElem?_eq_none (by omega)) h
  · exact List.mem_append_left _ (A6 _ _ h)
theorem vH {e:Eff} {n t:Nat} (h:e.tmW n t≠none):e.dst=some t:=by
  unfold Eff.tmW at h
  split at h
  · assumption
  · exact absurd rfl h
structure Draw (C:Ctx) (ops:Array Oper) (s:AS) (es:List Eff):Prop where
  len:es.length=ops.size
  ok:∀ i o e,ops[i]? =some o→es[i]? =some e→EffOk C ops o (st s es i) e
  conf:ed ops (es.map Eff.key)=true
section
variable {ops:Array Oper} {s:AS} {es:List Eff}
theorem Draw.ord (d:Draw C ops s es) {S:Nat→Bool} (hS:kr ops S) {i j:Nat} {oi oj:Oper} {ei ej:Eff} (hij:i<j) (h1:ops[i]? =some oi) (h2:ops[j]? =some oj) (h3:es[i]? =some ei) (h4:es[j]? =some ej)
    (hc:fL ops oi oj ei.key ej.key=true) (hj:S j=true):S i=true:=by
  have hconf:=d.conf
  unfold ed uY at hconf
  rw [Bool.and_eq_true,List.all_eq_true] at hconf
  have hjn:j<ops.size:=(Array.getElem?_eq_some_iff.1 h2).1
  have h5:=hconf.2 j (List.mem_range.2 hjn)
  rw [List.all_eq_true] at h5
  have h6:=h5 i (List.mem_range.2 hij)
  simp only [h1,h2,List.getElem?_map,h3,h4,Option.map_some,hc,Bool.not_true,Bool.false_or] at h6
  exact DL hS ops.toList [] rfl (fun j i hb=>by simp at hb) j i h6 hj
theorem Draw.down (d:Draw C ops s es) {j:Nat} {o:Oper} (h:ops[j]? =some o) {e:Edge} (he:e∈o.after) (hb:Region.binds .any e=true):e.on<j:=by
  have hconf:=d.conf
  unfold ed wF at hconf
  rw [Bool.and_eq_true,List.all_eq_true] at hconf
  have h5:=hconf.1 j (List.mem_range.2 (Array.getElem?_eq_some_iff.1 h).1)
  simp only [h] at h5
  rw [List.all_eq_true] at h5
  have h6:=h5 e (by simpa using he)
  rw [hb] at h6
  simpa using h6
theorem Draw.eff (d:Draw C ops s es) {i:Nat} {o:Oper} (h:ops[i]? =some o):∃ e,es[i]? =some e∧EffOk C ops o (st s es i) e:=by
  have hlt:i<es.length:=by rw [d.len];exact (Array.getElem?_eq_some_iff.1 h).1
  exact ⟨es[i],List.getElem?_eq_getElem hlt,d.ok i o _ h (List.getElem?_eq_getElem hlt)⟩
theorem Draw.op (d:Draw C ops s es) {i:Nat} {e:Eff} (h:es[i]? =some e):∃ o,ops[i]? =some o∧EffOk C ops o (st s es i) e:=by
  have hlt:i<ops.size:=by rw [← d.len];exact (List.getElem?_eq_some_iff.1 h).1
  exact ⟨ops[i],Array.getElem?_eq_getElem hlt,d.ok i _ e (Array.getElem?_eq_getElem hlt) h⟩
theorem wO (s:AS) (e:Eff):(s.app e).tm.length=s.tm.length:=by
  unfold AS.app AS.put
  split <;>simp [dP]
theorem H7 (s:AS) (e:Eff):(s.app e).hp=bc s.hp e.upd++e.news:=by
  unfold AS.app AS.put
  split <;>rfl
theorem AJ (tm:List SV) (hp:List Blk) (e:Eff) (t:Nat):aD ((⟨tm,hp⟩:AS).put e.dst e.sv).tm t=(e.tmW tm.length t).getD (aD tm t):=by
  unfold AS.put Eff.tmW
  cases hd:e.dst with
  | none=>simp
  | some d=>
    simp only [Option.some.injEq]
    by_cases h:d=t
    · subst h
      rw [if_pos rfl]
      by_cases hl:d<tm.length
      · rw [if_pos hl,fu _ _ _ hl];rfl
      · rw [if_neg hl,jL (hH tm d e.sv) d (by rw [dP];exact Nat.le_of_not_lt hl),jL tm d (Nat.le_of_not_lt hl)];rfl
    · rw [if_neg h,cQ _ _ _ _ h];rfl
theorem gC (s:AS) (es:List Eff):∀ i,(st s es i).tm.length=s.tm.length
  | 0=>rfl
  | i+1=>by
    cases h:es[i]? with
    | none=>
      have:st s es (i+1)=st s es i:=by
        unfold st
        rw [List.take_add_one,h];simp
      rw [this];exact gC s es i
    | some e=>rw [qp s es i e h,wO];exact gC s es i
theorem Draw.tmT (d:Draw C ops s es) (i:Nat) (f:Nat→Option SV) (h:(es.map fun e=>e.tmW s.tm.length)[i]? =some f) (t:Nat):aD (st s es (i+1)).tm t=(f t).getD (aD (st s es i).tm t):=by
  rw [List.getElem?_map] at h
  cases he:es[i]? with
  | none=>rw [he] at h;cases h
  | some e=>
    rw [he] at h
    cases h
    rw [qp s es i e he]
    have:=AJ (st s es i).tm (bc (st s es i).hp e.upd++e.news) e t
    rw [gC] at this
    exact this
theorem Draw.hpT (d:Draw C ops s es) (i:Nat) (f:Nat→Option Blk) (h:(es.map Eff.hpW)[i]? =some f) (b:Nat):(st s es (i+1)).hp.getD b .none=(f b).getD ((st s es i).hp.getD b .none):=by
  rw [List.getElem?_map] at h
  cases he:es[i]? with
  | none=>rw [he] at h;cases h
  | some e=>
    rw [he] at h
    cases h
    obtain ⟨o,_,ho⟩:=d.op he
    rw [qp s es i e he,H7,jC]
    unfold Eff.hpW
    rw [ho.base]
theorem Draw.lenS (d:Draw C ops s es) {i:Nat} {e:Eff} (he:es[i]? =some e):(st s es (i+1)).hp.length=(st s es i).hp.length+e.news.length∧e.base=(st s es i).hp.length:=by
  obtain ⟨o,_,ho⟩:=d.op he
  exact ⟨by rw [qp s es i e he,H7,List.length_append,eH],ho.base⟩
theorem Draw.lenM (d:Draw C ops s es):∀ (j i:Nat),i≤j→j≤es.length→(st s es i).hp.length≤(st s es j).hp.length
  | 0,i,h,_=>by rw [Nat.le_zero.1 h];exact Nat.le_refl _
  | j+1,i,h,hj=>by
    by_cases he:i=j+1
    · rw [he];exact Nat.le_refl _
    · have h1:=d.lenM j i (by omega) (by omega)
      have h2:=(d.lenS (List.getElem?_eq_getElem (show j<es.length from hj))).1
      omega
def tmS (s:AS) (es:List Eff) (S:Nat→Bool):List SV:=(List.range s.tm.length).map (gN S (es.map fun e=>e.tmW s.tm.length) 0 (aD s.tm))
def hpS (s:AS) (es:List Eff) (S:Nat→Bool):List Blk:=(List.range (st s es es.length).hp.length).map (gN S (es.map Eff.hpW) 0 (fun b=>s.hp.getD b .none))
theorem mU (S:Nat→Bool) (t:Nat):aD (tmS s es S) t=gN S (es.map fun e=>e.tmW s.tm.length) 0 (aD s.tm) t:=by
  unfold tmS
  rw [vk]
  split
  · rfl
  · rename_i h
    rw [gT _ _ _ fun j e hj hl=> ?_,jL _ _ (by omega)]
    rw [List.getElem?_map] at hj
    cases he:es[j]? with
    | none=>rw [he] at hj;cases hj
    | some e'=>
      rw [he] at hj
      cases hj
      refine absurd ?_ hl
      show Eff.tmW e' _ t=none
      unfold Eff.tmW
      rw [if_neg h]
      split <;>rfl
theorem Draw.hpS_get (d:Draw C ops s es) (S:Nat→Bool) (b:Nat):(hpS s es S).getD b .none=gN S (es.map Eff.hpW) 0 (fun b=>s.hp.getD b .none) b:=by
  unfold hpS
  rw [nz]
  split
  · rfl
  · rename_i h
    have h0:s.hp.length≤b:=by
      have:=d.lenM es.length 0 (Nat.zero_le _) (Nat.le_refl _)
      rw [nf] at this
      omega
    rw [gT _ _ _ fun j e hj hl=> ?_,List.getD_eq_getElem?_getD,List.getElem?_eq_none h0];rfl
    rw [List.getElem?_map] at hj
    cases he:es[j]? with
    | none=>rw [he] at hj;cases hj
    | some e'=>
      rw [he] at hj
      cases hj
      refine absurd ?_ hl
      obtain ⟨h1,h2⟩:=d.lenS he
      have h3:=d.lenM es.length (j+1) (List.getElem?_eq_some_iff.1 he).1 (Nat.le_refl _)
      unfold Eff.hpW
      rw [if_pos (by omega)]
      exact List.getElem?_eq_none (by omega)
end
end
end Go.Avc
namespace Go.Avc
set_option linter.unusedVariables false
set_option linter.unusedSimpArgs false
section
variable {C:Ctx} {E B:Ent} {ops:Array Oper} {s:AS} {es:List Eff}
structure DInv (C:Ctx) (E B:Ent) (s:AS) (es:List Eff) (S:Nat→Bool) (a:Act) (w:World) (Im:Nat→Prop) (ι:Nat→Option Value):Prop where
  rel:Rel C E ⟨tmS s es S,hpS s es S⟩ Im ι a w
  fresh:∀ j e,es[j]? =some e→S j=false→∀ b,e.base≤b→b<e.base+e.news.length→ι b=none
  past:∀ b,(st s es es.length).hp.length≤b→ι b=none
  later:Aft B s.hp.length Im ι w
def pu (listed:Array Bool) (j:Nat):Bool:=listed.getD j false
theorem NW {listed:Array Bool} {i:Nat} (hi:i<listed.size) (j:Nat):pu (listed.setIfInBounds i true) j=(decide (j=i)||pu listed j):=by
  unfold pu
  by_cases h:j=i
  · subst h
    simp [hi]
  · rw [getD_set_ne _ (Ne.symm h)]
    simp [h]
theorem je {listed:Array Bool} {j:Nat} (h:j<listed.size):listed.getD j true=listed.getD j false:=by
  simp [h]
def gG (n:Nat) (S:Nat→Bool):Nat:=((List.range n).filter fun j=> !S j).length
theorem oU {S S':Nat→Bool} {i:Nat} (hS:∀ j,S' j=(decide (j=i)||S j)) (h0:S i=false):∀ n,i<n→gG n S'<gG n S
  | 0,h=>by omega
  | n+1,h=>by
    have hsplit:∀ (T:Nat→Bool) (n:Nat),gG (n+1) T=gG n T+(if T n then 0 else 1):=fun T n=>by
      unfold gG
      rw [List.range_succ,List.filter_append,List.length_append]
      cases hT:T n <;>simp [hT]
    have hsub:∀ m,gG m S'≤gG m S:=fun m=>by
      induction m with
      | zero=>exact Nat.le_refl _
      | succ m ih=>
        rw [hsplit,hsplit,hS]
        by_cases hm:m=i
        · subst hm;simp [h0];omega
        · simp [hm];omega
    rw [hsplit,hsplit]
    by_cases hin:i=n
    · subst hin
      have h1:S' i=true:=by rw [hS];simp
      rw [h1,h0]
      have:=hsub i
      simp;omega
    · have h1:S' n=S n:=by rw [hS,decide_eq_false (Ne.symm hin)];rfl
      rw [h1]
      have:=oU hS h0 n (by omega)
      omega
theorem Cf {S:Nat→Bool} {n:Nat} (h:gG n S=0):∀ j,j<n→S j=true:=fun j hj=>by
  unfold gG at h
  rw [List.length_eq_zero_iff,List.filter_eq_nil_iff] at h
  have:=h j (List.mem_range.2 hj)
  simpa using this
theorem Draw.sched (d:Draw C ops s es) {S:Nat→Bool} {i:Nat} {o:Oper} {e:Eff} (ho:ops[i]? =some o) (he:es[i]? =some e) (hS:kr ops S) (hi:S i=false) (hr:∀ x∈o.after,Region.binds .any x=true→S x.on=true) {a:Act} {w:World} {Im:Nat→Prop} {ι:Nat→Option Value} (I:DInv C E B s es S a w Im ι):
    Sched C ops o (st s es i) e.acc E (tmS s es S) (hpS s es S) Im ι a w:=by
  have hS':kr ops (fun j=>decide (j=i)||S j):=fun j o' hj ho' x hx hb=>by
    simp only [Bool.or_eq_true,decide_eq_true_eq] at hj ⊢
    by_cases hji:j=i
    · subst hji
      rw [ho] at ho'
      cases ho'
      exact .inr (hr x hx hb)
    · exact .inr (hS j o' (hj.resolve_left hji) ho' x hx hb)
  have hbef:∀ j oj ej,ops[j]? =some oj→es[j]? =some ej→(j<i→fL ops oj o ej.key e.key=true)→(i<j→fL ops o oj e.key ej.key=true)→S j=decide (j<i):=fun j oj ej h1 h2 h3 h4=>by
    rcases Nat.lt_trichotomy j i with h | h | h
    · have:=d.ord hS' h h1 ho h2 he (h3 h) (by simp)
      simp only [Bool.or_eq_true,decide_eq_true_eq] at this
      rw [this.resolve_left (by omega)]
      simp [h]
    · subst h
      rw [hi];simp
    · rw [decide_eq_false (by omega)]
      cases hSj:S j with
      | false=>rfl
      | true=>
        have:=d.ord hS h ho h1 he h2 (h4 h) hSj
        rw [hi] at this;cases this
  have hil:i≤es.length:=Nat.le_of_lt (List.getElem?_eq_some_iff.1 he).1
  refine ⟨I.rel,?_,fun t ht=> ?_,fun b hb=> ?_⟩
  · rw [gC];simp [tmS]
  · have e1:=jp (es.map fun e=>e.tmW s.tm.length) (fun i t=>aD (st s es i).tm t) (fun i f h l=>d.tmT i f h l) t i (by simpa using hil)
    rw [mU]
    refine Eq.trans (fa _ _ _ _ (fun j f hj hl=> ?_) rfl) e1
    rw [List.getElem?_map] at hj
    cases hej:es[j]? with
    | none=>rw [hej] at hj;cases hj
    | some ej=>
      rw [hej] at hj
      cases hj
      obtain ⟨oj,hoj,hok⟩:=d.op hej
      have hd:=vH hl
      rw [hok.dst] at hd
      rw [Nat.zero_add]
      refine hbef j oj ej hoj hej (fun _=> ?_) (fun _=> ?_)
      · unfold fL
        rw [hd]
        simp [ht]
      · unfold fL
        rw [hd]
        simp [ht]
  · have e1:=jp (es.map Eff.hpW) (fun i b=>(st s es i).hp.getD b .none) (fun i f h l=>d.hpT i f h l) b i (by simpa using hil)
    rw [d.hpS_get]
    refine Eq.trans (fa _ _ _ _ (fun j f hj hl=> ?_) rfl) e1
    rw [List.getElem?_map] at hj
    cases hej:es[j]? with
    | none=>rw [hej] at hj;cases hj
    | some ej=>
      rw [hej] at hj
      cases hj
      obtain ⟨oj,hoj,hok⟩:=d.op hej
      have hk:=uT hl
      rw [Nat.zero_add]
      have hb':b∈e.key.1:=by simpa [Eff.key] using hb
      refine hbef j oj ej hoj hej (fun _=> ?_) (fun _=> ?_)
      · unfold fL
        have:ej.key.2.any (fun b=>e.key.1.contains b||e.key.2.contains b)=true:=List.any_eq_true.2 ⟨b,hk,by simp [hb']⟩
        rw [this];simp
      · unfold fL
        have:ej.key.2.any (fun b=>e.key.1.contains b)=true:=List.any_eq_true.2 ⟨b,hk,by simp [hb']⟩
        rw [this];simp
theorem Draw.step (hC:C.Ok) (d:Draw C ops s es) {S S':Nat→Bool} {i:Nat} {o:Oper} (ho:ops[i]? =some o) (hS:kr ops S) (hS'c:kr ops S') (hi:S i=false) (hS':∀ j,S' j=(decide (j=i)||S j)) (hr:∀ x∈o.after,Region.binds .any x=true→S x.on=true) {a:Act} {w:World} {Im:Nat→Prop} {ι:Nat→Option Value} (I:DInv C E B s es S a w Im ι)
    {next:Act→World→Prop} {Q:Exit→Act→World→Prop} (hK:∀ a' w' Im' ι',DInv C E B s es S' a' w' Im' ι'→next a' w'):wpOp C.P ops Q i next a w:=by
  obtain ⟨e,he,hok⟩:=d.eff ho
  have hsch:=d.sched ho he hS hi hr I
  have hfresh:∀ b,e.base≤b→b<e.base+e.news.length→ι b=none:=I.fresh i e he hi
  have hww:∀ j oj ej,ops[j]? =some oj→es[j]? =some ej→i<j→fL ops o oj e.key ej.key=true→S j=false:=fun j oj ej h1 h2 h3 h4=>by
    cases hSj:S j with
    | false=>rfl
    | true=>
      have:=d.ord hS h3 ho h1 he h2 h4 hSj
      rw [hi] at this;cases this
  have htm:∀ t,aD (tmS s es S') t=(e.tmW s.tm.length t).getD (aD (tmS s es S) t):=fun t=>by
    rw [mU,mU]
    refine iZ (k:=i) hi hS' _ 0 _ (e.tmW s.tm.length) (Nat.zero_le _) (by rw [List.getElem?_map,Nat.sub_zero,he];rfl) fun j f hj hlt h1 h2=> ?_
    rw [Nat.zero_add] at hlt ⊢
    rw [List.getElem?_map] at hj
    cases hej:es[j]? with
    | none=>rw [hej] at hj;cases hj
    | some ej=>
      rw [hej] at hj
      cases hj
      obtain ⟨oj,hoj,hokj⟩:=d.op hej
      have hd:=vH h1
      have hd':=vH h2
      rw [hokj.dst] at hd
      rw [hok.dst] at hd'
      refine hww j oj ej hoj hej hlt ?_
      unfold fL
      rw [hd,hd']
      simp
  have hhp:∀ b,(hpS s es S').getD b .none=(e.hpW b).getD ((hpS s es S).getD b .none):=fun b=>by
    rw [d.hpS_get,d.hpS_get]
    refine iZ (k:=i) hi hS' _ 0 _ e.hpW (Nat.zero_le _) (by rw [List.getElem?_map,Nat.sub_zero,he];rfl) fun j f hj hlt h1 h2=> ?_
    rw [Nat.zero_add] at hlt ⊢
    rw [List.getElem?_map] at hj
    cases hej:es[j]? with
    | none=>rw [hej] at hj;cases hj
    | some ej=>
      rw [hej] at hj
      cases hj
      obtain ⟨oj,hoj,hokj⟩:=d.op hej
      refine hww j oj ej hoj hej hlt ?_
      unfold fL
      have:e.key.2.any (fun b=>ej.key.1.contains b||ej.key.2.contains b)=true:=List.any_eq_true.2 ⟨b,uT h2,by simp [uT h1]⟩
      rw [this];simp
  have hdoes:=hok.does E Im ι w a _ _ hsch hfresh (hpS s es S') hhp next Q fun a' w' Im' ι' hrel hι hl=>hK a' w' Im' ι' ⟨?_,?_,?_,I.later.step hl (Nat.le_refl _) fun b hb=>hι b fun h=> ?_⟩
  · unfold wpOp
    rw [ho]
    rcases hdoes with ⟨h1,h2⟩ | ⟨h1,h2⟩
    · simp only [h1,if_true];exact .inl h2
    · simp only [h1,Bool.false_eq_true,if_false];exact h2
  · refine hrel.congr ?_ (fun t=> ?_) (fun b=> ?_)
    · unfold AS.put
      split <;>simp [dP,tmS]
    · rw [AJ,htm]
      simp [tmS]
    · unfold AS.put
      split <;>rfl
  · intro j ej hej hSj b h1 h2
    rw [hS',Bool.or_eq_false_iff,decide_eq_false_iff_not] at hSj
    have h3:=I.fresh j ej hej hSj.2 b h1 h2
    rw [hι b ?_]
    · exact h3
    · rintro ⟨h4,h5⟩
      obtain ⟨g1,g2⟩:=d.lenS he
      obtain ⟨g3,g4⟩:=d.lenS hej
      have k1:=(List.getElem?_eq_some_iff.1 he).1
      have k2:=(List.getElem?_eq_some_iff.1 hej).1
      rcases Nat.lt_or_gt_of_ne hSj.1 with h | h
      · have:=d.lenM i (j+1) h (by omega)
        omega
      · have:=d.lenM j (i+1) h (by omega)
        omega
  · intro b hb
    rw [hι b ?_]
    · exact I.past b hb
    · rintro ⟨h4,h5⟩
      obtain ⟨g1,g2⟩:=d.lenS he
      have:=d.lenM es.length (i+1) (List.getElem?_eq_some_iff.1 he).1 (Nat.le_refl _)
      omega
  · have g:=d.lenM i 0 (Nat.zero_le _) (Nat.le_of_lt (List.getElem?_eq_some_iff.1 he).1)
    have g2:=(d.lenS he).2
    rw [nf] at g
    omega
theorem Draw.any (hC:C.Ok) (d:Draw C ops s es) {Q:Exit→Act→World→Prop} (hQ:∀ a w,fF C E B (st s es es.length) a w→Q .normal a w):∀ (fuel:Nat) (listed:Array Bool) (a:Act) (w:World) (Im:Nat→Prop) (ι:Nat→Option Value),
    listed.size=ops.size→kr ops (pu listed)→gG ops.size (pu listed)≤fuel→DInv C E B s es (pu listed) a w Im ι→wpAny C.P .any ops Q fuel listed a w:=by
  have hall:∀ (S:Nat→Bool),(∀ j,j<ops.size→S j=true)→∀ a w Im ι,DInv C E B s es S a w Im ι→Q .normal a w:=fun S hS a w Im ι I=>by
    refine hQ a w ⟨Im,ι,I.rel.congr ?_ (fun t=> ?_) (fun b=> ?_),I.past,I.later.len (by have:=d.lenM es.length 0 (Nat.zero_le _) (Nat.le_refl _);rwa [nf] at this)⟩
    · rw [gC];simp [tmS]
    · rw [mU]
      have e1:=jp (es.map fun e=>e.tmW s.tm.length) (fun i t=>aD (st s es i).tm t) (fun i f h l=>d.tmT i f h l) t es.length (by simp)
      refine Eq.trans e1.symm (fa _ _ _ _ (fun j f hj hl=> ?_) rfl)
      have hlt:j<es.length:=by simpa using (List.getElem?_eq_some_iff.1 hj).1
      rw [Nat.zero_add,hS j (by rw [← d.len];exact hlt)]
      simp [hlt]
    · rw [d.hpS_get]
      have e1:=jp (es.map Eff.hpW) (fun i b=>(st s es i).hp.getD b .none) (fun i f h l=>d.hpT i f h l) b es.length (by simp)
      refine Eq.trans e1.symm (fa _ _ _ _ (fun j f hj hl=> ?_) rfl)
      have hlt:j<es.length:=by simpa using (List.getElem?_eq_some_iff.1 hj).1
      rw [Nat.zero_add,hS j (by rw [← d.len];exact hlt)]
      simp [hlt]
  intro fuel
  induction fuel with
  | zero=>
    intro listed a w Im ι hsz hcl hun I
    have hS:=Cf (Nat.le_zero.1 hun)
    refine ⟨?_,hall _ hS a w Im ι I⟩
    cases hr:Region.ready .any ops listed with
    | nil=>rfl
    | cons i l=>
      have hi:i∈Region.ready .any ops listed:=by rw [hr];simp
      obtain ⟨h1,o,ho,_⟩:=mem_ready.1 hi
      have hlt:=(Array.getElem?_eq_some_iff.1 ho).1
      rw [je (by omega)] at h1
      have:=hS i hlt
      unfold pu at this
      rw [h1] at this;cases this
  | succ fuel ih=>
    intro listed a w Im ι hsz hcl hun I
    refine ⟨fun hr=>hall _ (fun j hj=> ?_) a w Im ι I,fun i hi=> ?_⟩
    · induction j using Nat.strongRecOn with
      | _ j ihj=>
        cases hSj:pu listed j with
        | true=>rfl
        | false=>
          have ho:ops[j]? =some ops[j] :=Array.getElem?_eq_getElem hj
          have:j∈Region.ready .any ops listed:=mem_ready.2 ⟨by rw [je (by omega)];exact hSj,_,ho,fun e he hb=>by
            have hlt:=d.down ho he hb
            exact ihj e.on hlt (by omega)⟩
          rw [hr] at this
          cases this
    · obtain ⟨h1,o,ho,h2⟩:=mem_ready.1 hi
      have hlt:=(Array.getElem?_eq_some_iff.1 ho).1
      rw [je (by omega)] at h1
      have hS':=NW (listed:=listed) (i:=i) (by omega)
      have hcl':kr ops (pu (listed.setIfInBounds i true)):=fun j o' hj ho' x hx hb=>by
        rw [hS'] at hj ⊢
        simp only [Bool.or_eq_true,decide_eq_true_eq] at hj ⊢
        by_cases hji:j=i
        · subst hji
          rw [ho] at ho'
          cases ho'
          exact .inr (h2 x hx hb)
        · exact .inr (hcl j o' (hj.resolve_left hji) ho' x hx hb)
      refine d.step hC ho hcl hcl' h1 hS' h2 I fun a' w' Im' ι' I'=>ih _ a' w' Im' ι' (by simpa using hsz) hcl' ?_ I'
      have:=oU hS' h1 ops.size hlt
      omega
theorem Eo (hC:C.Ok) (hm:C.P.follows .mixedOrders=true) {id:Nat} {a:Act} {w:World} {K:AS→Prop} {Q:Exit→Act→World→Prop} (hQ:∀ s a w,K s→fF C E B s a w→Q .normal a w) (hR:fF C E B s a w) (h:Je C ops s K):
    (Code.region id ops true).wp C.P Q a w:=by
  obtain ⟨es,h1,h2,h3,h4⟩:=ur hC ops.toList s [] h
  have d:Draw C ops s es:=⟨by simpa using h1,fun i o e ho he=>h2 i o e (by simpa using ho) he,by simpa using h3⟩
  obtain ⟨Im,ι,hR,hF,hB⟩:=hR
  refine wp_region_any hm ?_
  have hl0:∀ j,pu (Array.replicate ops.size false) j=false:=fun j=>by
    unfold pu
    by_cases hj:j<ops.size
    · simp [hj]
    · simp [hj]
  have hg:w.grownBy {w with drawn:=w.drawn+1} none:=⟨rfl,rfl,rfl,Nat.le_refl _,fun _ _ _=>rfl⟩
  have hl:Later Im ι w Im ι {w with drawn:=w.drawn+1} :=dj hg hR.mem.mr.imlt (fun k h=>by cases h) (fun _ h=>h) (fun _ _ h=>h)
  have hlen0:=d.lenM es.length 0 (Nat.zero_le _) (Nat.le_refl _)
  rw [nf] at hlen0
  have hR':Rel C E s Im ι a {w with drawn:=w.drawn+1} :=by
    refine ⟨hR.defers,hR.size,fun t=>VRel.mono hl _ _ (hR.tm t),?_⟩
    exact (Mem.step s.hp.length hR.mem hg (fun k h=>by cases h) (fun _ h=>h) (fun _ h=> .inl h) (fun _ _ h=>h) (fun b hb=>⟨rfl,.inl rfl⟩) fun v hv=>by
      rw [hF _ (Nat.le_refl _)] at hv;cases hv).1
  refine d.any hC (fun a w r=>hQ _ a w h4 r) ops.size _ a _ Im ι (by simp) (fun j o hj=>by rw [hl0] at hj;cases hj) ?_ ⟨hR'.congr ?_ (fun t=> ?_) (fun b=> ?_),fun j e he _ b h5 h6=>hF b ?_,fun b hb=>hF b (by omega),hB.step hl (Nat.le_refl _) fun _ _=>rfl⟩
  · unfold gG
    refine Nat.le_trans (List.length_filter_le _ _) ?_
    simp
  · simp [tmS]
  · rw [mU,gT _ _ _ fun j f _ _=>hl0 _]
  · rw [d.hpS_get,gT _ _ _ fun j f _ _=>hl0 _]
  · obtain ⟨g1,g2⟩:=d.lenS he
    have:=d.lenM j 0 (Nat.zero_le _) (Nat.le_of_lt (List.getElem?_eq_some_iff.1 he).1)
    rw [nf] at this
    omega
end
end Go.Avc
namespace Go.Avc
set_option linter.unusedVariables false
set_option linter.unusedSimpArgs false
section
variable (C:Ctx)
end
section
variable {C:Ctx} {E B:Ent}
theorem V5 {p:Nat→Prop} :∀ n,p n→∃ m,p m∧∀ k,p k→m≤k:=by
  intro n
  induction n using Nat.strongRecOn with
  | _ n ih=>
    intro h
    by_cases hx:∃ k,k<n∧p k
    · obtain ⟨k,h1,h2⟩:=hx
      exact ih k h1 h2
    · exact ⟨n,h,fun k hk=>Nat.le_of_not_lt fun h'=>hx ⟨k,h',hk⟩⟩
open Classical in
noncomputable def qF (p:Nat→Prop):Nat:=if h:∃ m,p m∧∀ k,p k→m≤k then Classical.choose h else 0
theorem pm {p:Nat→Prop} {n:Nat} (h:p n):p (qF p)∧∀ k,p k→qF p≤k:=by
  have hx:=V5 n h
  unfold qF
  rw [dif_pos hx]
  exact Classical.choose_spec hx
end
end Go.Avc
namespace Go.Avc
set_option linter.unusedVariables false
set_option linter.unusedSimpArgs false
def mc (P:Program) (s:AS):ResultVar→Option SV
  | .tmp t=>some (aD s.tm t)
  | .cell a T=>(match aD s.tm a with
    | .ptr b c=>(match pC P s.hp T (.ptr b c) with | .val sv=>some sv | _=>none)
    | _=>none)
def ig (P:Program) (s:AS):List ResultVar→Option (List SV)
  | [] =>some []
  | r::rs=>(match mc P s r,ig P s rs with | some x,some xs=>some (x::xs) | _,_=>none)
def xY (P:Program) (s:AS) (rs:List ResultVar):Option SV:=
  match ig P s rs with | some [x] =>some x | some xs=>some (.tup xs) | none=>none
section
variable {C:Ctx} {E B:Ent} {Im:Nat→Prop} {ι:Nat→Option Value} {w:World}
theorem wR {P:Program} {x:Sem Value} {v:Value} {w':World} (h:(do let y ← x;pure (.value y):Sem Next).run P w= .ok (.value v) w'):x.run P w= .ok v w':=by
  simp only [Sem.run_bind] at h
  cases hx:x.run P w with
  | ok u w1=>rw [hx] at h;simpa [Result.andThen] using h
  | halt y w1=>rw [hx] at h;cases h
theorem Iz {s:AS} {a:Act} (hR:Rel C E s Im ι a w) {r:ResultVar} {sv:SV} (h:mc C.P s r=some sv):
    ∃ v,((match r with | .tmp t=>pure (a.tmps.getD t undef) | .cell p T=>do loadVar T (← asAddr (a.tmps.getD p undef)):Sem Value)).run C.P w= .ok v w∧VRel Im ι w sv v:=by
  cases r with
  | tmp t=>
    simp only [mc,Option.some.injEq] at h
    subst h
    exact ⟨_,rfl,hR.tm t⟩
  | cell p T=>
    simp only [mc] at h
    split at h
    · rename_i b c hp
      have hv:=hR.tm p
      rw [hp] at hv
      have hs:=tE (P:=C.P) (T:=T) hR.mem.hv hv
      split at h
      · rename_i sv' hl
        cases h
        rw [hl] at hs
        obtain ⟨v,h1,h2⟩:=hs
        obtain ⟨r,h3,h4⟩:=hv
        refine ⟨v,?_,h2⟩
        have:=wR h1
        rw [h4] at this
        show (do loadVar T (← asAddr (a.tmps.getD p undef)):Sem Value).run C.P w=_
        rw [h4]
        exact this
      · cases h
    · cases h
theorem sK {s:AS} {a:Act} (hR:Rel C E s Im ι a w):∀ {rs:List ResultVar} {svs:List SV},ig C.P s rs=some svs→
    ∃ vs,(rs.mapM (fun r=>(match r with | .tmp t=>pure (a.tmps.getD t undef) | .cell p T=>do loadVar T (← asAddr (a.tmps.getD p undef)):Sem Value))).run C.P w= .ok vs w∧VRels Im ι w svs vs
  | [],svs,h=>by
    simp only [ig,Option.some.injEq] at h
    subst h
    exact ⟨[],by simp,rfl⟩
  | r::rs,svs,h=>by
    simp only [ig] at h
    split at h
    · rename_i x xs h1 h2
      cases h
      obtain ⟨v,g1,g2⟩:=Iz hR h1
      obtain ⟨vs,g3,g4⟩:=sK hR h2
      refine ⟨v::vs,?_,v,vs,rfl,g2,g4⟩
      rw [List.mapM_cons]
      simp only [Sem.run_bind,g1,Result.andThen,g3]
      rfl
    · cases h
theorem v9 {s:AS} {a:Act} (hR:Rel C E s Im ι a w) {fn:Func} {sv:SV} (h:xY C.P s fn.results.toList=some sv):∃ v,(results fn a.tmps).run C.P w= .ok v w∧VRel Im ι w sv v:=by
  unfold xY at h
  cases hs:ig C.P s fn.results.toList with
  | none=>rw [hs] at h;cases h
  | some svs=>
    rw [hs] at h
    obtain ⟨vs,h1,h2⟩:=sK hR hs
    have h3:(results fn a.tmps).run C.P w= .ok (if h:vs.toArray.size=1 then vs.toArray[0] else .tuple vs.toArray) w:=by
      unfold results
      rw [Array.mapM_eq_mapM_toList]
      simp only [Sem.run_bind,map_eq_pure_bind]
      erw [h1]
      rfl
    refine ⟨_,h3,?_⟩
    match svs,h2,h with
    | [],h2,h=>
      cases (show vs= [] from h2)
      cases h
      exact ⟨[],rfl,rfl⟩
    | [x],h2,h=>
      obtain ⟨v,vs',rfl,h4,h5⟩:=h2
      cases (show vs'= [] from h5)
      cases h
      exact h4
    | x::y::l,h2,h=>
      obtain ⟨v,vs',rfl,h4,v',vs'',rfl,h6⟩:=h2
      cases h
      rw [dif_neg (by simp)]
      exact ⟨_,rfl,v,_,rfl,h4,v',_,rfl,h6⟩
theorem mH:∀ (l m:List SV) (t:Nat),aD (l++m) t=if t<l.length then aD l t else aD m (t-l.length)
  | [],m,t=>by simp
  | x::l,m,0=>by simp [aD]
  | x::l,m,t+1=>by
    simp only [List.cons_append,aD,mH l m t,List.length_cons,Nat.succ_lt_succ_iff,Nat.add_lt_add_iff_right,Nat.add_sub_add_right]
theorem nJ (n t:Nat) (x:SV):aD (List.replicate n x) t=if t<n then x else .dead:=by
  induction n generalizing t with
  | zero=>simp [aD]
  | succ n ih=>
    cases t with
    | zero=>simp [List.replicate,aD]
    | succ t=>simp [List.replicate,aD,ih]
theorem nS:∀ {svs:List SV} {vs:List Value},VRels Im ι w svs vs→∀ t,t<svs.length→∃ v,vs[t]? =some v∧VRel Im ι w (aD svs t) v
  | [],vs,h,t,ht=>by simp at ht
  | s::svs,vs,h,0,_=>by
    obtain ⟨v,vs',rfl,h1,h2⟩:=h
    exact ⟨v,rfl,h1⟩
  | s::svs,vs,h,t+1,ht=>by
    obtain ⟨v,vs',rfl,h1,h2⟩:=h
    simpa [aD] using nS h2 t (by simpa using ht)
theorem gi:∀ {svs:List SV} {vs:List Value},VRels Im ι w svs vs→vs.length=svs.length
  | [],vs,h=>by cases (show vs= [] from h);rfl
  | s::svs,vs,h=>by
    obtain ⟨v,vs',rfl,h1,h2⟩:=h
    simp [gi h2]
end
end Go.Avc
namespace Go.Avc
set_option linter.unusedVariables false
set_option linter.unusedSimpArgs false
mutual
def SV.ren (ρ:Nat→Nat):SV→SV
  | .agg cs=> .agg (renL ρ cs)
  | .ptr b c=> .ptr (ρ b) c
  | .aptr b c i=> .aptr (ρ b) c i
  | .own b=> .own (ρ b)
  | .win b c N lo n=> .win (ρ b) c N lo n
  | .optr b sz i c=> .optr (ρ b) sz i c
  | .ow b sz lo n=> .ow (ρ b) sz lo n
  | .fn f cs=> .fn f (renL ρ cs)
  | .fb f cs=> .fb f (renL ρ cs)
  | .tup cs=> .tup (renL ρ cs)
  | .sls cs=> .sls (renL ρ cs)
  | .iface t v=> .iface t (v.ren ρ)
  | s=>s
def renL (ρ:Nat→Nat):List SV→List SV
  | [] => []
  | s::cs=>s.ren ρ::renL ρ cs
end
def Blk.ren (ρ:Nat→Nat):Blk→Blk
  | .cells T cs=> .cells T (renL ρ cs)
  | b=>b
theorem BC (ρ:Nat→Nat):∀ cs:List SV,(renL ρ cs).length=cs.length
  | [] =>rfl
  | s::cs=>by simp [renL,BC ρ cs]
theorem oh (ρ:Nat→Nat) (b:Blk):aH (b.ren ρ)=aH b:=by cases b <;>rfl
section
variable {Im:Nat→Prop} {ι ι':Nat→Option Value} {w:World} {ρ:Nat→Nat}
mutual
theorem VRel.ren:∀ (s:SV) (v:Value),(∀ b∈s.hs,ι' (ρ b)=ι b)→(VRel Im ι' w (s.ren ρ) v↔VRel Im ι w s v)
  | .dead,v,h=>Iff.rfl
  | .int ..,v,h=>Iff.rfl
  | .bool _,v,h=>Iff.rfl
  | .str _,v,h=>Iff.rfl
  | .agg cs,v,h=>by
    have ih:=fun vs=>CellsRel.ren cs vs h
    simp only [SV.ren,VRel,ih]
  | .arrI ..,v,h=>Iff.rfl
  | .arrB ..,v,h=>Iff.rfl
  | .nilp,v,h=>Iff.rfl
  | .nilf,v,h=>Iff.rfl
  | .ptr b c,v,h=>by
    have:=h b (by simp [SV.hs,SV.h1])
    simp only [SV.ren,VRel,this]
  | .aptr b c i,v,h=>by
    have:=h b (by simp [SV.hs,SV.h1])
    simp only [SV.ren,VRel,this]
  | .rd e l,v,h=>Iff.rfl
  | .e0,v,h=>Iff.rfl
  | .nils,v,h=>Iff.rfl
  | .own b,v,h=>by
    have:=h b (by simp [SV.hs,SV.h1])
    simp only [SV.ren,VRel,this]
  | .win b c N lo n,v,h=>by
    have:=h b (by simp [SV.hs,SV.h1])
    simp only [SV.ren,VRel,this]
  | .eptr ..,v,h=>Iff.rfl
  | .optr b sz i c,v,h=>by
    have:=h b (by simp [SV.hs,SV.h1])
    simp only [SV.ren,VRel,this]
  | .ow b sz lo n,v,h=>by
    have:=h b (by simp [SV.hs,SV.h1])
    simp only [SV.ren,VRel,this]
  | .fn f cs,v,h=>by
    have ih:=fun vs=>VRels.ren cs vs h
    simp only [SV.ren,VRel,ih]
  | .fb f cs,v,h=>by
    have ih:=fun vs=>VRels.ren cs vs h
    simp only [SV.ren,VRel,ih]
  | .tup cs,v,h=>by
    have ih:=fun vs=>VRels.ren cs vs h
    simp only [SV.ren,VRel,ih]
  | .sls cs,v,h=>by
    have ih:=fun vs=>VRels.ren cs vs h
    simp only [SV.ren,VRel,ih,BC]
  | .nili,v,h=>Iff.rfl
  | .iface t s,v,h=>by
    have ih:=fun v=>VRel.ren s v h
    simp only [SV.ren,VRel,ih]
  | .val _,v,h=>Iff.rfl
theorem CellsRel.ren:∀ (cs:List SV) (vs:List Value),(∀ b∈hsL cs,ι' (ρ b)=ι b)→(CellsRel Im ι' w (renL ρ cs) vs↔CellsRel Im ι w cs vs)
  | [],vs,h=>Iff.rfl
  | s::cs,vs,h=>by
    have ih1:=fun v=>VRel.ren s v (fun b hb=>h b (by simp [hsL,hb]))
    have ih2:=fun vs=>CellsRel.ren cs vs (fun b hb=>h b (by simp [hsL,hb]))
    cases s with
    | arrI n k l=>
      simp only [renL,SV.ren,CellsRel]
      simp only [ih2]
    | arrB n l=>
      simp only [renL,SV.ren,CellsRel]
      simp only [ih2]
    | _=>
      simp only [SV.ren] at ih1
      simp only [renL,SV.ren,CellsRel]
      simp only [ih1,ih2]
theorem VRels.ren:∀ (cs:List SV) (vs:List Value),(∀ b∈hsL cs,ι' (ρ b)=ι b)→(VRels Im ι' w (renL ρ cs) vs↔VRels Im ι w cs vs)
  | [],vs,h=>Iff.rfl
  | s::cs,vs,h=>by
    have ih1:=fun v=>VRel.ren s v (fun b hb=>h b (by simp [hsL,hb]))
    have ih2:=fun vs=>VRels.ren cs vs (fun b hb=>h b (by simp [hsL,hb]))
    simp only [renL,VRels,ih1,ih2]
end
theorem BRel.ren {blk:Blk} {v:Value} (h:∀ b∈blk.hs,ι' (ρ b)=ι b):BRel Im ι' w (blk.ren ρ) v↔BRel Im ι w blk v:=by
  cases blk with
  | cells T cs=>
    have ih:=fun vs=>CellsRel.ren (Im:=Im) (w:=w) cs vs h
    simp only [Blk.ren,BRel,ih]
  | _=>exact Iff.rfl
end
end Go.Avc
namespace Go.Avc
set_option linter.unusedVariables false
set_option linter.unusedSimpArgs false
def RA (σ:List Nat) (n:Nat) (keep:List Nat) (i:Nat):Nat:=if i<σ.length then σ.getD i 0 else n+keep.idxOf i
structure Fit (σ:List Nat) (hp hp' hpl':List Blk) (sv:SV) (keep:List Nat):Prop where
  nodup:keep.Nodup
  past:∀ i∈keep,σ.length≤i
  len:hp'.length=hp.length+keep.length
  res:∀ b∈sv.hs,b<σ.length∨b∈keep
  old:∀ i,i<σ.length→hp'.getD (σ.getD i 0) .none= .none∨(hp'.getD (σ.getD i 0) .none=(hpl'.getD i .none).ren (RA σ hp.length keep)∧∀ b∈(hpl'.getD i .none).hs,b<σ.length∨b∈keep)
  new:∀ i,i∈keep→hp'.getD (hp.length+keep.idxOf i) .none=(hpl'.getD i .none).ren (RA σ hp.length keep)∧∀ b∈(hpl'.getD i .none).hs,b<σ.length∨b∈keep
  oth:∀ b,b<hp.length→b∉σ→hp'.getD b .none=hp.getD b .none
section
variable {C:Ctx}
end
end Go.Avc
namespace Go.Avc
set_option linter.unusedVariables false
set_option linter.unusedSimpArgs false
structure GE where
  t:Nat
  d:Nat
  want:Bool
  c:Bool
  sv:SV
structure ES where
  n:Nat
  ov:List (Nat×SV)
  tm:List SV
  hp:List Blk
  G:List GE
def lj:List (Nat×SV)→List SV→Nat→SV
  | [],tm,t=>aD tm t
  | (d,v)::ov,tm,t=>bif Nat.beq d t then v else lj ov tm t
def aM:List (Nat×SV)→List SV→List SV
  | [],tm=>tm
  | (d,v)::ov,tm=>hH (aM ov tm) d v
def ES.as (s:ES):AS:=⟨aM s.ov s.tm,s.hp⟩
def ES.ev (glob:Nat→Option SV) (s:ES):Operand→SV
  | .tmp t=>lj s.ov s.tm t
  | .const v=>nC v
  | .global g=>(glob g).getD .dead
  | .func f=> .fn f []
def bw:Bool→Bool→Bool
  | true,b=>b
  | false,b=> !b
def aP (tm:List SV) (d:Nat) (want:Bool):Bool:=match aD tm d with | .bool b=>bw want b | _=>false
def GInv (tm:List SV) (G:List GE):Prop:=∀ g∈G,g.c=aP tm g.d g.want∧aD tm g.t=bif g.c then g.sv else .undef
structure ES.Ok (s:ES):Prop where
  len:s.n=s.tm.length
  ov:∀ p∈s.ov,p.1<s.tm.length
  g:GInv s.as.tm s.G
  gt:∀ g∈s.G,g.t<s.tm.length
def bE (sv:SV) (K:SV→Prop):Prop:=
  match sv with
  | .dead=>K .dead
  | .int k n=>K (.int k n)
  | .bool b=>K (.bool b)
  | .str l=>K (.str l)
  | .agg cs=>K (.agg cs)
  | .arrI n k l=>K (.arrI n k l)
  | .arrB n l=>K (.arrB n l)
  | .nilp=>K .nilp
  | .nilf=>K .nilf
  | .ptr b c=>K (.ptr b c)
  | .aptr b c i=>K (.aptr b c i)
  | .rd e l=>K (.rd e l)
  | .e0=>K .e0
  | .nils=>K .nils
  | .own b=>K (.own b)
  | .win b c N lo n=>K (.win b c N lo n)
  | .eptr e l i c=>K (.eptr e l i c)
  | .optr b sz i c=>K (.optr b sz i c)
  | .ow b sz lo n=>K (.ow b sz lo n)
  | .fn f caps=>K (.fn f caps)
  | .fb f caps=>K (.fb f caps)
  | .tup vs=>K (.tup vs)
  | .sls vs=>K (.sls vs)
  | .nili=>K .nili
  | .iface t v=>K (.iface t v)
  | .val v=>K (.val v)
theorem aS (sv:SV) (K:SV→Prop):bE sv K=K sv:=by cases sv <;>rfl
def uq:List GE→Nat→Bool
  | [],_=>true
  | g::G,d=> !Nat.beq g.t d&&(!Nat.beq g.d d&&uq G d)
def nP:List GE→Nat→List GE
  | [],_=> []
  | g::G,d=>bif Nat.beq g.t d||Nat.beq g.d d then nP G d else g::nP G d
def bT (s:ES) (dst:Option Tmp) (sv:SV) (K:ES→Prop):Prop:=
  match dst,s with
  | none,s=>K s
  | some d,⟨n,ov,tm,hp,G⟩=>bif Nat.blt d n then (bif uq G d then K ⟨n,(d,sv)::ov,tm,hp,G⟩ else K ⟨n,(d,sv)::ov,tm,hp,nP G d⟩) else False
def jS (s:ES) (dst:Option Tmp) (d:Nat) (want c:Bool) (sv:SV) (K:ES→Prop):Prop:=
  match dst with
  | none=>K s
  | some t=>bif Nat.beq d t then False else bT s (some t) (bif c then sv else .undef) fun s=>match s with | ⟨n,ov,tm,hp,G⟩=>K ⟨n,ov,tm,hp,⟨t,d,want,c,sv⟩::G⟩
def GE.is (g:GE) (t d:Nat) (want:Bool):Bool:=Nat.beq g.t t&&(Nat.beq g.d d&&bw g.want want)
def qS:List GE→Nat→Nat→Bool→Option SV
  | [],_,_,_=>none
  | g::G,t,d,want=>bif g.is t d want then some g.sv else qS G t d want
def qg:List GE→Nat→Option GE
  | [],_=>none
  | g::G,t=>bif Nat.beq g.t t then some g else qg G t
def qU (G:List GE) (t:Nat):Nat→Nat→Bool→Option SV
  | 0,_,_=>none
  | k+1,d,want=>match qS G t d want with
    | some sv=>some sv
    | none=>match qg G d with | some g=>qU G t k g.d g.want | none=>none
def ES.evG (glob:Nat→Option SV) (s:ES) (d:Nat) (want:Bool):Operand→SV
  | .tmp t=>match qU s.G t 6 d want with | some sv=>sv | none=>lj s.ov s.tm t
  | .const v=>nC v
  | .global g=>(glob g).getD .dead
  | .func f=> .fn f []
def zd (s:ES) (d:Nat) (want:Bool):Option Bool:=
  match qg s.G d with
  | some g=>match g.sv with | .bool b=>some (g.c&&bw want b) | _=>none
  | none=>match lj s.ov s.tm d with | .bool b=>some (bw want b) | .tup [] =>some false | _=>none
def ik:List GE→Nat→Bool→(List (Nat×SV)×List GE)
  | [],_,_=>([],[])
  | g::G,d,want=>match ik G d want with
    | (ov,G')=>bif Nat.beq g.d d&&bw g.want want then ((g.t,g.sv)::ov,G') else (bif Nat.beq g.t d then (ov,G') else (ov,g::G'))
def ES.tellT (s:ES) (d:Nat) (want:Bool):ES:=
  match s with
  | ⟨n,ov,tm,hp,G⟩=>match ik G d want with | (ov',G')=>bif Nat.blt d n then ⟨n,(d,.bool want)::(ov'++ov),tm,hp,G'⟩ else ⟨n,ov,tm,hp,G⟩
def ES.tellF (s:ES) (d:Nat) (want:Bool):ES:=
  match s with
  | ⟨n,ov,tm,hp,G⟩=>match qg G d with
    | some _=>⟨n,ov,tm,hp,G⟩
    | none=>match lj ov tm d with
      | .bool _=>(match ik G d (!want) with | (ov',G')=>⟨n,(d,.bool (!want))::(ov'++ov),tm,hp,G'⟩)
      | _=>⟨n,ov,tm,hp,G⟩
def HI (b:Bool) (x y:Operand) (u v:SV):Option SV:=
  match u,v with
  | .bool p,.bool q=>some (match x,y with
    | .const (.bool true),_=> .bool (b||q)
    | _,.const (.bool false)=> .bool (b&&p)
    | .const (.bool false),_=> .bool (!b&&q)
    | _,.const (.bool true)=> .bool (!b||p)
    | _,_=> .bool (bif b then p else q))
  | .int k p,.int k' q=>if k=k' then some (.int k (bif b then p else q)) else none
  | .str p,.str q=>some (.str (bif b then p else q))
  | _,_=>none
def nr (G:List GE) (ρ:Operand→SV) (d:Nat) (want:Bool):Operand→SV
  | .tmp t=>(match qU G t 6 d want with | some sv=>sv | none=>ρ (.tmp t))
  | z=>ρ z
def qJ (s:ES) (ρ:Operand→SV) (c x y:Operand):Option SV:=
  match c with
  | .tmp d=>(match ρ (.tmp d) with
    | .bool b=>HI b x y (nr s.G ρ d true x) (nr s.G ρ d false y)
    | _=>none)
  | _=>none
section
variable (C:Ctx)
def pf (s:ES) (dst:Option Tmp) (K:ES→Prop):OR→Prop
  | .bad=>False
  | .need p r=>p∧pf s dst K r
  | .know p r=>p→pf s dst K r
  | .split b r1 r2=>bif b then pf s dst K r1 else pf s dst K r2
  | .val sv=>bE sv fun sv=>bT s dst sv K
  | .newRo sv=>bE sv fun sv=>bT s dst sv K
  | .new T cs=>(match s with | ⟨n,ov,tm,hp,G⟩=>bT ⟨n,ov,tm,hp++ [.cells T cs],G⟩ dst (.ptr hp.length 0) K)
  | .newOwn T e l=>(match s with | ⟨n,ov,tm,hp,G⟩=>bT ⟨n,ov,tm,hp++ [.own T e l],G⟩ dst (.own hp.length) K)
  | .upd b blk=>bif aH (s.hp.getD b .none) then (match s with | ⟨n,ov,tm,hp,G⟩=>bT ⟨n,ov,tm,hp.set b blk,G⟩ dst .undef K) else False
  | .cpy b blk=>bif aH (s.hp.getD b .none) then (match s with | ⟨n,ov,tm,hp,G⟩=>bT ⟨n,ov,tm,hp.set b blk,G⟩ dst .dead K) else False
  | .app b T e l=>bif aH (s.hp.getD b .none) then (match s with | ⟨n,ov,tm,hp,G⟩=>bT ⟨n,ov,tm,hp.set b .none++ [.own T e l],G⟩ dst (.own hp.length) K) else False
  | .frz b sv=>bif aH (s.hp.getD b .none) then (match s with | ⟨n,ov,tm,hp,G⟩=>bE sv fun sv=>bT ⟨n,ov,tm,hp.set b .none,G⟩ dst sv K) else False
  | .anyB f=>∀ β,f β→bT s dst (.bool β) K
  | .call f svs=>(C.spec f svs s.hp).wp s.hp fun sv hp'=>bE sv fun sv=>match s with | ⟨n,ov,tm,_,G⟩=>bT ⟨n,ov,tm,hp',G⟩ dst sv K
def oV (s:ES) (dst:Option Tmp) (d:Nat) (want c:Bool) (K:ES→Prop):CR→Prop
  | .bad=>(c=true→False)∧bT s dst .undef K
  | .need p r=>(c=true→p)∧oV s dst d want c K r
  | .know p r=>(c=true→p)→oV s dst d want c K r
  | .ret sv [] [] =>bE sv fun sv=>jS s dst d want c sv K
  | .ret sv upd news=>(c=true→bE sv fun sv=>match s.tellT d want with | ⟨n,ov,tm,hp,G⟩=>bT ⟨n,ov,tm,bc hp upd++news,G⟩ dst sv K)∧(c=false→bT (s.tellF d want) dst .undef K)
  | .anyI f=>∀ n,oV s dst d want c K (f n)
  | .anyB f=>∀ n,oV s dst d want c K (f n)
  | .anyL f=>∀ n,oV s dst d want c K (f n)
  | .ite b r1 r2=>bif b then oV s dst d want c K r1 else oV s dst d want c K r2
def BU (s:ES) (dst:Option Tmp) (d:Nat) (want c:Bool) (K:ES→Prop):OR→Prop
  | .bad=>(c=true→False)∧bT s dst .undef K
  | .need p r=>(c=true→p)∧BU s dst d want c K r
  | .know p r=>(c=true→p)→BU s dst d want c K r
  | .val sv=>bE sv fun sv=>jS s dst d want c sv K
  | .newRo sv=>bE sv fun sv=>jS s dst d want c sv K
  | .anyB f=>∀ β,(c=true→f β)→jS s dst d want c (.bool β) K
  | .call f svs=>oV s dst d want c K (C.spec f svs s.hp)
  | r=>(c=true→pf C (s.tellT d want) dst K r)∧(c=false→bT (s.tellF d want) dst .undef K)
def jP (all:Array Oper):List Oper→ES→(ES→Prop)→Prop
  | [],s,K=>K s
  | o::rest,s,K=>
    match o.guard with
    | none=>(match o.op with
      | .pick c x y=>(match qJ s (s.ev C.glob) c x y with
        | some sv=>bE sv fun sv=>bT s o.dst sv fun s=>jP all rest s K
        | none=>pf C s o.dst (fun s=>jP all rest s K) (fk C.P C.zero (s.ev C.glob) s.hp (.pick c x y)))
      | op=>pf C s o.dst (fun s=>jP all rest s K) (fk C.P C.zero (s.ev C.glob) s.hp op))
    | some (j,want)=>(match (all[j]?).bind (·.dst) with
      | some d=>(match zd s d want with
        | some c=>(match o.op with
          | .pick c0 x y=>(match qJ s (s.evG C.glob d want) c0 x y with
            | some sv=>bE sv fun sv=>jS s o.dst d want c sv fun s=>jP all rest s K
            | none=>BU C s o.dst d want c (fun s=>jP all rest s K) (fk C.P C.zero (s.evG C.glob d want) s.hp (.pick c0 x y)))
          | op=>BU C s o.dst d want c (fun s=>jP all rest s K) (fk C.P C.zero (s.evG C.glob d want) s.hp op))
        | none=>False)
      | none=>False)
end
theorem aA {a b:Nat} :Nat.beq a b=true↔a=b:=⟨Nat.eq_of_beq_eq_true,fun h=>by subst h;exact Nat.beq_refl a⟩
theorem dw {a b:Nat} :Nat.beq a b=false↔a≠b:=by
  rw [← Bool.not_eq_true,aA]
theorem iq {a b:Nat} :Nat.blt a b=true↔a<b:=by
  unfold Nat.blt;rw [Nat.ble_eq];omega
theorem u9 {a b:Bool} :bw a b=true↔a=b:=by cases a <;>cases b <;>simp [bw]
theorem c8:∀ (ov:List (Nat×SV)) (tm:List SV),(aM ov tm).length=tm.length
  | [],_=>rfl
  | (d,v)::ov,tm=>by simp [aM,dP,c8 ov tm]
theorem iM:∀ (ov:List (Nat×SV)) (tm:List SV),(∀ p∈ov,p.1<tm.length)→∀ t,lj ov tm t=aD (aM ov tm) t
  | [],_,_,_=>rfl
  | (d,v)::ov,tm,h,t=>by
    have hd:d<(aM ov tm).length:=by rw [c8];exact h (d,v) (by simp)
    unfold lj aM
    cases hb:Nat.beq d t with
    | true=>cases aA.1 hb;simp [fu _ _ _ hd]
    | false=>
      rw [cQ _ _ _ _ (dw.1 hb)]
      exact iM ov tm (fun p hp=>h p (by simp [hp])) t
theorem ES.ev_eq {s:ES} (h:s.Ok) (glob:Nat→Option SV):s.ev glob=s.as.ev glob:=by
  funext x
  cases x with
  | tmp t=>exact iM _ _ h.ov t
  | _=>rfl
theorem qZ:∀ {G:List GE} {d:Nat},uq G d=true→∀ g∈G,g.t≠d∧g.d≠d
  | [],_,_,g,hg=>by simp at hg
  | g0::G,d,h,g,hg=>by
    simp only [uq,Bool.and_eq_true,Bool.not_eq_true'] at h
    rcases List.mem_cons.1 hg with rfl | hg
    · exact ⟨dw.1 h.1,dw.1 h.2.1⟩
    · exact qZ h.2.2 g hg
theorem j8:∀ {G:List GE} {d:Nat},∀ g∈nP G d,g∈G∧g.t≠d∧g.d≠d
  | [],_,g,hg=>by simp [nP] at hg
  | g0::G,d,g,hg=>by
    unfold nP at hg
    cases hb:(Nat.beq g0.t d||Nat.beq g0.d d) with
    | true=>rw [hb] at hg;have:=j8 g hg;exact ⟨by simp [this.1],this.2⟩
    | false=>
      rw [hb] at hg
      simp only [Bool.or_eq_false_iff] at hb
      rcases List.mem_cons.1 hg with rfl | hg
      · exact ⟨by simp,dw.1 hb.1,dw.1 hb.2⟩
      · have:=j8 g hg;exact ⟨by simp [this.1],this.2⟩
theorem GInv.put {tm:List SV} {G G':List GE} (h:GInv tm G) {d:Nat} {sv:SV} (h':∀ g∈G',g∈G∧g.t≠d∧g.d≠d):GInv (hH tm d sv) G':=fun g hg=>by
  obtain ⟨h1,h2,h3⟩:=h' g hg
  obtain ⟨h4,h5⟩:=h g h1
  refine ⟨?_,?_⟩
  · rw [h4];unfold aP;rw [cQ _ _ _ _ (Ne.symm h3)]
  · rw [cQ _ _ _ _ (Ne.symm h2)];exact h5
theorem sa {s:ES} (hs:s.Ok) {dst:Option Tmp} {sv:SV} {K:ES→Prop} (h:bT s dst sv K):∃ s',s'.Ok∧s'.as=s.as.put dst sv∧K s'∧(∀ d,dst=some d→s'.n=s.n∧d<s.tm.length∧∀ g∈s'.G,g.t≠d∧g.d≠d):=by
  obtain ⟨n,ov,tm,hp,G⟩:=s
  cases dst with
  | none=>exact ⟨_,hs,rfl,h,fun d hd=>by cases hd⟩
  | some d=>
    simp only [bT] at h
    cases hb:Nat.blt d n with
    | false=>rw [hb] at h;exact h.elim
    | true=>
      rw [hb] at h
      have hlen:n=tm.length:=hs.len
      have hd:d<tm.length:=by rw [← hlen];exact iq.1 hb
      have hov:∀ p∈(d,sv)::ov,p.1<tm.length:=fun p hp=>by
        rcases List.mem_cons.1 hp with rfl | hp
        · exact hd
        · exact hs.ov p hp
      cases hf:uq G d with
      | true=>
        rw [hf] at h
        have hG:=fun g hg=>qZ hf g hg
        exact ⟨⟨n,(d,sv)::ov,tm,hp,G⟩,⟨hlen,hov,GInv.put (tm:=aM ov tm) hs.g fun g hg=>⟨hg,hG g hg⟩,hs.gt⟩,rfl,h,fun d' e=>by cases e;exact ⟨rfl,hd,hG⟩⟩
      | false=>
        rw [hf] at h
        exact ⟨⟨n,(d,sv)::ov,tm,hp,nP G d⟩,⟨hlen,hov,GInv.put (tm:=aM ov tm) hs.g fun g hg=>j8 g hg,fun g hg=>hs.gt g (j8 g hg).1⟩,rfl,h,fun d' e=>by cases e;exact ⟨rfl,hd,fun g hg=>(j8 g hg).2⟩⟩
theorem Br {s:ES} (hs:s.Ok) {dst:Option Tmp} {d:Nat} {want c:Bool} (hc:c=aP s.as.tm d want) {sv:SV} {K:ES→Prop} (h:jS s dst d want c sv K):∃ s',s'.Ok∧s'.as=s.as.put dst (bif c then sv else .undef)∧K s':=by
  cases dst with
  | none=>exact ⟨_,hs,rfl,h⟩
  | some t=>
    simp only [jS] at h
    cases hb:Nat.beq d t with
    | true=>rw [hb] at h;exact h.elim
    | false=>
      simp only [hb,cond_false] at h
      have hne:=dw.1 hb
      obtain ⟨⟨n,ov,tm,hp,G⟩,h1,h2,h3,h4⟩:=sa hs h
      obtain ⟨_,htlt,_⟩:=h4 t rfl
      have htm:aM ov tm=hH (aM s.ov s.tm) t (bif c then sv else .undef):=congrArg AS.tm h2
      refine ⟨⟨n,ov,tm,hp,⟨t,d,want,c,sv⟩::G⟩,⟨h1.len,h1.ov,fun g hg=> ?_,fun g hg=> ?_⟩,h2,h3⟩
      rotate_left
      · have hl:s.tm.length=tm.length:=by
          have:=congrArg List.length htm
          rw [dP,c8,c8] at this
          exact this.symm
        rcases List.mem_cons.1 hg with rfl | hg
        · rw [hl] at htlt;exact htlt
        · exact h1.gt g hg
      rcases List.mem_cons.1 hg with rfl | hg
      · refine ⟨?_,?_⟩
        · show c=aP (aM ov tm) d want
          rw [htm];unfold aP;rw [cQ _ _ _ _ (Ne.symm hne)];exact hc
        · show aD (aM ov tm) t=_
          rw [htm,fu _ _ _ (by rw [c8];exact htlt)]
      · exact h1.g g hg
theorem wx:∀ {G:List GE} {t d:Nat} {want:Bool} {sv:SV},qS G t d want=some sv→∃ g∈G,g.t=t∧g.d=d∧g.want=want∧g.sv=sv
  | [],_,_,_,_,h=>by simp [qS] at h
  | g::G,t,d,want,sv,h=>by
    unfold qS at h
    cases hb:g.is t d want with
    | true=>
      rw [hb] at h
      simp only [GE.is,Bool.and_eq_true] at hb
      exact ⟨g,by simp,aA.1 hb.1,aA.1 hb.2.1,u9.1 hb.2.2,by simpa using h⟩
    | false=>
      rw [hb] at h
      obtain ⟨g',h1,h2⟩:=wx h
      exact ⟨g',by simp [h1],h2⟩
theorem rA:∀ {G:List GE} {t:Nat} {g:GE},qg G t=some g→g∈G∧g.t=t
  | [],_,_,h=>by simp [qg] at h
  | g0::G,t,g,h=>by
    unfold qg at h
    cases hb:Nat.beq g0.t t with
    | true=>rw [hb] at h;simp at h;subst h;exact ⟨by simp,aA.1 hb⟩
    | false=>rw [hb] at h;have:=rA h;exact ⟨by simp [this.1],this.2⟩
theorem Ki {tm:List SV} {g:GE} (h:g.c=aP tm g.d g.want∧aD tm g.t=bif g.c then g.sv else .undef) {want:Bool} (hg:aP tm g.t want=true):g.c=true:=by
  cases hc:g.c with
  | true=>rfl
  | false=>
    have h2:=h.2
    rw [hc] at h2
    unfold aP at hg
    rw [h2] at hg
    cases hg
theorem rT {tm:List SV} {G:List GE} (h:GInv tm G) {t:Nat} :∀ {k d:Nat} {want:Bool} {sv:SV},qU G t k d want=some sv→aP tm d want=true→aD tm t=sv
  | 0,_,_,_,e,_=>by simp [qU] at e
  | k+1,d,want,sv,e,hg=>by
    unfold qU at e
    cases hf:qS G t d want with
    | some sv'=>
      rw [hf] at e
      cases e
      obtain ⟨g,h1,h2,h3,h4,h5⟩:=wx hf
      obtain ⟨h6,h7⟩:=h g h1
      rw [h3,h4,hg] at h6
      rw [← h2,h7,h6,← h5]
      rfl
    | none=>
      rw [hf] at e
      cases hn:qg G d with
      | none=>rw [hn] at e;cases e
      | some g=>
        rw [hn] at e
        obtain ⟨h1,h2⟩:=rA hn
        have h3:=h g h1
        have hc:=Ki h3 (want:=want) (by rw [h2];exact hg)
        exact rT h e (by rw [← h3.1];exact hc)
theorem ES.evG_eq {s:ES} (h:s.Ok) (glob:Nat→Option SV) {d:Nat} {want:Bool} (hg:aP s.as.tm d want=true):s.evG glob d want=s.as.ev glob:=by
  funext x
  cases x with
  | tmp t=>
    simp only [ES.evG]
    split
    · rename_i sv hl
      exact (rT h.g hl hg).symm
    · exact iM _ _ h.ov t
  | _=>rfl
theorem B0 {s:ES} (h:s.Ok) {d:Nat} {want c:Bool} (e:zd s d want=some c):c=aP s.as.tm d want∧(c=false→(∃ b,aD s.as.tm d= .bool b)∨aD s.as.tm d= .undef):=by
  unfold zd at e
  split at e
  · rename_i g hg
    split at e
    · rename_i b hb
      cases e
      obtain ⟨h1,h2⟩:=rA hg
      obtain ⟨h3,h4⟩:=h.g g h1
      rw [h2,hb] at h4
      unfold aP
      cases hc:g.c with
      | true=>rw [hc] at h4;simp only [cond_true] at h4;rw [h4];exact ⟨rfl,fun _=> .inl ⟨_,rfl⟩⟩
      | false=>rw [hc] at h4;simp only [cond_false] at h4;rw [h4];exact ⟨rfl,fun _=> .inr rfl⟩
    · cases e
  · have ho:=iM _ _ h.ov d
    have ho':lj s.ov s.tm d=aD s.as.tm d:=ho
    rw [ho'] at e
    unfold aP
    split at e
    · rename_i b hb;cases e;rw [hb];exact ⟨rfl,fun _=> .inl ⟨_,rfl⟩⟩
    · rename_i hb;cases e;rw [hb];exact ⟨rfl,fun _=> .inr rfl⟩
    · cases e
theorem wE {tm:List SV} {hp:List Blk} {d:Nat} {want c:Bool} (hc:c=aP tm d want) (hf:c=false→(∃ b,aD tm d= .bool b)∨aD tm d= .undef) {yes no:AS→Prop} (h1:c=true→yes ⟨tm,hp⟩) (h2:c=false→no ⟨tm,hp⟩):tL want ⟨tm,hp⟩ yes no (some d):=by
  simp only [tL]
  have hput:∀ b,aD tm d= .bool b→(⟨tm,hp⟩:AS).put (some d) (.bool b)=⟨tm,hp⟩:=fun b hb=>by
    show (⟨hH tm d (.bool b),hp⟩:AS)=_
    rw [← hb,lZ]
  cases hv:aD tm d with
  | bool b=>
    have hc':c=bw want b:=by rw [hc];unfold aP;rw [hv]
    refine ⟨fun e=> ?_,fun e=> ?_⟩
    · subst e;rw [hput _ hv];exact h1 (by rw [hc'];cases b <;>rfl)
    · subst e;rw [hput _ hv];exact h2 (by rw [hc'];cases want <;>rfl)
  | tup vs=>
    have hc':c=false:=by rw [hc];unfold aP;rw [hv]
    rcases hf hc' with ⟨b,hb⟩ | hb
    · rw [hv] at hb;cases hb
    · rw [hv] at hb;cases hb
      exact h2 hc'
  | _=>
    have hc':c=false:=by rw [hc];unfold aP;rw [hv]
    rcases hf hc' with ⟨b,hb⟩ | hb <;> · rw [hv] at hb;cases hb
theorem rQ {tm:List SV} {d:Nat} {want:Bool} (hg:aP tm d want=true):∀ {G:List GE},GInv tm G→(∀ p∈(ik G d want).1,aD tm p.1=p.2∧∃ g∈G,g.t=p.1)∧∀ g∈(ik G d want).2,g∈G
  | [],_=>⟨fun p hp=>by simp [ik] at hp,fun g hg=>by simp [ik] at hg⟩
  | g::G,h=>by
    obtain ⟨ih1,ih2⟩:=rQ hg (G:=G) fun g' hg'=>h g' (by simp [hg'])
    obtain ⟨h3,h4⟩:=h g (by simp)
    simp only [ik]
    have ih1':∀ p∈(ik G d want).1,aD tm p.1=p.2∧∃ g'∈g::G,g'.t=p.1:=fun p hp=>by
      obtain ⟨k1,g',k2,k3⟩:=ih1 p hp
      exact ⟨k1,g',by simp [k2],k3⟩
    have ih2':∀ g'∈(ik G d want).2,g'∈g::G:=fun g' hg'=>by simp [ih2 g' hg']
    cases hb:(Nat.beq g.d d&&bw g.want want) with
    | true=>
      simp only [Bool.and_eq_true] at hb
      refine ⟨fun p hp=> ?_,ih2'⟩
      rcases List.mem_cons.1 hp with rfl | hp
      · refine ⟨?_,g,by simp,rfl⟩
        rw [aA.1 hb.1,u9.1 hb.2,hg] at h3
        rw [h4,h3];rfl
      · exact ih1' p hp
    | false=>
      cases hb2:Nat.beq g.t d with
      | true=>exact ⟨ih1',ih2'⟩
      | false=>
        refine ⟨ih1',fun g' hg'=> ?_⟩
        rcases List.mem_cons.1 hg' with rfl | hg'
        · simp
        · exact ih2' g' hg'
theorem pV:∀ {ov' ov:List (Nat×SV)} {tm:List SV},(∀ p∈ov',aD (aM ov tm) p.1=p.2)→aM (ov'++ov) tm=aM ov tm
  | [],_,_,_=>rfl
  | (d,v)::ov',ov,tm,h=>by
    have ih:=pV (ov':=ov') (ov:=ov) (tm:=tm) fun p hp=>h p (by simp [hp])
    show hH (aM (ov'++ov) tm) d v=_
    have h0:aD (aM ov tm) d=v:=h (d,v) (by simp)
    rw [ih,← h0,lZ]
theorem CS {n:Nat} {ov ov':List (Nat×SV)} {tm:List SV} {hp:List Blk} {G G':List GE} (hs:(⟨n,ov,tm,hp,G⟩:ES).Ok) (h1:∀ p∈ov',aD (aM ov tm) p.1=p.2∧p.1<tm.length) (h2:∀ g∈G',g∈G):(⟨n,ov'++ov,tm,hp,G'⟩:ES).Ok∧(⟨n,ov'++ov,tm,hp,G'⟩:ES).as=(⟨n,ov,tm,hp,G⟩:ES).as:=by
  have e:=pV (ov':=ov') (ov:=ov) (tm:=tm) fun p hp=>(h1 p hp).1
  refine ⟨⟨hs.len,fun p hp=> ?_,fun g hg=> ?_,fun g hg=>hs.gt g (h2 g hg)⟩,?_⟩
  · rcases List.mem_append.1 hp with hp | hp
    · exact (h1 p hp).2
    · exact hs.ov p hp
  · show g.c=aP (aM (ov'++ov) tm) g.d g.want∧aD (aM (ov'++ov) tm) g.t=_
    rw [e];exact hs.g g (h2 g hg)
  · show (⟨aM (ov'++ov) tm,hp⟩:AS)=_
    rw [e];rfl
theorem gR {s:ES} (hs:s.Ok) {d:Nat} {want:Bool} (hg:aP s.as.tm d want=true):(s.tellT d want).Ok∧(s.tellT d want).as=s.as:=by
  obtain ⟨n,ov,tm,hp,G⟩:=s
  have key:=rQ (tm:=aM ov tm) hg (G:=G) hs.g
  simp only [ES.tellT]
  cases hb:Nat.blt d n with
  | false=>exact ⟨hs,rfl⟩
  | true=>
    have hd:d<tm.length:=by have:=hs.len;have:=iq.1 hb;simp_all
    refine CS (ov':=(d,.bool want)::(ik G d want).1) hs (fun p hp=> ?_) key.2
    rcases List.mem_cons.1 hp with rfl | hp
    · refine ⟨?_,hd⟩
      have hg':aP (aM ov tm) d want=true:=hg
      unfold aP at hg'
      split at hg'
      · rename_i b hb;rw [hb,u9.1 hg']
      · cases hg'
    · obtain ⟨h1,g,h2,h3⟩:=key.1 p hp
      exact ⟨h1,by rw [← h3];exact hs.gt g h2⟩
theorem tu {s:ES} (hs:s.Ok) {d:Nat} {want:Bool} (hg:aP s.as.tm d want=false):(s.tellF d want).Ok∧(s.tellF d want).as=s.as:=by
  obtain ⟨n,ov,tm,hp,G⟩:=s
  simp only [ES.tellF]
  split
  · exact ⟨hs,rfl⟩
  · split
    · rename_i b hb
      have hb':aD (aM ov tm) d= .bool b:=(iM _ _ hs.ov d).symm.trans hb
      have hg':aP (aM ov tm) d want=false:=hg
      have hbw:b= !want:=by
        unfold aP at hg'
        rw [hb'] at hg'
        revert hg'
        cases b <;>cases want <;>simp [bw]
      have hgn:aP (aM ov tm) d (!want)=true:=by
        unfold aP
        rw [hb',hbw]
        cases want <;>rfl
      have key:=rQ (tm:=aM ov tm) hgn (G:=G) hs.g
      have hd:d<tm.length:=by
        rcases Nat.lt_or_ge d tm.length with h | h
        · exact h
        · rw [jL _ _ (by rw [c8];exact h)] at hb';cases hb'
      refine CS (ov':=(d,.bool (!want))::(ik G d (!want)).1) hs (fun p hp=> ?_) key.2
      rcases List.mem_cons.1 hp with rfl | hp
      · exact ⟨by rw [hb',hbw],hd⟩
      · obtain ⟨h1,g,h2,h3⟩:=key.1 p hp
        exact ⟨h1,by rw [← h3];exact hs.gt g h2⟩
    · exact ⟨hs,rfl⟩
theorem n8 {s:ES} (hs:s.Ok) {ρ:Operand→SV} {c x y:Operand} {sv:SV} {glob:Nat→Option SV} (hρ:ρ=s.as.ev glob) (h:qJ s ρ c x y=some sv):∃ b,ρ c= .bool b∧sv=bif b then ρ x else ρ y:=by
  unfold qJ at h
  split at h
  · rename_i d
    split at h
    · rename_i b hb
      have hg:∀ want,bw want b=true→aP s.as.tm d want=true:=fun want hw=>by
        have:aD s.as.tm d= .bool b:=by rw [hρ] at hb;exact hb
        unfold aP;rw [this];exact hw
      have hside:∀ want z,bw want b=true→nr s.G ρ d want z=ρ z:=fun want z hw=>by
        unfold nr
        split
        · rename_i t
          split
          · rename_i sv' hl
            rw [hρ]
            exact (rT hs.g hl (hg want hw)).symm
          · rfl
        · rfl
      refine ⟨b,hb,?_⟩
      generalize hu:nr s.G ρ d true x=u at h
      generalize hv:nr s.G ρ d false y=v at h
      have h':=h
      have hu':b=true→u=ρ x:=fun e=>by rw [← hu];exact hside true x (by rw [e];rfl)
      have hv':b=false→v=ρ y:=fun e=>by rw [← hv];exact hside false y (by rw [e];rfl)
      have hconst:∀ z q,z=Operand.const (.bool q)→ρ z= .bool q:=fun z q e=>by rw [hρ,e];rfl
      unfold HI at h'
      cases b with
      | true=>
        rw [cond_true,← hu' rfl]
        split at h'
        · rename_i p q
          cases h'
          split
          · have:=hu' rfl;rw [hconst _ true rfl] at this;cases this;rfl
          · rfl
          · have:=hu' rfl;rw [hconst _ false rfl] at this;cases this;rfl
          · simp
          · rfl
        · split at h'
          · cases h';rfl
          · cases h'
        · cases h';rfl
        · cases h'
      | false=>
        rw [cond_false,← hv' rfl]
        split at h'
        · rename_i p q
          cases h'
          split
          · rfl
          · have:=hv' rfl;rw [hconst _ false rfl] at this;cases this;rfl
          · rfl
          · have:=hv' rfl;rw [hconst _ true rfl] at this;cases this;rfl
          · rfl
        · split at h'
          · rename_i hk;cases h';subst hk;rfl
          · cases h'
        · cases h';rfl
        · cases h'
    · cases h
  · cases h
theorem cY {n:Nat} {ov:List (Nat×SV)} {tm:List SV} {hp hp':List Blk} {G:List GE} (hs:(⟨n,ov,tm,hp,G⟩:ES).Ok):(⟨n,ov,tm,hp',G⟩:ES).Ok:=⟨hs.len,hs.ov,hs.g,hs.gt⟩
section
variable {C:Ctx}
def Next (K:ES→Prop):AS→Prop:=fun s=>∃ s':ES,s'.Ok∧s'.as=s∧K s'
theorem b8 {s:ES} (hs:s.Ok) {dst:Option Tmp} {sv:SV} {K:ES→Prop} (h:bT s dst sv K):Next K (s.as.put dst sv):=by
  obtain ⟨s',h1,h2,h3,_⟩:=sa hs h
  exact ⟨s',h1,h2,h3⟩
theorem iR {s:ES} (hs:s.Ok) {dst:Option Tmp} {d:Nat} {want c:Bool} (hc:c=aP s.as.tm d want) {sv:SV} {K:ES→Prop} (h:jS s dst d want c sv K):(c=true→Next K (s.as.put dst sv))∧(c=false→Next K (s.as.put dst .undef)):=by
  obtain ⟨s',h1,h2,h3⟩:=Br hs hc h
  exact ⟨fun e=>by subst e;exact ⟨s',h1,h2,h3⟩,fun e=>by subst e;exact ⟨s',h1,h2,h3⟩⟩
theorem iI {b:Nat} {hp:List Blk} {p:Prop} (h:bif aH (hp.getD b .none) then p else False):aH (hp.getD b .none)=true∧p:=by
  cases hl:aH (hp.getD b .none) with
  | true=>rw [hl] at h;exact ⟨rfl,h⟩
  | false=>rw [hl] at h;exact h.elim
theorem jE {s:ES} (hs:s.Ok) {dst:Option Tmp} {K:ES→Prop} :∀ r,pf C s dst K r→gZ C dst s.as (Next K) r
  | .bad,h=>h
  | .need p r,h=>⟨h.1,jE hs r h.2⟩
  | .know p r,h=>fun hp=>jE hs r (h hp)
  | .split b r1 r2,h=>by
    cases b with
    | true=>exact ⟨fun _=>jE hs r1 h,fun e=>by cases e⟩
    | false=>exact ⟨(fun e=>by cases e),fun _=>jE hs r2 h⟩
  | .val sv,h=>by
    simp only [pf,aS] at h
    exact b8 hs h
  | .newRo sv,h=>by
    simp only [pf,aS] at h
    exact b8 hs h
  | .new T cs,h=>by
    obtain ⟨n,ov,tm,hp,G⟩:=s
    exact b8 (cY hs) h
  | .newOwn T e l,h=>by
    obtain ⟨n,ov,tm,hp,G⟩:=s
    exact b8 (cY hs) h
  | .upd b blk,h=>by
    obtain ⟨n,ov,tm,hp,G⟩:=s
    obtain ⟨h1,h2⟩:=iI h
    exact ⟨h1,b8 (cY hs) h2⟩
  | .cpy b blk,h=>by
    obtain ⟨n,ov,tm,hp,G⟩:=s
    obtain ⟨h1,h2⟩:=iI h
    exact ⟨h1,b8 (cY hs) h2⟩
  | .app b T e l,h=>by
    obtain ⟨n,ov,tm,hp,G⟩:=s
    obtain ⟨h1,h2⟩:=iI h
    exact ⟨h1,b8 (cY hs) h2⟩
  | .frz b sv,h=>by
    obtain ⟨n,ov,tm,hp,G⟩:=s
    obtain ⟨h1,h2⟩:=iI h
    simp only [aS] at h2
    exact ⟨h1,b8 (cY hs) h2⟩
  | .anyB f,h=>fun β hβ=>b8 hs (h β hβ)
  | .call f svs,h=>by
    obtain ⟨n,ov,tm,hp,G⟩:=s
    refine CR.wp_mono (fun sv hp' k=> ?_) _ h
    simp only [aS] at k
    exact b8 (cY hs) k
theorem sb {s:ES} (hs:s.Ok) {d:Nat} {want c:Bool} (hc:c=aP s.as.tm d want) {dst:Option Tmp} {K:ES→Prop} (h:c=false→bT (s.tellF d want) dst .undef K):c=false→Next K (s.as.put dst .undef):=fun e=>by
  obtain ⟨h1,h2⟩:=tu hs (d:=d) (want:=want) (by rw [← hc,e])
  have:=b8 h1 (h e)
  rwa [h2] at this
theorem dS {s:ES} (hs:s.Ok) {dst:Option Tmp} {d:Nat} {want c:Bool} (hc:c=aP s.as.tm d want) {K:ES→Prop} :∀ r,oV s dst d want c K r→
    (c=true→r.wp s.hp fun sv hp'=>Next K (({s.as with hp:=hp'} :AS).put dst sv))∧(c=false→Next K (s.as.put dst .undef))
  | .bad,h=>⟨fun e=>(h.1 e).elim,fun _=>b8 hs h.2⟩
  | .need p r,h=>⟨fun e=>⟨h.1 e,(dS hs hc r h.2).1 e⟩,(dS hs hc r h.2).2⟩
  | .know p r,h=>⟨fun e hp=>(dS hs hc r (h fun _=>hp)).1 e,fun e=>(dS hs hc r (h fun e'=>by rw [e] at e';cases e')).2 e⟩
  | .ret sv [] [],h=>by
    simp only [oV,aS] at h
    have:=iR hs hc h
    refine ⟨fun e=> ?_,this.2⟩
    show Next K (({s.as with hp:=bc s.hp [] ++ []} :AS).put dst sv)
    rw [show bc s.hp [] ++ [] =s.hp from List.append_nil _]
    exact this.1 e
  | .ret sv (u::us) news,h=>by
    simp only [oV,aS] at h
    refine ⟨fun e=> ?_,sb hs hc h.2⟩
    obtain ⟨h1,h2⟩:=gR hs (d:=d) (want:=want) (by rw [← hc,e])
    have h3:=h.1 e
    generalize s.tellT d want=s' at h1 h2 h3
    obtain ⟨n,ov,tm,hp,G⟩:=s'
    have:=b8 (cY h1) h3
    have e2:hp=s.hp:=congrArg AS.hp h2
    have e3:aM ov tm=s.as.tm:=congrArg AS.tm h2
    subst e2
    show Next K _
    simpa [CR.wp,ES.as,e3] using this
  | .ret sv [] (u::news),h=>by
    simp only [oV,aS] at h
    refine ⟨fun e=> ?_,sb hs hc h.2⟩
    obtain ⟨h1,h2⟩:=gR hs (d:=d) (want:=want) (by rw [← hc,e])
    have h3:=h.1 e
    generalize s.tellT d want=s' at h1 h2 h3
    obtain ⟨n,ov,tm,hp,G⟩:=s'
    have:=b8 (cY h1) h3
    have e2:hp=s.hp:=congrArg AS.hp h2
    have e3:aM ov tm=s.as.tm:=congrArg AS.tm h2
    subst e2
    show Next K _
    simpa [CR.wp,ES.as,e3] using this
  | .anyI f,h=>⟨fun e n=>(dS hs hc (f n) (h n)).1 e,(dS hs hc (f 0) (h 0)).2⟩
  | .anyB f,h=>⟨fun e n=>(dS hs hc (f n) (h n)).1 e,(dS hs hc (f true) (h true)).2⟩
  | .anyL f,h=>⟨fun e n=>(dS hs hc (f n) (h n)).1 e,(dS hs hc (f []) (h [])).2⟩
  | .ite true r1 r2,h=>dS hs hc r1 h
  | .ite false r1 r2,h=>dS hs hc r2 h
theorem CK {s:ES} (hs:s.Ok) {dst:Option Tmp} {d:Nat} {want c:Bool} (hc:c=aP s.as.tm d want) {K:ES→Prop} :∀ r,BU C s dst d want c K r→
    (c=true→gZ C dst s.as (Next K) r)∧(c=false→Next K (s.as.put dst .undef)):=by
  have other:∀ r,(c=true→pf C (s.tellT d want) dst K r)∧(c=false→bT (s.tellF d want) dst .undef K)→(c=true→gZ C dst s.as (Next K) r)∧(c=false→Next K (s.as.put dst .undef)):=fun r h=>by
    refine ⟨fun e=> ?_,sb hs hc h.2⟩
    obtain ⟨h1,h2⟩:=gR hs (d:=d) (want:=want) (by rw [← hc,e])
    have:=jE h1 r (h.1 e)
    rwa [h2] at this
  intro r
  induction r with
  | bad=>exact fun h=>⟨fun e=>(h.1 e).elim,fun _=>b8 hs h.2⟩
  | need p r ih=>exact fun h=>⟨fun e=>⟨h.1 e,(ih h.2).1 e⟩,(ih h.2).2⟩
  | know p r ih=>exact fun h=>⟨fun e hp=>(ih (h fun _=>hp)).1 e,fun e=>(ih (h fun e'=>by rw [e] at e';cases e')).2 e⟩
  | val sv=>
    intro h
    simp only [BU,aS] at h
    exact iR hs hc h
  | newRo sv=>
    intro h
    simp only [BU,aS] at h
    exact iR hs hc h
  | anyB f=>exact fun h=>⟨fun e β hβ=>(iR hs hc (h β fun _=>hβ)).1 e,fun e=>(iR hs hc (h true fun e'=>by rw [e] at e';cases e')).2 e⟩
  | call f svs=>
    intro h
    exact dS hs hc _ h
  | split b r1 r2=>exact fun h=>other _ h
  | new T cs=>exact fun h=>other _ h
  | newOwn T e l=>exact fun h=>other _ h
  | upd b blk=>exact fun h=>other _ h
  | cpy b blk=>exact fun h=>other _ h
  | app b T e l=>exact fun h=>other _ h
  | frz b sv=>exact fun h=>other _ h
theorem iF {dst:Option Tmp} {s:AS} {K K':AS→Prop} (h:∀ s,K s→K' s):∀ r,gZ C dst s K r→gZ C dst s K' r
  | .bad,k=>k
  | .need p r,k=>⟨k.1,iF h r k.2⟩
  | .know p r,k=>fun hp=>iF h r (k hp)
  | .split b r1 r2,k=>⟨fun e=>iF h r1 (k.1 e),fun e=>iF h r2 (k.2 e)⟩
  | .val sv,k=>h _ k
  | .newRo sv,k=>h _ k
  | .new T cs,k=>h _ k
  | .newOwn T e l,k=>h _ k
  | .upd b blk,k=>⟨k.1,h _ k.2⟩
  | .cpy b blk,k=>⟨k.1,h _ k.2⟩
  | .app b T e l,k=>⟨k.1,h _ k.2⟩
  | .frz b sv,k=>⟨k.1,h _ k.2⟩
  | .anyB f,k=>fun β hβ=>h _ (k β hβ)
  | .call f svs,k=>CR.wp_mono (fun sv hp k=>h _ k) _ k
theorem zK {s:AS} {dst:Option Tmp} {K:AS→Prop} {c x y:Operand} {b:Bool} (h1:s.ev C.glob c= .bool b) (h:K (s.put dst (bif b then s.ev C.glob x else s.ev C.glob y))):gZ C dst s K (fk C.P C.zero (s.ev C.glob) s.hp (.pick c x y)):=by
  simp only [fk,h1,gZ]
  exact ⟨fun e=>by subst e;exact h,fun e=>by subst e;exact h⟩
theorem rM {all:Array Oper} {K:ES→Prop} :∀ (l:List Oper) (s:ES),s.Ok→jP C all l s K→my C all l s.as (Next K)
  | [],s,hs,h=>⟨s,hs,rfl,h⟩
  | o::rest,s,hs,h=>by
    have ih:∀ s':AS,Next (fun s=>jP C all rest s K) s'→my C all rest s' (Next K):=fun s' ⟨s'',h1,h2,h3⟩=>by
      have:=rM rest s'' h1 h3
      rwa [h2] at this
    unfold jP at h
    show j5 all o s.as _ _
    unfold j5
    have hev:=s.ev_eq hs C.glob
    split at h
    · rename_i hg
      rw [hg]
      show gZ C o.dst s.as (fun s'=>my C all rest s' (Next K)) (fk C.P C.zero (s.as.ev C.glob) s.as.hp o.op)
      refine iF ih _ ?_
      split at h
      · rename_i c x y hop
        rw [hop]
        split at h
        · rename_i sv hp
          obtain ⟨b,h1,h2⟩:=n8 (glob:=C.glob) hs hev hp
          rw [hev] at h1 h2
          refine zK h1 ?_
          rw [← h2]
          rw [aS] at h
          exact b8 hs h
        · rw [hev] at h
          exact jE hs _ h
      · rw [hev] at h
        exact jE hs _ h
    · rename_i j want hg
      rw [hg]
      simp only [qq]
      split at h
      · rename_i d hd
        rw [hd]
        split at h
        · rename_i c hc
          obtain ⟨hc1,hc2⟩:=B0 hs hc
          have key:(c=true→gZ C o.dst s.as (Next fun s=>jP C all rest s K) (fk C.P C.zero (s.as.ev C.glob) s.as.hp o.op))∧(c=false→Next (fun s=>jP C all rest s K) (s.as.put o.dst .undef)):=by
            have hevG:c=true→s.evG C.glob d want=s.as.ev C.glob:=fun e=>s.evG_eq hs C.glob (by rw [← hc1,e])
            split at h
            · rename_i c0 x y hop
              rw [hop]
              split at h
              · rename_i sv hp
                rw [aS] at h
                have:=iR hs hc1 h
                refine ⟨fun e=> ?_,this.2⟩
                obtain ⟨b,h1,h2⟩:=n8 (glob:=C.glob) hs (hevG e) hp
                rw [hevG e] at h1 h2
                refine zK h1 ?_
                rw [← h2]
                exact this.1 e
              · have:=CK hs hc1 _ h
                exact ⟨fun e=>by have k:=this.1 e;rw [hevG e] at k;exact k,this.2⟩
            · have:=CK hs hc1 _ h
              exact ⟨fun e=>by have k:=this.1 e;rw [hevG e] at k;exact k,this.2⟩
          exact wE hc1 hc2 (fun e=>iF ih _ (key.1 e)) (fun e=>ih _ (key.2 e))
        · exact h.elim
      · exact h.elim
end
end Go.Avc
namespace Go.Avc
set_option linter.unusedVariables false
set_option linter.unusedSimpArgs false
abbrev fB:=List Nat×List Nat
def EN (ρ:Operand→SV) (hp:List Blk):Op→List Nat
  | .load _ a=>(ρ a).h1
  | .store _ a _=>(ρ a).h1
  | .indexAddr _ x _=>(ρ x).h1
  | .slice _ x _ _ _=>(ρ x).h1
  | .convert _ _ x=>(ρ x).h1
  | .sliceToArrayPointer _ x=>(ρ x).h1
  | .call c=>(match c.callee with
    | .builtin _=>c.args.toList.flatMap fun x=>(ρ x).h1
    | .value f=>pO hp 6 ((ρ f).hs++c.args.toList.flatMap fun x=>(ρ x).hs)
    | .invoke r _=>pO hp 6 ((ρ r).hs++c.args.toList.flatMap fun x=>(ρ x).hs))
  | _=> []
theorem Bt (glob:Nat→Option SV) (s:AS) (op:Op):EN (s.ev glob) s.hp op=lp glob s op:=by cases op <;>rfl
def CR.dB (A:List Nat) (n:Nat) (K:SV→List (Nat×Blk)→List Blk→Prop):CR→Prop
  | .need p c=>p∧c.dB A n K
  | .know _ c=>c.dB A n K
  | .ret sv upd news=>bif kn A n upd then K sv upd news else False
  | .ite b c1 c2=>bif b then c1.dB A n K else c2.dB A n K
  | _=>False
theorem CR.dB_dr {A:List Nat} {n:Nat} {K K':SV→List (Nat×Blk)→List Blk→Prop} (hk:∀ sv u m,K sv u m→K' sv u m):∀ c:CR,c.dB A n K→c.dr A n K'
  | .bad,h=>h
  | .need p c,h=>⟨h.1,dB_dr hk c h.2⟩
  | .know p c,h=>dB_dr hk c h
  | .ret sv u m,h=>by
    simp only [CR.dB] at h
    cases hb:kn A n u with
    | true=>rw [hb] at h;exact ⟨hb,hk _ _ _ h⟩
    | false=>rw [hb] at h;exact h.elim
  | .anyI f,h=>h
  | .anyB f,h=>h
  | .anyL f,h=>h
  | .ite true c1 c2,h=>dB_dr hk c1 h
  | .ite false c1 c2,h=>dB_dr hk c2 h
section
variable (C:Ctx)
def q6 (s:ES) (dst:Option Tmp) (A:List Nat) (K:ES→fB→Prop):OR→Prop
  | .bad=>False
  | .need p r=>p∧q6 s dst A K r
  | .know _ r=>q6 s dst A K r
  | .split b r1 r2=>bif b then q6 s dst A K r1 else q6 s dst A K r2
  | .val sv=>bE sv fun sv=>bT s dst sv fun s=>K s (A,[])
  | .newRo sv=>bE sv fun sv=>bT s dst sv fun s=>K s (A,[])
  | .new T cs=>(match s with | ⟨n,ov,tm,hp,G⟩=>bT ⟨n,ov,tm,hp++ [.cells T cs],G⟩ dst (.ptr hp.length 0) fun s=>K s (A,[hp.length]))
  | .newOwn T e l=>(match s with | ⟨n,ov,tm,hp,G⟩=>bT ⟨n,ov,tm,hp++ [.own T e l],G⟩ dst (.own hp.length) fun s=>K s (A,[hp.length]))
  | .upd b blk=>bif aH ((ba A 0 s.hp).getD b .none) then (match s with | ⟨n,ov,tm,hp,G⟩=>bT ⟨n,ov,tm,hp.set b blk,G⟩ dst .undef fun s=>K s (A,[b])) else False
  | .cpy b blk=>bif aH ((ba A 0 s.hp).getD b .none) then (match s with | ⟨n,ov,tm,hp,G⟩=>bT ⟨n,ov,tm,hp.set b blk,G⟩ dst .dead fun s=>K s (A,[b])) else False
  | .app b T e l=>bif aH ((ba A 0 s.hp).getD b .none) then (match s with | ⟨n,ov,tm,hp,G⟩=>bT ⟨n,ov,tm,hp.set b .none++ [.own T e l],G⟩ dst (.own hp.length) fun s=>K s (A,[b,hp.length])) else False
  | .frz b sv=>bif aH ((ba A 0 s.hp).getD b .none) then (match s with | ⟨n,ov,tm,hp,G⟩=>bE sv fun sv=>bT ⟨n,ov,tm,hp.set b .none,G⟩ dst sv fun s=>K s (A,[b])) else False
  | .anyB _=>False
  | .call f svs=>(C.spec f svs (ba A 0 s.hp)).dB A s.hp.length fun sv upd news=>bE sv fun sv=>match s with | ⟨n,ov,tm,hp,G⟩=>bT ⟨n,ov,tm,bc hp upd++news,G⟩ dst sv fun s=>K s (A,upd.map (·.1)++gv hp.length news)
def oo (s:ES) (dst:Option Tmp) (A:List Nat) (d:Nat) (want c:Bool) (K:ES→fB→Prop):CR→Prop
  | .need p r=>(c=true→p)∧oo s dst A d want c K r
  | .know _ r=>oo s dst A d want c K r
  | .ret sv [] [] =>bE sv fun sv=>jS s dst d want c sv fun s=>K s (A,[])
  | .ret sv upd news=>(c=true→bif kn A s.hp.length upd then bE sv fun sv=>match s.tellT d want with | ⟨n,ov,tm,hp,G⟩=>bT ⟨n,ov,tm,bc hp upd++news,G⟩ dst sv fun s=>K s (A,upd.map (·.1)++gv hp.length news) else False)∧(c=false→bT (s.tellF d want) dst .undef fun s=>K s ([],[]))
  | .ite b r1 r2=>bif b then oo s dst A d want c K r1 else oo s dst A d want c K r2
  | _=>(c=true→False)∧bT s dst .undef fun s=>K s ([],[])
def CG (s:ES) (dst:Option Tmp) (A:List Nat) (d:Nat) (want c:Bool) (K:ES→fB→Prop):OR→Prop
  | .bad=>(c=true→False)∧bT s dst .undef fun s=>K s ([],[])
  | .need p r=>(c=true→p)∧CG s dst A d want c K r
  | .know _ r=>CG s dst A d want c K r
  | .val sv=>bE sv fun sv=>jS s dst d want c sv fun s=>K s (A,[])
  | .newRo sv=>bE sv fun sv=>jS s dst d want c sv fun s=>K s (A,[])
  | .call f svs=>oo s dst A d want c K (C.spec f svs (ba A 0 s.hp))
  | r=>(c=true→q6 C (s.tellT d want) dst A K r)∧(c=false→bT (s.tellF d want) dst .undef fun s=>K s ([],[]))
def gK (all:Array Oper):List Oper→ES→List fB→(ES→List fB→Prop)→Prop
  | [],s,es,K=>K s es
  | o::rest,s,es,K=>
    match o.guard with
    | none=>(match o.op with
      | .pick c x y=>(match qJ s (s.ev C.glob) c x y with
        | some sv=>bE sv fun sv=>bT s o.dst sv fun s=>gK all rest s (es++ [([],[])]) K
        | none=>False)
      | op=>(fun A=>q6 C s o.dst A (fun s k=>gK all rest s (es++ [k]) K) (fk C.P C.zero (s.ev C.glob) (ba A 0 s.hp) op)) (EN (s.ev C.glob) s.hp op))
    | some (j,want)=>(match (all[j]?).bind (·.dst) with
      | some d=>(match zd s d want with
        | some c=>(match o.op with
          | .pick c0 x y=>(match qJ s (s.evG C.glob d want) c0 x y with
            | some sv=>bE sv fun sv=>jS s o.dst d want c sv fun s=>gK all rest s (es++ [([],[])]) K
            | none=>False)
          | op=>(fun A=>CG C s o.dst A d want c (fun s k=>gK all rest s (es++ [k]) K) (fk C.P C.zero (s.evG C.glob d want) (ba A 0 s.hp) op)) (EN (s.evG C.glob d want) s.hp op))
        | none=>False)
      | none=>False)
def M1 (all:Array Oper) (s:ES) (K:ES→Prop):Prop:=gK C all all.toList s [] fun s es=>bif ed all es then K s else False
end
def tl (a b:fB):Prop:=a=b∨a=([],[])
structure KeysLe (l m:List fB):Prop where
  len:l.length=m.length
  le:∀ (i:Nat) (a b:fB),l[i]? =some a→m[i]? =some b→tl a b
theorem KeysLe.nil:KeysLe [] [] :=⟨rfl,fun i a b h=>by simp at h⟩
theorem KeysLe.snoc {l m:List fB} (h:KeysLe l m) {a b:fB} (hab:tl a b):KeysLe (l++ [a]) (m++ [b]):=by
  refine ⟨by simp [h.len],fun i x y hx hy=> ?_⟩
  rcases Nat.lt_or_ge i l.length with hi | hi
  · rw [List.getElem?_append_left hi] at hx
    rw [List.getElem?_append_left (by rw [← h.len];exact hi)] at hy
    exact h.le i x y hx hy
  · rw [List.getElem?_append_right hi] at hx
    rw [List.getElem?_append_right (by rw [← h.len];exact hi)] at hy
    rw [← h.len] at hy
    cases hj:i-l.length with
    | zero=>rw [hj] at hx hy;simp at hx hy;subst hx;subst hy;exact hab
    | succ j=>rw [hj] at hx;simp at hx
theorem Hh {all:Array Oper} {oi oj:Oper} {ki kj ki' kj':fB} (hi:tl ki ki') (hj:tl kj kj') (h:fL all oi oj ki kj=true):fL all oi oj ki' kj'=true:=by
  unfold fL at h ⊢
  simp only [Bool.or_eq_true] at h ⊢
  rcases h with (h | h) | h
  · exact .inl (.inl h)
  · rcases hi with rfl | rfl
    · rcases hj with rfl | rfl
      · exact .inl (.inr h)
      · simp at h
    · simp at h
  · rcases hi with rfl | rfl
    · rcases hj with rfl | rfl
      · exact .inr h
      · simp at h
    · simp at h
theorem B6 {all:Array Oper} {l m:List fB} (h:KeysLe l m) (hc:ed all m=true):ed all l=true:=by
  unfold ed at hc ⊢
  simp only [Bool.and_eq_true] at hc ⊢
  refine ⟨hc.1,?_⟩
  have h2:=hc.2
  unfold uY at h2 ⊢
  rw [List.all_eq_true] at h2 ⊢
  intro j hj
  have h3:=h2 j hj
  rw [List.all_eq_true] at h3 ⊢
  intro i hi
  have h4:=h3 i hi
  split
  · rename_i oi oj ki kj e1 e2 e3 e4
    have l1:i<m.length:=by rw [← h.len];exact (List.getElem?_eq_some_iff.1 e3).1
    have l2:j<m.length:=by rw [← h.len];exact (List.getElem?_eq_some_iff.1 e4).1
    rw [e1,e2,List.getElem?_eq_getElem l1,List.getElem?_eq_getElem l2] at h4
    simp only [Bool.or_eq_true,Bool.not_eq_true'] at h4 ⊢
    rcases h4 with h4 | h4
    · left
      cases hk:fL all oi oj ki kj with
      | false=>rfl
      | true=>
        have:=Hh (h.le i _ _ e3 (List.getElem?_eq_getElem l1)) (h.le j _ _ e4 (List.getElem?_eq_getElem l2)) hk
        rw [h4] at this;cases this
    · exact .inr h4
  · rfl
section
variable {C:Ctx}
def dh (K:ES→fB→Prop) (s:AS) (k:fB):Prop:=∃ (s':ES) (k':fB),s'.Ok∧s'.as=s∧tl k k'∧K s' k'
theorem bz {s:ES} (hs:s.Ok) {dst:Option Tmp} {sv:SV} {K:ES→fB→Prop} {k:fB} (h:bT s dst sv fun s=>K s k):dh K (s.as.put dst sv) k:=by
  obtain ⟨s',h1,h2,h3,_⟩:=sa hs h
  exact ⟨s',k,h1,h2,.inl rfl,h3⟩
theorem kL {s:ES} (hs:s.Ok) {dst:Option Tmp} {d:Nat} {want c:Bool} (hc:c=aP s.as.tm d want) {sv:SV} {K:ES→fB→Prop} {k:fB} (h:jS s dst d want c sv fun s=>K s k):(c=true→dh K (s.as.put dst sv) k)∧(c=false→dh K (s.as.put dst .undef) ([],[])):=by
  obtain ⟨s',h1,h2,h3⟩:=Br hs hc h
  exact ⟨fun e=>by subst e;exact ⟨s',k,h1,h2,.inl rfl,h3⟩,fun e=>by subst e;exact ⟨s',k,h1,h2,.inr rfl,h3⟩⟩
def zC (K:ES→fB→Prop) (s:AS) (e:Eff):Prop:=dh K (s.app e) e.key
theorem jF (s:AS) (dst:Option Tmp) (sv:SV) (A:List Nat) (n:Nat):s.app ⟨dst,sv,A,[],n,[]⟩=s.put dst sv:=by
  show (⟨s.tm,bc s.hp [] ++ []⟩:AS).put dst sv=_
  rw [show bc s.hp [] ++ [] =s.hp from List.append_nil _]
theorem kX {o:Oper} {s:ES} (hs:s.Ok) {A:List Nat} {K:ES→fB→Prop} :∀ r,q6 C s o.dst A K r→gh C o A s.as (zC K s.as) r
  | .bad,h=>h
  | .need p r,h=>⟨h.1,kX hs r h.2⟩
  | .know p r,h=>kX hs r h
  | .split b r1 r2,h=>by
    cases b with
    | true=>exact ⟨fun _=>kX hs r1 h,fun e=>by cases e⟩
    | false=>exact ⟨(fun e=>by cases e),fun _=>kX hs r2 h⟩
  | .val sv,h=>by
    simp only [q6,aS] at h
    have:=bz hs h
    show dh K _ _
    rw [jF];exact this
  | .newRo sv,h=>by
    simp only [q6,aS] at h
    have:=bz hs h
    show dh K _ _
    rw [jF];exact this
  | .new T cs,h=>by
    obtain ⟨n,ov,tm,hp,G⟩:=s
    exact bz (cY hs) h
  | .newOwn T e l,h=>by
    obtain ⟨n,ov,tm,hp,G⟩:=s
    exact bz (cY hs) h
  | .upd b blk,h=>by
    obtain ⟨n,ov,tm,hp,G⟩:=s
    obtain ⟨h1,h2⟩:=iI h
    refine ⟨h1,?_⟩
    have:=bz (cY hs) h2
    show dh K ((⟨aM ov tm,bc hp [(b,blk)] ++ []⟩:AS).put o.dst .undef) _
    rw [List.append_nil]
    exact this
  | .cpy b blk,h=>by
    obtain ⟨n,ov,tm,hp,G⟩:=s
    obtain ⟨h1,h2⟩:=iI h
    refine ⟨h1,?_⟩
    have:=bz (cY hs) h2
    show dh K ((⟨aM ov tm,bc hp [(b,blk)] ++ []⟩:AS).put o.dst .dead) _
    rw [List.append_nil]
    exact this
  | .app b T e l,h=>by
    obtain ⟨n,ov,tm,hp,G⟩:=s
    obtain ⟨h1,h2⟩:=iI h
    exact ⟨h1,bz (cY hs) h2⟩
  | .frz b sv,h=>by
    obtain ⟨n,ov,tm,hp,G⟩:=s
    obtain ⟨h1,h2⟩:=iI h
    simp only [aS] at h2
    refine ⟨h1,?_⟩
    have:=bz (cY hs) h2
    show dh K ((⟨aM ov tm,bc hp [(b,.none)] ++ []⟩:AS).put o.dst sv) _
    rw [List.append_nil]
    exact this
  | .anyB f,h=>h
  | .call f svs,h=>by
    obtain ⟨n,ov,tm,hp,G⟩:=s
    refine CR.dB_dr (fun sv u m k=> ?_) _ h
    simp only [aS] at k
    exact bz (cY hs) k
theorem Lm {s:ES} (hs:s.Ok) {d:Nat} {want c:Bool} (hc:c=aP s.as.tm d want) {dst:Option Tmp} {K:ES→fB→Prop} (h:c=false→bT (s.tellF d want) dst .undef fun s=>K s ([],[])):c=false→dh K (s.as.put dst .undef) ([],[]):=fun e=>by
  obtain ⟨h1,h2⟩:=tu hs (d:=d) (want:=want) (by rw [← hc,e])
  have:=bz h1 (h e)
  rwa [h2] at this
theorem zI {b:Bool} {p:Prop} (h:bif b then p else False):b=true∧p:=by
  cases b with
  | true=>exact ⟨rfl,h⟩
  | false=>exact h.elim
theorem jQ {o:Oper} {s:ES} (hs:s.Ok) {A:List Nat} {d:Nat} {want c:Bool} (hc:c=aP s.as.tm d want) {K:ES→fB→Prop} :∀ r,oo s o.dst A d want c K r→
    (c=true→r.dr A s.hp.length fun sv upd news=>zC K s.as ⟨o.dst,sv,A,upd,s.hp.length,news⟩)∧(c=false→dh K (s.as.put o.dst .undef) ([],[]))
  | .bad,h=>⟨fun e=>h.1 e,fun _=>bz hs h.2⟩
  | .need p r,h=>⟨fun e=>⟨h.1 e,(jQ hs hc r h.2).1 e⟩,(jQ hs hc r h.2).2⟩
  | .know p r,h=>jQ hs hc r h
  | .ret sv [] [],h=>by
    simp only [oo,aS] at h
    have:=kL hs hc h
    refine ⟨fun e=>⟨rfl,?_⟩,this.2⟩
    show dh K _ _
    rw [jF];exact this.1 e
  | .ret sv (u::us) news,h=>by
    simp only [oo,aS] at h
    refine ⟨fun e=> ?_,Lm hs hc h.2⟩
    obtain ⟨h1,h2⟩:=gR hs (d:=d) (want:=want) (by rw [← hc,e])
    have h34:=h.1 e
    have ⟨h3,h4⟩:=zI h34
    refine ⟨h3,?_⟩
    generalize s.tellT d want=s' at h1 h2 h4
    obtain ⟨n,ov,tm,hp,G⟩:=s'
    have:=bz (cY h1) h4
    have e2:hp=s.hp:=congrArg AS.hp h2
    have e3:aM ov tm=s.as.tm:=congrArg AS.tm h2
    subst e2
    show dh K _ _
    simpa [ES.as,e3,AS.app,Eff.key] using this
  | .ret sv [] (u::news),h=>by
    simp only [oo,aS] at h
    refine ⟨fun e=> ?_,Lm hs hc h.2⟩
    obtain ⟨h1,h2⟩:=gR hs (d:=d) (want:=want) (by rw [← hc,e])
    have h34:=h.1 e
    have ⟨h3,h4⟩:=zI h34
    refine ⟨h3,?_⟩
    generalize s.tellT d want=s' at h1 h2 h4
    obtain ⟨n,ov,tm,hp,G⟩:=s'
    have:=bz (cY h1) h4
    have e2:hp=s.hp:=congrArg AS.hp h2
    have e3:aM ov tm=s.as.tm:=congrArg AS.tm h2
    subst e2
    show dh K _ _
    simpa [ES.as,e3,AS.app,Eff.key] using this
  | .anyI f,h=>⟨fun e=>h.1 e,fun _=>bz hs h.2⟩
  | .anyB f,h=>⟨fun e=>h.1 e,fun _=>bz hs h.2⟩
  | .anyL f,h=>⟨fun e=>h.1 e,fun _=>bz hs h.2⟩
  | .ite true r1 r2,h=>jQ hs hc r1 h
  | .ite false r1 r2,h=>jQ hs hc r2 h
theorem Nu {o:Oper} {s:ES} (hs:s.Ok) {A:List Nat} {d:Nat} {want c:Bool} (hc:c=aP s.as.tm d want) {K:ES→fB→Prop} :∀ r,CG C s o.dst A d want c K r→
    (c=true→gh C o A s.as (zC K s.as) r)∧(c=false→dh K (s.as.put o.dst .undef) ([],[])):=by
  have other:∀ r,(c=true→q6 C (s.tellT d want) o.dst A K r)∧(c=false→bT (s.tellF d want) o.dst .undef fun s=>K s ([],[]))→(c=true→gh C o A s.as (zC K s.as) r)∧(c=false→dh K (s.as.put o.dst .undef) ([],[])):=fun r h=>by
    refine ⟨fun e=> ?_,Lm hs hc h.2⟩
    obtain ⟨h1,h2⟩:=gR hs (d:=d) (want:=want) (by rw [← hc,e])
    have:=kX h1 r (h.1 e)
    rwa [h2] at this
  intro r
  induction r with
  | bad=>exact fun h=>⟨fun e=>h.1 e,fun _=>bz hs h.2⟩
  | need p r ih=>exact fun h=>⟨fun e=>⟨h.1 e,(ih h.2).1 e⟩,(ih h.2).2⟩
  | know p r ih=>exact fun h=>ih h
  | val sv=>
    intro h
    simp only [CG,aS] at h
    have:=kL hs hc h
    refine ⟨fun e=> ?_,this.2⟩
    show dh K _ _
    rw [jF];exact this.1 e
  | newRo sv=>
    intro h
    simp only [CG,aS] at h
    have:=kL hs hc h
    refine ⟨fun e=> ?_,this.2⟩
    show dh K _ _
    rw [jF];exact this.1 e
  | anyB f=>exact fun h=>other _ h
  | call f svs=>
    intro h
    exact jQ hs hc _ h
  | split b r1 r2=>exact fun h=>other _ h
  | new T cs=>exact fun h=>other _ h
  | newOwn T e l=>exact fun h=>other _ h
  | upd b blk=>exact fun h=>other _ h
  | cpy b blk=>exact fun h=>other _ h
  | app b T e l=>exact fun h=>other _ h
  | frz b sv=>exact fun h=>other _ h
theorem ns (A:List Nat) (n:Nat) {K1 K2:SV→List (Nat×Blk)→List Blk→Prop} (hk:∀ sv u m,K1 sv u m→K2 sv u m):∀ c:CR,c.dr A n K1→c.dr A n K2
  | .bad,h=>h
  | .need p c,h=>⟨h.1,ns A n hk c h.2⟩
  | .know p c,h=>ns A n hk c h
  | .ret sv u m,h=>⟨h.1,hk _ _ _ h.2⟩
  | .anyI f,h=>h
  | .anyB f,h=>h
  | .anyL f,h=>h
  | .ite true c1 c2,h=>ns A n hk c1 h
  | .ite false c1 c2,h=>ns A n hk c2 h
theorem iN {o:Oper} {A:List Nat} {s:AS} {K K':Eff→Prop} (h:∀ e,K e→K' e):∀ r,gh C o A s K r→gh C o A s K' r
  | .bad,k=>k
  | .need p r,k=>⟨k.1,iN h r k.2⟩
  | .know p r,k=>iN h r k
  | .split b r1 r2,k=>⟨fun e=>iN h r1 (k.1 e),fun e=>iN h r2 (k.2 e)⟩
  | .val sv,k=>h _ k
  | .newRo sv,k=>h _ k
  | .new T cs,k=>h _ k
  | .newOwn T e l,k=>h _ k
  | .upd b blk,k=>⟨k.1,h _ k.2⟩
  | .cpy b blk,k=>⟨k.1,h _ k.2⟩
  | .app b T e l,k=>⟨k.1,h _ k.2⟩
  | .frz b sv,k=>⟨k.1,h _ k.2⟩
  | .anyB f,k=>k
  | .call f svs,k=>ns _ _ (fun sv u m k=>h _ k) _ k
theorem Dm {o:Oper} {s:AS} {K:Eff→Prop} {c x y:Operand} {b:Bool} {A:List Nat} (h1:s.ev C.glob c= .bool b) (h:K ⟨o.dst,bif b then s.ev C.glob x else s.ev C.glob y,A,[],s.hp.length,[]⟩) (hp:List Blk):gh C o A s K (fk C.P C.zero (s.ev C.glob) hp (.pick c x y)):=by
  simp only [fk,h1,gh]
  exact ⟨fun e=>by subst e;exact h,fun e=>by subst e;exact h⟩
theorem wI {all:Array Oper} {K:ES→Prop} :∀ (l:List Oper) (s:ES) (es es':List fB),s.Ok→KeysLe es es'→gK C all l s es' (fun s es=>bif ed all es then K s else False)→
    kv C all l s.as es fun s es=>ed all es=true∧Next K s
  | [],s,es,es',hs,hle,h=>by
    simp only [gK] at h
    cases hc:ed all es' with
    | false=>rw [hc] at h;exact h.elim
    | true=>rw [hc] at h;exact ⟨B6 hle hc,s,hs,rfl,h⟩
  | o::rest,s,es,es',hs,hle,h=>by
    have ih:∀ (s':AS) (k:fB),dh (fun s k=>gK C all rest s (es'++ [k]) (fun s es=>bif ed all es then K s else False)) s' k→kv C all rest s' (es++ [k]) fun s es=>ed all es=true∧Next K s:=fun s' k ⟨s'',k',h1,h2,h3,h4⟩=>by
      have:=wI rest s'' (es++ [k]) (es'++ [k']) h1 (hle.snoc h3) h4
      rwa [h2] at this
    unfold gK at h
    show j5 all o s.as _ _
    unfold j5
    have hev:=s.ev_eq hs C.glob
    split at h
    · rename_i hg
      rw [hg]
      show gh C o (lp C.glob s.as o.op) s.as (fun e=>kv C all rest (s.as.app e) (es++ [e.key]) _) (fk C.P C.zero (s.as.ev C.glob) (ba (lp C.glob s.as o.op) 0 s.as.hp) o.op)
      refine iN (fun e k=>ih _ _ k) _ ?_
      split at h
      · rename_i c x y hop
        rw [hop]
        split at h
        · rename_i sv hp
          obtain ⟨b,h1,h2⟩:=n8 (glob:=C.glob) hs hev hp
          rw [hev] at h1 h2
          refine Dm h1 ?_ _
          rw [← h2,jF]
          rw [aS] at h
          exact bz (K:=fun s k=>gK C all rest s (es'++ [k]) _) hs h
        · exact h.elim
      · rename_i hop
        rw [hev,show s.hp=s.as.hp from rfl,Bt] at h
        exact kX hs _ h
    · rename_i j want hg
      rw [hg]
      simp only [qq]
      split at h
      · rename_i d hd
        rw [hd]
        split at h
        · rename_i c hc
          obtain ⟨hc1,hc2⟩:=B0 hs hc
          have key:(c=true→gh C o (lp C.glob s.as o.op) s.as (zC (fun s k=>gK C all rest s (es'++ [k]) (fun s es=>bif ed all es then K s else False)) s.as) (fk C.P C.zero (s.as.ev C.glob) (ba (lp C.glob s.as o.op) 0 s.as.hp) o.op))∧
              (c=false→dh (fun s k=>gK C all rest s (es'++ [k]) (fun s es=>bif ed all es then K s else False)) (s.as.put o.dst .undef) ([],[])):=by
            have hevG:c=true→s.evG C.glob d want=s.as.ev C.glob:=fun e=>s.evG_eq hs C.glob (by rw [← hc1,e])
            split at h
            · rename_i c0 x y hop
              rw [hop]
              split at h
              · rename_i sv hp
                rw [aS] at h
                have:=kL (K:=fun s k=>gK C all rest s (es'++ [k]) _) (k:=([],[])) hs hc1 h
                refine ⟨fun e=> ?_,this.2⟩
                obtain ⟨b,h1,h2⟩:=n8 (glob:=C.glob) hs (hevG e) hp
                rw [hevG e] at h1 h2
                refine Dm h1 ?_ _
                show dh _ _ _
                rw [← h2,jF]
                exact this.1 e
              · exact h.elim
            · rename_i hop
              have:=Nu hs hc1 _ h
              refine ⟨fun e=> ?_,this.2⟩
              have k:=this.1 e
              rw [hevG e,show s.hp=s.as.hp from rfl,Bt] at k
              exact k
          exact wE hc1 hc2 (fun e=>iN (fun e k=>ih _ _ k) _ (key.1 e)) (fun e=>ih _ _ (key.2 e))
        · exact h.elim
      · exact h.elim
theorem IQ {all:Array Oper} {s:ES} (hs:s.Ok) {K:ES→Prop} (h:M1 C all s K):Je C all s.as (Next K):=wI _ s [] [] hs .nil h
end
end Go.Avc
namespace Go.Avc
set_option linter.unusedVariables false
set_option linter.unusedSimpArgs false
inductive Dat where
  | i (n:Int) | b (b:Bool) | s (l:List UInt8) | r (l:List (List CD)) | li (l:List Int) | lb (l:List Bool)
inductive Pat where
  | skip
  | int (k:IntKind)
  | bool
  | str
  | rd (e:List CSh)
  | own (i:Nat)
  | ptr (i c:Nat)
  | nilp
  | nilf
  | nils
  | agg (ps:List Pat)
  | arrI (n:Nat) (k:IntKind)
  | arrB (n:Nat)
  | tup (ps:List Pat)
  | fn (f:FuncId) (ps:List Pat)
  | fb (f:FuncId) (ps:List Pat)
  | nili
  | iface (t:TypeId) (p:Pat)
inductive BPat where
  | none
  | cells (T:TypeId) (ps:List Pat)
  | own (T:TypeId) (e:List CSh)
mutual
def JB:Pat→(SV→List Dat→Prop)→Prop
  | .skip,F=>F .dead []
  | .int k,F=>∀ n,F (.int k n) [.i n]
  | .bool,F=>∀ b,F (.bool b) [.b b]
  | .str,F=>∀ l,F (.str l) [.s l]
  | .rd e,F=>∀ l,F (.rd e l) [.r l]
  | .own i,F=>F (.own i) []
  | .ptr i c,F=>F (.ptr i c) []
  | .nilp,F=>F .nilp []
  | .nilf,F=>F .nilf []
  | .nils,F=>F .nils []
  | .agg ps,F=>allPs ps fun svs ds=>F (.agg svs) ds
  | .arrI n k,F=>∀ l,F (.arrI n k l) [.li l]
  | .arrB n,F=>∀ l,F (.arrB n l) [.lb l]
  | .tup ps,F=>allPs ps fun svs ds=>F (.tup svs) ds
  | .fn f ps,F=>allPs ps fun svs ds=>F (.fn f svs) ds
  | .fb f ps,F=>allPs ps fun svs ds=>F (.fb f svs) ds
  | .nili,F=>F .nili []
  | .iface t p,F=>JB p fun sv ds=>F (.iface t sv) ds
def allPs:List Pat→(List SV→List Dat→Prop)→Prop
  | [],F=>F [] []
  | p::ps,F=>JB p fun sv d=>allPs ps fun svs ds=>F (sv::svs) (d++ds)
end
def Qz:BPat→(Blk→List Dat→Prop)→Prop
  | .none,F=>F .none []
  | .cells T ps,F=>allPs ps fun svs ds=>F (.cells T svs) ds
  | .own T e,F=>∀ l,F (.own T e l) [.r l]
def uh:List BPat→(List Blk→List Dat→Prop)→Prop
  | [],F=>F [] []
  | p::ps,F=>Qz p fun x d=>uh ps fun xs ds=>F (x::xs) (d++ds)
mutual
def br:Pat→List Dat→SV×List Dat
  | .skip,ds=>(.dead,ds)
  | .int k,.i n::ds=>(.int k n,ds)
  | .bool,.b b::ds=>(.bool b,ds)
  | .str,.s l::ds=>(.str l,ds)
  | .rd e,.r l::ds=>(.rd e l,ds)
  | .own i,ds=>(.own i,ds)
  | .ptr i c,ds=>(.ptr i c,ds)
  | .nilp,ds=>(.nilp,ds)
  | .nilf,ds=>(.nilf,ds)
  | .nils,ds=>(.nils,ds)
  | .agg ps,ds=>match instPs ps ds with | (svs,ds)=>(.agg svs,ds)
  | .arrI n k,.li l::ds=>(.arrI n k l,ds)
  | .arrB n,.lb l::ds=>(.arrB n l,ds)
  | .tup ps,ds=>match instPs ps ds with | (svs,ds)=>(.tup svs,ds)
  | .fn f ps,ds=>match instPs ps ds with | (svs,ds)=>(.fn f svs,ds)
  | .fb f ps,ds=>match instPs ps ds with | (svs,ds)=>(.fb f svs,ds)
  | .nili,ds=>(.nili,ds)
  | .iface t p,ds=>match br p ds with | (sv,ds)=>(.iface t sv,ds)
  | _,ds=>(.dead,ds)
def instPs:List Pat→List Dat→List SV×List Dat
  | [],ds=>([],ds)
  | p::ps,ds=>match br p ds with | (sv,ds)=>match instPs ps ds with | (svs,ds)=>(sv::svs,ds)
end
def kM:BPat→List Dat→Blk×List Dat
  | .none,ds=>(.none,ds)
  | .cells T ps,ds=>match instPs ps ds with | (svs,ds)=>(.cells T svs,ds)
  | .own T e,.r l::ds=>(.own T e l,ds)
  | _,ds=>(.none,ds)
def gd:List BPat→List Dat→List Blk×List Dat
  | [],ds=>([],ds)
  | p::ps,ds=>match kM p ds with | (x,ds)=>match gd ps ds with | (xs,ds)=>(x::xs,ds)
mutual
def GQ:Pat→List Dat→(List Dat→Prop)→Prop
  | .int _,.i _::ds,K=>K ds
  | .bool,.b _::ds,K=>K ds
  | .str,.s l::ds,K=>l.length≤9223372036854775807→K ds
  | .rd _,.r l::ds,K=>l.length≤9223372036854775807→K ds
  | .agg ps,ds,K=>impPs ps ds K
  | .arrI n _,.li l::ds,K=>l.length=n→K ds
  | .arrB n,.lb l::ds,K=>l.length=n→K ds
  | .tup ps,ds,K=>impPs ps ds K
  | .fn _ ps,ds,K=>impPs ps ds K
  | .fb _ ps,ds,K=>impPs ps ds K
  | .iface _ p,ds,K=>GQ p ds K
  | _,ds,K=>K ds
def impPs:List Pat→List Dat→(List Dat→Prop)→Prop
  | [],ds,K=>K ds
  | p::ps,ds,K=>GQ p ds fun ds=>impPs ps ds K
end
def UG:BPat→List Dat→(List Dat→Prop)→Prop
  | .none,ds,K=>K ds
  | .cells _ ps,ds,K=>impPs ps ds K
  | .own _ _,.r l::ds,K=>l.length≤9223372036854775807→K ds
  | .own _ _,ds,K=>K ds
def oM (hs:List Nat):Nat→List BPat→List Dat→(List Dat→Prop)→Prop
  | _,[],ds,K=>K ds
  | i,p::ps,ds,K=>bif hs.contains i then UG p ds fun ds=>oM hs (i+1) ps ds K else oM hs (i+1) ps (kM p ds).2 K
structure MS where
  ρ:List (Nat×Nat)
  β:List (Nat×Nat)
  fz:List Nat
  nw:List Nat
def bA:List Nat→Nat→Bool
  | [],_=>false
  | a::l,b=>bif Nat.beq a b then true else bA l b
def cf:List (Nat×Nat)→Nat→Option Nat
  | [],_=>none
  | (b,i)::l,j=>bif Nat.beq i j then some b else cf l j
def dW:List (Nat×Nat)→Nat→Option Nat
  | [],_=>none
  | (b,i)::l,c=>bif Nat.beq b c then some i else dW l c
def MS.bind (m:MS) (b i:Nat):Option MS:=
  match m with
  | ⟨ρ,β,fz,nw⟩=>match cf ρ i,dW β b with
    | some b',some i'=>bif Nat.beq b b' then (bif Nat.beq i i' then some ⟨ρ,β,fz,nw⟩ else none) else none
    | none,none=>bif bA nw i then none else some ⟨(b,i)::ρ,(b,i)::β,fz,nw⟩
    | _,_=>none
def MS.freeze (m:MS) (b:Nat):MS:=match m with | ⟨ρ,β,fz,nw⟩=>bif bA fz b then ⟨ρ,β,fz,nw⟩ else ⟨ρ,β,b::fz,nw⟩
def MS.new (m:MS) (i:Nat):Option MS:=
  match m with
  | ⟨ρ,β,fz,nw⟩=>match cf ρ i with
    | none=>bif bA nw i then none else some ⟨ρ,β,fz,i::nw⟩
    | _=>none
section
variable (hp:List Blk)
def iJ (e:List CSh) (m:MS):SV→Option (SV×List Dat×MS)
  | .rd e' l=>bif CSh.beqs e e' then some (.rd e l,[.r l],m) else none
  | .nils=>some (.rd e [],[.r []],m)
  | .e0=>some (.rd e [],[.r []],m)
  | .own b=>(match hp.getD b .none with
    | .own _ e' l=>bif CSh.beqs e e' then some (.rd e l,[.r l],m.freeze b) else none
    | _=>none)
  | .win b c N lo n=>(match hp.getD b .none with
    | .cells _ cs=>(match cV cs c with
      | some (_,.arrI N' k l::_)=>bif Nat.beq N' N then (bif CSh.beqs e [.int k] then some (.rd e (((l.drop lo).take n).map fun x=> [.int x]),[.r (((l.drop lo).take n).map fun x=> [.int x])],m.freeze b) else none) else none
      | _=>none)
    | _=>none)
  | _=>none
def iP (e:List CSh):List SV→MS→Option (List (List CD)×MS)
  | [],m=>some ([],m)
  | sv::svs,m=>(match iJ hp e m sv with
    | some (.rd _ l,_,m)=>(match iP e svs m with | some (rows,m)=>some ([.sl l] ::rows,m) | none=>none)
    | _=>none)
def iX (e:List CSh) (m:MS) (sv:SV):Option (SV×List Dat×MS):=
  match sv with
  | .sls svs=>(match e with
    | [.sl e1] =>(match iP hp e1 svs m with | some (rows,m)=>some (.rd e rows,[.r rows],m) | none=>none)
    | _=>none)
  | sv=>iJ hp e m sv
mutual
def conv:Pat→SV→MS→Option (SV×List Dat×MS)
  | .skip,sv,m=>(match sv with | .arrI .. =>none | .arrB .. =>none | _=>some (.dead,[],m))
  | .int k,sv,m=>(match sv with | .int k' n=>if k'=k then some (.int k n,[.i n],m) else none | _=>none)
  | .bool,sv,m=>(match sv with | .bool b=>some (.bool b,[.b b],m) | _=>none)
  | .str,sv,m=>(match sv with | .str l=>some (.str l,[.s l],m) | _=>none)
  | .rd e,sv,m=>iX hp e m sv
  | .own i,sv,m=>(match sv with
    | .own b=>(match m.bind b i with | some m=>some (.own i,[],m) | none=>none)
    | .nils=>(match m.new i with | some m=>some (.own i,[],m) | none=>none)
    | _=>none)
  | .ptr i c,sv,m=>(match sv with
    | .ptr b c'=>bif Nat.beq c c' then (match m.bind b i with | some m=>some (.ptr i c,[],m) | none=>none) else none
    | _=>none)
  | .nilp,sv,m=>(match sv with | .nilp=>some (.nilp,[],m) | _=>none)
  | .nilf,sv,m=>(match sv with | .nilf=>some (.nilf,[],m) | _=>none)
  | .nils,sv,m=>(match sv with | .nils=>some (.nils,[],m) | _=>none)
  | .agg ps,sv,m=>(match sv with | .agg cs=>(match convs ps cs m with | some (svs,ds,m)=>some (.agg svs,ds,m) | none=>none) | _=>none)
  | .arrI n k,sv,m=>(match sv with | .arrI n' k' l=>if k'=k then (bif Nat.beq n n' then some (.arrI n k l,[.li l],m) else none) else none | _=>none)
  | .arrB n,sv,m=>(match sv with | .arrB n' l=>bif Nat.beq n n' then some (.arrB n l,[.lb l],m) else none | _=>none)
  | .tup ps,sv,m=>(match sv with | .tup cs=>(match convs ps cs m with | some (svs,ds,m)=>some (.tup svs,ds,m) | none=>none) | _=>none)
  | .fn f ps,sv,m=>(match sv with | .fn f' cs=>bif Nat.beq f f' then (match convs ps cs m with | some (svs,ds,m)=>some (.fn f svs,ds,m) | none=>none) else none | _=>none)
  | .fb f ps,sv,m=>(match sv with | .fb f' cs=>bif Nat.beq f f' then (match convs ps cs m with | some (svs,ds,m)=>some (.fb f svs,ds,m) | none=>none) else none | _=>none)
  | .nili,sv,m=>(match sv with | .nili=>some (.nili,[],m) | _=>none)
  | .iface t p,sv,m=>(match sv with | .iface t' v=>bif Nat.beq t t' then (match conv p v m with | some (sv,ds,m)=>some (.iface t sv,ds,m) | none=>none) else none | _=>none)
def convs:List Pat→List SV→MS→Option (List SV×List Dat×MS)
  | [],svs,m=>(match svs with | [] =>some ([],[],m) | _=>none)
  | p::ps,svs,m=>(match svs with
    | sv::svs=>(match conv p sv m with
      | some (sv,d,m)=>(match convs ps svs m with | some (svs,ds,m)=>some (sv::svs,d++ds,m) | none=>none)
      | none=>none)
    | [] =>none)
end
def fp (get:Nat→SV):List Pat→Nat→MS→Option (List SV×List Dat×MS)
  | [],_,m=>some ([],[],m)
  | .skip::ps,t,m=>(match fp get ps (t+1) m with | some (svs,ds,m)=>some (.dead::svs,ds,m) | none=>none)
  | p::ps,t,m=>(match conv hp p (get t) m with
    | some (sv,d,m)=>(match fp get ps (t+1) m with | some (svs,ds,m)=>some (sv::svs,d++ds,m) | none=>none)
    | none=>none)
def mh (i:Nat) (m:MS) (p:BPat):Option (Blk×List Dat×MS):=
  match cf m.ρ i with
  | some b=>(match p with
    | .none=>some (.none,[],m)
    | .cells T ps=>(match hp.getD b .none with
      | .cells T' cs=>bif Nat.beq T' T then (match convs hp ps cs m with | some (svs,ds,m)=>some (.cells T svs,ds,m) | none=>none) else none
      | _=>none)
    | .own T e=>(match hp.getD b .none with
      | .own T' e' l=>bif Nat.beq T' T then (bif CSh.beqs e e' then some (.own T e l,[.r l],m) else none) else none
      | _=>none))
  | none=>(match p with
    | .none=>some (.none,[],m)
    | .own T e=>bif bA m.nw i then some (.own T e [],[.r []],m) else none
    | _=>none)
def dp:List BPat→Nat→MS→Option (List Blk×List Dat×MS)
  | [],_,m=>some ([],[],m)
  | p::ps,i,m=>(match mh hp i m p with
    | some (x,d,m)=>(match dp ps (i+1) m with | some (xs,ds,m)=>some (x::xs,d++ds,m) | none=>none)
    | none=>none)
end
def gJ:Nat→List (Nat×Nat)
  | 0=> []
  | n+1=>(n,n)::gJ n
def apart:List Nat→List (Nat×Nat)→Bool
  | [],_=>true
  | b::l,ρ=>match dW ρ b with | none=>apart l ρ | some _=>false
def tK (n:Nat) (m:MS):List (Nat×Nat)→Bool
  | [] =>true
  | (b,i)::l=>Nat.blt i n&&tK n m l
def jZ (n:Nat):List Nat→Bool
  | [] =>true
  | b::l=>Nat.blt b n&&jZ n l
def pk:Nat→Nat→List BPat→List (Nat×Nat)
  | _,0,_=> []
  | _,_,[] => []
  | i,k+1,p::ps=>match p with | .none=>pk (i+1) k ps | _=>(i,i)::pk (i+1) k ps
def MS.fine (n:Nat) (m:MS):Bool:=apart m.fz m.β&&(tK n m m.ρ&&jZ n m.nw)
def sY (n0:Nat) (hp:List Blk) (ps:List Pat) (svs:List SV) (bps:List BPat):Option (List SV×List Blk×List Dat×MS):=
  match convs hp ps svs ⟨gJ n0,pk 0 n0 bps,[],[]⟩ with
  | some (svs',ds,m)=>(match dp hp bps 0 m with
    | some (hp',ds',m)=>bif Nat.ble n0 bps.length&&m.fine bps.length then some (svs',hp',ds++ds',m) else none
    | none=>none)
  | none=>none
def Fb (n0:Nat) (hp:List Blk) (get:Nat→SV) (ps:List Pat) (bps:List BPat):Option (List SV×List Blk×List Dat×MS):=
  match fp hp get ps 0 ⟨gJ n0,pk 0 n0 bps,[],[]⟩ with
  | some (svs',ds,m)=>(match dp hp bps 0 m with
    | some (hp',ds',m)=>bif Nat.ble n0 bps.length&&m.fine bps.length then some (svs',hp',ds++ds',m) else none
    | none=>none)
  | none=>none
theorem oR {hp:List Blk} {e:List CSh} {m m':MS} {sv sv':SV} {ds:List Dat} (h:iJ hp e m sv=some (sv',ds,m')):∃ l,sv'= .rd e l∧ds= [.r l] :=by
  unfold iJ at h
  split at h
  · rename_i e' l
    cases hb:CSh.beqs e e' <;>rw [hb] at h <;>cases h
    exact ⟨_,rfl,rfl⟩
  · cases h;exact ⟨_,rfl,rfl⟩
  · cases h;exact ⟨_,rfl,rfl⟩
  · split at h
    · rename_i e' l _
      cases hb:CSh.beqs e e' <;>rw [hb] at h <;>cases h
      exact ⟨_,rfl,rfl⟩
    · cases h
  · split at h
    · split at h
      · rename_i N _ _ _ N' k l _ _
        revert h
        cases hb:Nat.beq N' _ <;>intro h
        · cases h
        · simp only [cond_true] at h
          revert h
          cases hb2:CSh.beqs e [.int k] <;>intro h
          · cases h
          · cases h;exact ⟨_,rfl,rfl⟩
      · cases h
    · cases h
  · cases h
theorem zV {hp:List Blk} {e:List CSh} {m m':MS} {sv sv':SV} {ds:List Dat} (h:iX hp e m sv=some (sv',ds,m')):∃ l,sv'= .rd e l∧ds= [.r l] :=by
  unfold iX at h
  split at h
  · split at h
    · split at h
      · cases h;exact ⟨_,rfl,rfl⟩
      · cases h
    · cases h
  · exact oR h
mutual
theorem om {hp:List Blk} :∀ {p:Pat} {sv sv':SV} {m m':MS} {ds:List Dat},conv hp p sv m=some (sv',ds,m')→(∀ F,JB p F→F sv' ds)∧∀ rest,br p (ds++rest)=(sv',rest)
  | .skip,sv,sv',m,m',ds,h=>by
    simp only [conv] at h
    split at h
    · cases h
    · cases h
    · cases h;exact ⟨fun F hF=>hF,fun rest=>rfl⟩
  | .int k,sv,sv',m,m',ds,h=>by
    simp only [conv] at h
    split at h
    · split at h
      · cases h;exact ⟨fun F hF=>hF _,fun rest=>rfl⟩
      · cases h
    · cases h
  | .bool,sv,sv',m,m',ds,h=>by
    simp only [conv] at h
    split at h
    · cases h;exact ⟨fun F hF=>hF _,fun rest=>rfl⟩
    · cases h
  | .str,sv,sv',m,m',ds,h=>by
    simp only [conv] at h
    split at h
    · cases h;exact ⟨fun F hF=>hF _,fun rest=>rfl⟩
    · cases h
  | .rd e,sv,sv',m,m',ds,h=>by
    simp only [conv] at h
    have:∃ l,sv'= .rd e l∧ds= [.r l] :=zV h
    obtain ⟨l,rfl,rfl⟩:=this
    exact ⟨fun F hF=>hF _,fun rest=>rfl⟩
  | .own i,sv,sv',m,m',ds,h=>by
    simp only [conv] at h
    split at h
    · split at h
      · cases h;exact ⟨fun F hF=>hF,fun rest=>rfl⟩
      · cases h
    · split at h
      · cases h;exact ⟨fun F hF=>hF,fun rest=>rfl⟩
      · cases h
    · cases h
  | .ptr i c,sv,sv',m,m',ds,h=>by
    simp only [conv] at h
    split at h
    · rename_i b c'
      cases hb:Nat.beq c c' <;>rw [hb] at h
      · cases h
      · simp only [cond_true] at h
        split at h
        · cases h;exact ⟨fun F hF=>hF,fun rest=>rfl⟩
        · cases h
    · cases h
  | .nilp,sv,sv',m,m',ds,h=>by
    simp only [conv] at h
    split at h
    · cases h;exact ⟨fun F hF=>hF,fun rest=>rfl⟩
    · cases h
  | .nilf,sv,sv',m,m',ds,h=>by
    simp only [conv] at h
    split at h
    · cases h;exact ⟨fun F hF=>hF,fun rest=>rfl⟩
    · cases h
  | .nils,sv,sv',m,m',ds,h=>by
    simp only [conv] at h
    split at h
    · cases h;exact ⟨fun F hF=>hF,fun rest=>rfl⟩
    · cases h
  | .agg ps,sv,sv',m,m',ds,h=>by
    simp only [conv] at h
    split at h
    · split at h
      · rename_i svs ds' m1 hc
        cases h
        obtain ⟨h1,h2⟩:=convs_all hc
        exact ⟨fun F hF=>h1 _ hF,fun rest=>by simp only [br,h2 rest]⟩
      · cases h
    · cases h
  | .arrI n k,sv,sv',m,m',ds,h=>by
    simp only [conv] at h
    split at h
    · split at h
      · rename_i n' k' l hk
        cases hb:Nat.beq n n' <;>rw [hb] at h <;>cases h
        exact ⟨fun F hF=>hF _,fun rest=>rfl⟩
      · cases h
    · cases h
  | .arrB n,sv,sv',m,m',ds,h=>by
    simp only [conv] at h
    split at h
    · rename_i n' l
      cases hb:Nat.beq n n' <;>rw [hb] at h <;>cases h
      exact ⟨fun F hF=>hF _,fun rest=>rfl⟩
    · cases h
  | .tup ps,sv,sv',m,m',ds,h=>by
    simp only [conv] at h
    split at h
    · split at h
      · rename_i svs ds' m1 hc
        cases h
        obtain ⟨h1,h2⟩:=convs_all hc
        exact ⟨fun F hF=>h1 _ hF,fun rest=>by simp only [br,h2 rest]⟩
      · cases h
    · cases h
  | .fn f ps,sv,sv',m,m',ds,h=>by
    simp only [conv] at h
    split at h
    · rename_i f' cs
      cases hb:Nat.beq f f' <;>rw [hb] at h
      · cases h
      · simp only [cond_true] at h
        split at h
        · rename_i svs ds' m1 hc
          cases h
          obtain ⟨h1,h2⟩:=convs_all hc
          exact ⟨fun F hF=>h1 _ hF,fun rest=>by simp only [br,h2 rest]⟩
        · cases h
    · cases h
  | .fb f ps,sv,sv',m,m',ds,h=>by
    simp only [conv] at h
    split at h
    · rename_i f' cs
      cases hb:Nat.beq f f' <;>rw [hb] at h
      · cases h
      · simp only [cond_true] at h
        split at h
        · rename_i svs ds' m1 hc
          cases h
          obtain ⟨h1,h2⟩:=convs_all hc
          exact ⟨fun F hF=>h1 _ hF,fun rest=>by simp only [br,h2 rest]⟩
        · cases h
    · cases h
  | .nili,sv,sv',m,m',ds,h=>by
    simp only [conv] at h
    split at h
    · cases h;exact ⟨fun F hF=>hF,fun rest=>rfl⟩
    · cases h
  | .iface t p,sv,sv',m,m',ds,h=>by
    simp only [conv] at h
    split at h
    · rename_i t' v
      cases hb:Nat.beq t t' <;>rw [hb] at h
      · cases h
      · simp only [cond_true] at h
        split at h
        · rename_i sv1 ds' m1 hc
          cases h
          obtain ⟨h1,h2⟩:=om hc
          exact ⟨fun F hF=>h1 _ hF,fun rest=>by simp only [br,h2 rest]⟩
        · cases h
    · cases h
theorem convs_all {hp:List Blk} :∀ {ps:List Pat} {svs svs':List SV} {m m':MS} {ds:List Dat},convs hp ps svs m=some (svs',ds,m')→(∀ F,allPs ps F→F svs' ds)∧∀ rest,instPs ps (ds++rest)=(svs',rest)
  | [],svs,svs',m,m',ds,h=>by
    simp only [convs] at h
    split at h
    · cases h;exact ⟨fun F hF=>hF,fun rest=>rfl⟩
    · cases h
  | p::ps,svs,svs',m,m',ds,h=>by
    simp only [convs] at h
    split at h
    · split at h
      · rename_i sv1 d m1 h1
        split at h
        · rename_i svs2 ds2 m2 h2
          cases h
          obtain ⟨a1,a2⟩:=om h1
          obtain ⟨b1,b2⟩:=convs_all h2
          refine ⟨fun F hF=>b1 _ (a1 _ hF),fun rest=> ?_⟩
          simp only [instPs,List.append_assoc,a2,b2]
        · cases h
      · cases h
    · cases h
end
theorem mw {hp:List Blk} {get:Nat→SV} :∀ {ps:List Pat} {t:Nat} {svs':List SV} {m m':MS} {ds:List Dat},fp hp get ps t m=some (svs',ds,m')→(∀ F,allPs ps F→F svs' ds)∧∀ rest,instPs ps (ds++rest)=(svs',rest)
  | [],t,svs',m,m',ds,h=>by
    simp only [fp] at h
    cases h;exact ⟨fun F hF=>hF,fun rest=>rfl⟩
  | p::ps,t,svs',m,m',ds,h=>by
    have gen:(match conv hp p (get t) m with
        | some (sv,d,m)=>(match fp hp get ps (t+1) m with | some (svs,ds,m)=>some (sv::svs,d++ds,m) | none=>none)
        | none=>none)=some (svs',ds,m')→(∀ F,allPs (p::ps) F→F svs' ds)∧∀ rest,instPs (p::ps) (ds++rest)=(svs',rest):=fun h=>by
      split at h
      · rename_i sv1 d m1 h1
        split at h
        · rename_i svs2 ds2 m2 h2
          cases h
          obtain ⟨a1,a2⟩:=om h1
          obtain ⟨b1,b2⟩:=mw h2
          refine ⟨fun F hF=>b1 _ (a1 _ hF),fun rest=> ?_⟩
          simp only [instPs,List.append_assoc,a2,b2]
        · cases h
      · cases h
    cases p with
    | skip=>
      simp only [fp] at h
      split at h
      · rename_i svs2 ds2 m2 h2
        cases h
        obtain ⟨b1,b2⟩:=mw h2
        exact ⟨fun F hF=>b1 _ hF,fun rest=>by simp only [instPs,br,b2]⟩
      · cases h
    | _=>exact gen h
theorem Iy {hp:List Blk} {i:Nat} {m m':MS} {p:BPat} {x:Blk} {ds:List Dat} (h:mh hp i m p=some (x,ds,m')):(∀ F,Qz p F→F x ds)∧∀ rest,kM p (ds++rest)=(x,rest):=by
  unfold mh at h
  split at h
  · cases p with
    | none=>cases h;exact ⟨fun F hF=>hF,fun rest=>rfl⟩
    | cells T ps=>
      simp only at h
      split at h
      · rename_i T' cs _
        cases hb:Nat.beq T' T <;>rw [hb] at h
        · cases h
        · simp only [cond_true] at h
          split at h
          · rename_i svs ds' m1 hc
            cases h
            obtain ⟨h1,h2⟩:=convs_all hc
            exact ⟨fun F hF=>h1 _ hF,fun rest=>by simp only [kM,h2 rest]⟩
          · cases h
      · cases h
    | own T e=>
      simp only at h
      split at h
      · rename_i T' e' l _
        cases hb:Nat.beq T' T <;>rw [hb] at h
        · cases h
        · simp only [cond_true] at h
          cases hb2:CSh.beqs e e' <;>rw [hb2] at h <;>cases h
          exact ⟨fun F hF=>hF _,fun rest=>rfl⟩
      · cases h
  · cases p with
    | none=>cases h;exact ⟨fun F hF=>hF,fun rest=>rfl⟩
    | cells T ps=>cases h
    | own T e=>
      simp only at h
      cases hb:bA m.nw i <;>rw [hb] at h <;>cases h
      exact ⟨fun F hF=>hF _,fun rest=>rfl⟩
theorem eS {hp:List Blk} :∀ {ps:List BPat} {i:Nat} {m m':MS} {xs:List Blk} {ds:List Dat},dp hp ps i m=some (xs,ds,m')→(∀ F,uh ps F→F xs ds)∧(∀ rest,gd ps (ds++rest)=(xs,rest))∧xs.length=ps.length
  | [],i,m,m',xs,ds,h=>by
    simp only [dp] at h
    cases h;exact ⟨fun F hF=>hF,fun rest=>rfl,rfl⟩
  | p::ps,i,m,m',xs,ds,h=>by
    simp only [dp] at h
    split at h
    · rename_i x d m1 h1
      split at h
      · rename_i xs2 ds2 m2 h2
        cases h
        obtain ⟨a1,a2⟩:=Iy h1
        obtain ⟨b1,b2,b3⟩:=eS h2
        refine ⟨fun F hF=>b1 _ (a1 _ hF),fun rest=> ?_,by simp [b3]⟩
        simp only [gd,List.append_assoc,a2,b2]
      · cases h
    · cases h
theorem wq {n0:Nat} {hp hp':List Blk} {ps:List Pat} {svs svs':List SV} {bps:List BPat} {ds:List Dat} {m:MS} (h:sY n0 hp ps svs bps=some (svs',hp',ds,m)):
    ∃ ds1 ds2 m1,ds=ds1++ds2∧convs hp ps svs ⟨gJ n0,pk 0 n0 bps,[],[]⟩=some (svs',ds1,m1)∧dp hp bps 0 m1=some (hp',ds2,m)∧n0≤bps.length∧m.fine bps.length=true:=by
  unfold sY at h
  split at h
  · rename_i s1 d1 m1 h1
    split at h
    · rename_i x2 d2 m2 h2
      cases hb:(Nat.ble n0 bps.length&&m2.fine bps.length) <;>rw [hb] at h <;>cases h
      simp only [Bool.and_eq_true,Nat.ble_eq] at hb
      exact ⟨d1,d2,m1,rfl,h1,h2,hb.1,hb.2⟩
    · cases h
  · cases h
theorem IT {n0:Nat} {hp hp':List Blk} {ps:List Pat} {get:Nat→SV} {svs':List SV} {bps:List BPat} {ds:List Dat} {m:MS} (h:Fb n0 hp get ps bps=some (svs',hp',ds,m)):
    ∃ ds1 ds2 m1,ds=ds1++ds2∧fp hp get ps 0 ⟨gJ n0,pk 0 n0 bps,[],[]⟩=some (svs',ds1,m1)∧dp hp bps 0 m1=some (hp',ds2,m)∧n0≤bps.length∧m.fine bps.length=true:=by
  unfold Fb at h
  split at h
  · rename_i s1 d1 m1 h1
    split at h
    · rename_i x2 d2 m2 h2
      cases hb:(Nat.ble n0 bps.length&&m2.fine bps.length) <;>rw [hb] at h <;>cases h
      simp only [Bool.and_eq_true,Nat.ble_eq] at hb
      exact ⟨d1,d2,m1,rfl,h1,h2,hb.1,hb.2⟩
    · cases h
  · cases h
end Go.Avc
