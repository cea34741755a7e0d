/-
 AVC, part YS: what is told by a pattern is so.
-/
import Derived.Test.YteiecapbaeajdaaGreatDoorJ3
import Derived.ScopeJumps
import Derived.Test.YteiecapbaeajdaaGreatDoorProg
import Derived.KernelRfl
open Nat renaming beq→asM,beq_refl→awl,zero_le→asq,eq_zero_or_pos→ati,le_refl→ar5,zero_add→aeE,lt_or_ge→atI,lt_of_le_of_lt→awq,ble→asN,le_add_right→agG,add_sub_cancel_left→agj
open List renaming length_eq_zero_iff→awm,mem_singleton→awn,mem_append→ads,mem_cons→atH,mem_cons_of_mem→awo,mem_cons_self→awp,append_nil→aiz,replicate→ab0,mem_append_left→atC,mem_append_right→awr,not_mem_nil→awt,length_cons→adC,length_nil→asi
open Array renaming getElem?_eq_some_iff→asu
open Bool renaming or_eq_true→as9,or_eq_false_iff→ate,not_eq_true'→atf,not_eq_false'→aws
namespace Go.Avc
set_option linter.unusedVariables false
set_option linter.unusedSimpArgs false
section
variable (Im:Nat→Prop) (ι:Nat→Option Value) (hp:List Blk) (m:MS)
def jr:Nat→Prop:=fun r=>Im r∨∃ b v,bW m.fz b=true∧ι b=some v∧aM (hp.getD b .none)=true∧aB v=some r
def ιW:Nat→Option Value:=fun i=>match cS m.ρ i with | some b=>ι b | none=>if bW m.nw i=true then some (.slice none 0 0) else none
end
structure MS.le (m m':MS):Prop where
 rho:∀ b i,cS m.ρ i=some b→cS m'.ρ i=some b
 fz:∀ b,bW m.fz b=true→bW m'.fz b=true
 nw:∀ i,bW m.nw i=true→bW m'.nw i=true
structure MS.Ok (D:Nat→Prop) (m:MS):Prop where
 nw:∀ i,bW m.nw i=true→cS m.ρ i=none
 inj:∀ i b,cS m.ρ i=some b→D i∨hZ m.β b=some i
theorem MS.le.refl (m:MS):m.le m:=⟨fun _ _ h=>h,fun _ h=>h,fun _ h=>h⟩
theorem MS.le.trans {m m' m'':MS} (h:m.le m') (k:m'.le m''):m.le m'':=⟨fun b i e=>k.rho b i (h.rho b i e),fun b e=>k.fz b (h.fz b e),fun i e=>k.nw i (h.nw i e)⟩
theorem rB {D:Nat→Prop} {m m':MS} {b i:Nat} (h:m.bind b i=some m'):m.le m'∧cS m'.ρ i=some b∧(m.Ok D→m'.Ok D):=by
 obtain ⟨ρ,β,fz,nw⟩:=m
 simp only [MS.bind] at h
 split at h
 ·rename_i b' i' h1 h2
  cases hb:asM b b' <;>rw [hb] at h
  ·cases h
  ·simp only [cond_true] at h
   cases hi:asM i i' <;>rw [hi] at h <;>cases h
   refine ⟨.refl _,?_,id⟩
   cases aE.1 hb
   exact h1
 ·rename_i h1 h2
  cases hn:bW nw i <;>rw [hn] at h <;>cases h
  refine ⟨⟨fun b' j e=> ?_,fun _ h=>h,fun _ h=>h⟩,?_,fun hk=>⟨fun j hj=> ?_,fun j c hj=> ?_⟩⟩
  ·show (bif asM i j then some b else cS ρ j)=some b'
   cases hij:asM i j with
   | false=>exact e
   | true=>
    cases aE.1 hij
    rw [show cS ρ i=none from h1] at e
    cases e
  ·show (bif asM i i then some b else cS ρ i)=some b
   rw [awl];rfl
  ·show (bif asM i j then some b else cS ρ j)=none
   cases hij:asM i j with
   | false=>exact hk.nw j hj
   | true=>cases aE.1 hij;rw [hn] at hj;cases hj
  ·have hj':(bif asM i j then some b else cS ρ j)=some c:=hj
   show D j∨(bif asM b c then some i else hZ β c)=some j
   cases hij:asM i j with
   | true=>
    rw [hij] at hj'
    cases hj'
    cases aE.1 hij
    rw [awl];exact .inr rfl
   | false=>
    rw [hij] at hj'
    rcases hk.inj j c hj' with h | this
    ·exact .inl h
    ·right
     cases hbc:asM b c with
     | false=>exact this
     | true=>
      cases aE.1 hbc
      rw [show hZ β b=none from h2] at this
      cases this
 ·cases h
theorem IM {D:Nat→Prop} {m m':MS} {i:Nat} (h:m.new i=some m'):m.le m'∧bW m'.nw i=true∧(m.Ok D→m'.Ok D):=by
 obtain ⟨ρ,β,fz,nw⟩:=m
 simp only [MS.new] at h
 split at h
 ·rename_i h1
  cases hn:bW nw i <;>rw [hn] at h <;>cases h
  refine ⟨⟨fun _ _ h=>h,fun _ h=>h,fun j hj=> ?_⟩,?_,fun hk=>⟨fun j hj=> ?_,hk.inj⟩⟩
  ·show (bif asM i j then true else bW nw j)=true
   rw [show bW nw j=true from hj];cases asM i j <;>rfl
  ·show (bif asM i i then true else bW nw i)=true
   rw [awl];rfl
  ·have hj':(bif asM i j then true else bW nw j)=true:=hj
   cases hij:asM i j with
   | true=>cases aE.1 hij;exact h1
   | false=>rw [hij] at hj';exact hk.nw j hj'
 ·cases h
theorem nm {D:Nat→Prop} (m:MS) (b:Nat):m.le (m.freeze b)∧bW (m.freeze b).fz b=true∧(m.Ok D→(m.freeze b).Ok D):=by
 obtain ⟨ρ,β,fz,nw⟩:=m
 simp only [MS.freeze]
 cases hn:bW fz b with
 | true=>exact ⟨.refl _,hn,id⟩
 | false=>
  refine ⟨⟨fun _ _ h=>h,fun c hc=> ?_,fun _ h=>h⟩,?_,fun hk=>⟨hk.nw,hk.inj⟩⟩
  ·show (bif asM b c then true else bW fz c)=true
   rw [show bW fz c=true from hc];cases asM b c <;>rfl
  ·show (bif asM b b then true else bW fz b)=true
   rw [awl];rfl
theorem DU {D:Nat→Prop} {hp:List Blk} {e:List CSh} {m m':MS} {sv sv':SV} {ds:List Dat} (h:nj hp e m sv=some (sv',ds,m')):m.le m'∧(m.Ok D→m'.Ok D):=by
 unfold nj at h
 split at h
 ·rename_i e' l
  cases hb:CSh.beqs e e' <;>rw [hb] at h <;>cases h
  exact ⟨.refl _,id⟩
 ·rename_i e' l
  cases hb:CSh.beqs e e' <;>rw [hb] at h <;>cases h
  exact ⟨.refl _,id⟩
 ·cases h;exact ⟨.refl _,id⟩
 ·cases h;exact ⟨.refl _,id⟩
 ·split at h
  ·rename_i e' l _
   cases hb:CSh.beqs e e' <;>rw [hb] at h <;>cases h
   exact ⟨(nm (D:=D) _ _).1,(nm (D:=D) _ _).2.2⟩
  ·cases h
 ·split at h
  ·split at h
   ·rename_i N _ _ _ N' k l _ _
    revert h
    cases hb:asM N' _ <;>intro h
    ·cases h
    ·simp only [cond_true] at h
     revert h
     cases hb2:CSh.beqs e [.int k] <;>intro h
     ·cases h
     ·cases h;exact ⟨(nm (D:=D) _ _).1,(nm (D:=D) _ _).2.2⟩
   ·cases h
  ·cases h
 ·cases h
theorem ww {D:Nat→Prop} {hp:List Blk} {e:List CSh} :∀ {svs:List SV} {m m':MS} {rows:LD},nf hp e svs m=some (rows,m')→m.le m'∧(m.Ok D→m'.Ok D)
 | [],m,m',rows,h=>by
  simp only [nf] at h
  cases h;exact ⟨.refl _,id⟩
 | sv::svs,m,m',rows,h=>by
  simp only [nf] at h
  split at h
  ·rename_i m1 h1
   split at h
   ·rename_i rows' m2 h2
    cases h
    obtain ⟨a1,a2⟩:=DU (D:=D) h1
    obtain ⟨b1,b2⟩:=ww (D:=D) h2
    exact ⟨a1.trans b1,fun k=>b2 (a2 k)⟩
   ·cases h
  ·cases h
theorem S6 {D:Nat→Prop} {hp:List Blk} {e:List CSh} {m m':MS} {sv sv':SV} {ds:List Dat} (h:oB hp e m sv=some (sv',ds,m')):m.le m'∧(m.Ok D→m'.Ok D):=by
 unfold oB at h
 split at h
 ·split at h
  ·split at h
   ·rename_i h1
    cases h;exact ww h1
   ·cases h
  ·cases h
 ·exact DU h
mutual
theorem vR {D:Nat→Prop} {hp:List Blk} :∀ {p:Pat} {sv sv':SV} {m m':MS} {ds:List Dat},conv hp p sv m=some (sv',ds,m')→m.le m'∧(m.Ok D→m'.Ok D)
 | .skip,sv,sv',m,m',ds,h=>by
  simp only [conv] at h
  split at h <;>cases h
  exact ⟨.refl _,id⟩
 | .int k,sv,sv',m,m',ds,h=>by
  simp only [conv] at h
  split at h
  ·split at h <;>cases h
   exact ⟨.refl _,id⟩
  ·cases h
 | .bool,sv,sv',m,m',ds,h=>by
  simp only [conv] at h
  split at h <;>cases h
  exact ⟨.refl _,id⟩
 | .str,sv,sv',m,m',ds,h=>by
  simp only [conv] at h
  split at h <;>cases h
  exact ⟨.refl _,id⟩
 | .rd e,sv,sv',m,m',ds,h=>by
  simp only [conv] at h
  exact S6 h
 | .own i,sv,sv',m,m',ds,h=>by
  simp only [conv] at h
  split at h
  ·split at h
   ·rename_i hb;cases h;exact ⟨(rB (D:=D) hb).1,(rB (D:=D) hb).2.2⟩
   ·cases h
  ·split at h
   ·rename_i hb;cases h;exact ⟨(IM (D:=D) hb).1,(IM (D:=D) hb).2.2⟩
   ·cases h
  ·cases h
 | .ptr i c,sv,sv',m,m',ds,h=>by
  simp only [conv] at h
  split at h
  ·rename_i b c'
   cases hb:asM c c' <;>rw [hb] at h
   ·cases h
   ·simp only [cond_true] at h
    split at h
    ·rename_i hb;cases h;exact ⟨(rB (D:=D) hb).1,(rB (D:=D) hb).2.2⟩
    ·cases h
  ·cases h
 | .nilp,sv,sv',m,m',ds,h=>by
  simp only [conv] at h
  split at h <;>cases h
  exact ⟨.refl _,id⟩
 | .nilf,sv,sv',m,m',ds,h=>by
  simp only [conv] at h
  split at h <;>cases h
  exact ⟨.refl _,id⟩
 | .nils,sv,sv',m,m',ds,h=>by
  simp only [conv] at h
  split at h <;>cases h
  exact ⟨.refl _,id⟩
 | .agg ps,sv,sv',m,m',ds,h=>by
  simp only [conv] at h
  split at h
  ·split at h
   ·rename_i hc;cases h;exact convs_le hc
   ·cases h
  ·cases h
 | .arrI n k,sv,sv',m,m',ds,h=>by
  simp only [conv] at h
  split at h
  ·split at h
   ·rename_i n' k' l hk
    cases hb:asM n n' <;>rw [hb] at h <;>cases h
    exact ⟨.refl _,id⟩
   ·cases h
  ·cases h
 | .arrB n,sv,sv',m,m',ds,h=>by
  simp only [conv] at h
  split at h
  ·rename_i n' l
   cases hb:asM n n' <;>rw [hb] at h <;>cases h
   exact ⟨.refl _,id⟩
  ·cases h
 | .tup ps,sv,sv',m,m',ds,h=>by
  simp only [conv] at h
  split at h
  ·split at h
   ·rename_i hc;cases h;exact convs_le hc
   ·cases h
  ·cases h
 | .fn f ps,sv,sv',m,m',ds,h=>by
  simp only [conv] at h
  split at h
  ·rename_i f' cs
   cases hb:asM f f' <;>rw [hb] at h
   ·cases h
   ·simp only [cond_true] at h
    split at h
    ·rename_i hc;cases h;exact convs_le hc
    ·cases h
  ·cases h
 | .fb f ps,sv,sv',m,m',ds,h=>by
  simp only [conv] at h
  split at h
  ·rename_i f' cs
   cases hb:asM f f' <;>rw [hb] at h
   ·cases h
   ·simp only [cond_true] at h
    split at h
    ·rename_i hc;cases h;exact convs_le hc
    ·cases h
  ·cases h
 | .nili,sv,sv',m,m',ds,h=>by
  simp only [conv] at h
  split at h <;>cases h
  exact ⟨.refl _,id⟩
 | .iface t p,sv,sv',m,m',ds,h=>by
  simp only [conv] at h
  split at h
  ·rename_i t' v
   cases hb:asM t t' <;>rw [hb] at h
   ·cases h
   ·simp only [cond_true] at h
    split at h
    ·rename_i hc;cases h;exact vR hc
    ·cases h
  ·cases h
theorem convs_le {D:Nat→Prop} {hp:List Blk} :∀ {ps:List Pat} {svs svs':List SV} {m m':MS} {ds:List Dat},convs hp ps svs m=some (svs',ds,m')→m.le m'∧(m.Ok D→m'.Ok D)
 | [],svs,svs',m,m',ds,h=>by
  simp only [convs] at h
  split at h <;>cases h
  exact ⟨.refl _,id⟩
 | p::ps,svs,svs',m,m',ds,h=>by
  simp only [convs] at h
  split at h
  ·split at h
   ·rename_i h1
    split at h
    ·rename_i h2
     cases h
     exact ⟨(vR (D:=D) h1).1.trans (convs_le (D:=D) h2).1,fun hk=>(convs_le h2).2 ((vR h1).2 hk)⟩
    ·cases h
   ·cases h
  ·cases h
end
theorem rN {D:Nat→Prop} {hp:List Blk} {get:Nat→SV} :∀ {ps:List Pat} {t:Nat} {svs':List SV} {m m':MS} {ds:List Dat},iX hp get ps t m=some (svs',ds,m')→m.le m'∧(m.Ok D→m'.Ok D)
 | [],t,svs',m,m',ds,h=>by
  simp only [iX] at h
  cases h;exact ⟨.refl _,id⟩
 | p::ps,t,svs',m,m',ds,h=>by
  have gen:(match conv hp p (get t) m with
    | some (sv,d,m)=>(match iX hp get ps (t+1) m with | some (svs,ds,m)=>some (sv::svs,d++ds,m) | none=>none)
    | none=>none)=some (svs',ds,m')→m.le m'∧(m.Ok D→m'.Ok D):=fun h=>by
   split at h
   ·rename_i h1
    split at h
    ·rename_i h2
     cases h
     exact ⟨(vR (D:=D) h1).1.trans (rN (D:=D) h2).1,fun hk=>(rN h2).2 ((vR h1).2 hk)⟩
    ·cases h
   ·cases h
  cases p with
  | skip=>
   simp only [iX] at h
   split at h
   ·rename_i h2;cases h;exact rN h2
   ·cases h
  | _=>exact gen h
theorem CK {D:Nat→Prop} {hp:List Blk} {i:Nat} {m m':MS} {p:BPat} {x:Blk} {ds:List Dat} (h:tv hp i m p=some (x,ds,m')):m.le m'∧(m.Ok D→m'.Ok D):=by
 unfold tv at h
 split at h
 ·cases p with
  | none=>cases h;exact ⟨.refl _,id⟩
  | cells T ps=>
   simp only at h
   split at h
   ·rename_i T' cs _
    cases hb:asM T' T <;>rw [hb] at h
    ·cases h
    ·simp only [cond_true] at h
     split at h
     ·rename_i hc;cases h;exact convs_le hc
     ·cases h
   ·cases h
  | own T e=>
   simp only at h
   split at h
   ·rename_i T' e' l _
    cases hb:asM T' T <;>rw [hb] at h
    ·cases h
    ·simp only [cond_true] at h
     cases hb2:CSh.beqs e e' <;>rw [hb2] at h <;>cases h
     exact ⟨.refl _,id⟩
   ·cases h
 ·cases p with
  | none=>cases h;exact ⟨.refl _,id⟩
  | cells T ps=>cases h
  | own T e=>
   simp only at h
   cases hb:bW m.nw i <;>rw [hb] at h <;>cases h
   exact ⟨.refl _,id⟩
theorem kz {D:Nat→Prop} {hp:List Blk} :∀ {ps:List BPat} {i:Nat} {m m':MS} {xs:List Blk} {ds:List Dat},fN hp ps i m=some (xs,ds,m')→m.le m'∧(m.Ok D→m'.Ok D)
 | [],i,m,m',xs,ds,h=>by
  simp only [fN] at h
  cases h;exact ⟨.refl _,id⟩
 | p::ps,i,m,m',xs,ds,h=>by
  simp only [fN] at h
  split at h
  ·rename_i h1
   split at h
   ·rename_i h2
    cases h
    exact ⟨(CK (D:=D) h1).1.trans (kz (D:=D) h2).1,fun hk=>(kz h2).2 ((CK h1).2 hk)⟩
   ·cases h
  ·cases h
section
variable {Im:Nat→Prop} {ι:Nat→Option Value} {w:World} {hp:List Blk} {mf:MS} {D:Nat→Prop}
theorem Ul {hp:List Blk} {b:Nat} {T e l} (h:hp.getD b .none= .own T e l):aM (hp.getD b .none)=true:=by rw [h];rfl
theorem BA (hh:HV Im ι w hp) {e:List CSh} {m m':MS} {sv sv':SV} {ds:List Dat} {v:Value} (h:nj hp e m sv=some (sv',ds,m')) (hle:m'.le mf) (hv:VRel Im ι w sv v):VRel (jr Im ι hp mf) (ιW ι mf) w sv' v:=by
 have mono:∀ {sh cd v},CRel Im w sh cd v→CRel (jr Im ι hp mf) w sh cd v:=fun h=>h.mono (fun _=> .inl) fun _ _=>rfl
 have fmono:∀ {e l xs},FlatRel Im w e l xs→FlatRel (jr Im ι hp mf) w e l xs:=fun h=>h.mono (fun _=> .inl) fun _ _=>rfl
 unfold nj at h
 split at h
 ·rename_i e' l
  cases hb:CSh.beqs e e' <;>rw [hb] at h <;>cases h
  cases CSh.beqs_eq _ _ hb
  exact mono hv
 ·rename_i e' l
  cases hb:CSh.beqs e e' <;>rw [hb] at h <;>cases h
  cases CSh.beqs_eq _ _ hb
  exact mono hv.1
 ·cases h
  cases (show v= .slice none 0 0 from hv)
  exact CRel.sl0 _ _ _ (asq _)
 ·cases h
  obtain ⟨a,rfl⟩:=hv
  exact CRel.sl0 _ _ _ (asq _)
 ·rename_i b
  split at h
  ·rename_i T' e' l hblk
   cases hb:CSh.beqs e e' <;>rw [hb] at h <;>cases h
   cases CSh.beqs_eq _ _ hb
   have hfz:=hle.fz b (nm (D:=fun _=>True) m b).2.1
   obtain ⟨a,cap,h1,h2,h3,h4⟩:=sW (x:= .own b) (e:=e) (l:=l) hh (by unfold Ck;simp only [hblk]) hv
   rcases ati l.length with h0 | h0
   ·have:l= [] :=awm.1 h0
    subst this
    subst h1
    exact CRel.sl0 _ _ _ h3
   ·obtain ⟨ad,xs,rfl,h5,h6⟩:=h4 h0
    subst h1
    refine CRel.sl _ _ ad cap xs h2 h3 (.inr ⟨b,_,hfz,hv.1,Ul hblk,?_⟩) (fmono h5) h6
    simp only [aB]
    rw [if_neg (by omega)]
  ·cases h
 ·rename_i b c N lo n
  split at h
  ·rename_i T' cs hblk
   split at h
   ·rename_i a N' k L d hsp
    revert h
    cases hb:asM N' N <;>intro h
    ·cases h
    ·simp only [cond_true] at h
     revert h
     cases hb2:CSh.beqs e [.int k] <;>intro h
     ·cases h
     ·cases h
      cases CSh.beqs_eq _ _ hb2
      have hN:=aE.1 hb
      have hfz:=hle.fz b (nm (D:=fun _=>True) m b).2.1
      obtain ⟨a,cap,h1,h2,h3,h4⟩:=sW (x:= .win b c N lo n) hh (by unfold Ck;simp only [hblk,hsp];rw [if_pos hN]) hv
      generalize hl:(((L.drop lo).take n).map fun x=> [CD.int x])=l at h1 h2 h4 ⊢
      rcases ati l.length with h0 | h0
      ·have:l= [] :=awm.1 h0
       subst this
       subst h1
       exact CRel.sl0 _ _ _ h3
      ·obtain ⟨ad,xs,rfl,h5,h6⟩:=h4 h0
       obtain ⟨r,cap',g1,g2,_⟩:=hv
       rw [h1] at g2
       injection g2 with g3 g4 g5
       injection g3 with g3
       subst g3
       subst h1
       refine CRel.sl _ _ _ cap xs h2 h3 (.inr ⟨b,_,hfz,g1,?_,rfl⟩) (fmono h5) h6
       rw [hblk];rfl
   ·cases h
  ·cases h
 ·cases h
theorem BN (hh:HV Im ι w hp) {e:List CSh} :∀ {svs:List SV} {m m':MS} {rows:LD} {vs:List Value},nf hp e svs m=some (rows,m')→m'.le mf→VRels Im ι w svs vs→
  FlatRel (jr Im ι hp mf) w [.sl e] rows vs∧rows.length=svs.length
 | [],m,m',rows,vs,h,hle,hv=>by
  simp only [nf] at h
  cases h
  cases (show vs= [] from hv)
  exact ⟨.nil _,rfl⟩
 | sv::svs,m,m',rows,vs,h,hle,hv=>by
  simp only [nf] at h
  obtain ⟨v,vs',rfl,hv1,hv2⟩:=hv
  split at h
  ·rename_i e' l ds' m1 h1
   split at h
   ·rename_i rows' m2 h2
    cases h
    obtain ⟨l',hl,_⟩:=xZ h1
    cases hl
    have hle1:=((ww (D:=fun _=>True) h2).1).trans hle
    have hc:=BA hh h1 hle1 hv1
    obtain ⟨k1,k2⟩:=BN hh h2 hle hv2
    exact ⟨.cons _ _ [v] _ _ (.cons _ _ _ _ _ _ hc .nil) k1,by simp [k2]⟩
   ·cases h
  ·cases h
theorem P7 (hh:HV Im ι w hp) {e:List CSh} {m m':MS} {sv sv':SV} {ds:List Dat} {v:Value} (h:oB hp e m sv=some (sv',ds,m')) (hle:m'.le mf) (hv:VRel Im ι w sv v):VRel (jr Im ι hp mf) (ιW ι mf) w sv' v:=by
 unfold oB at h
 split at h
 ·rename_i svs
  split at h
  ·split at h
   ·rename_i rows m1 h1
    cases h
    obtain ⟨ad,vs,rfl,g1,g2,g3,g4⟩:=hv
    obtain ⟨k1,k2⟩:=BN hh h1 hle g3
    show CRel (jr Im ι hp mf) w (.sl _) (.sl rows) _
    rcases ati svs.length with h0 | h0
    ·have:rows= [] :=awm.1 (k2.trans h0)
     subst this
     rw [h0]
     exact CRel.sl0 _ _ _ (asq _)
    ·have hc:=CRel.sl (Im:=jr Im ι hp mf) (w:=w) _ rows ad svs.length vs (by omega) g1 (.inl g2) k1 g4
     rw [k2] at hc
     exact hc
   ·cases h
  ·cases h
 ·exact BA hh h hle hv
theorem ιW_bind {b i:Nat} {v:Value} (h:cS mf.ρ i=some b) (hb:ι b=some v):ιW ι mf i=some v:=by unfold ιW;rw [h];exact hb
theorem ιW_new (hk:mf.Ok D) {i:Nat} (h:bW mf.nw i=true):ιW ι mf i=some (.slice none 0 0):=by unfold ιW;rw [hk.nw i h];simp [h]
theorem Sy {hp:List Blk} {p:Pat} {n:Nat} {k:IntKind} {l:List Int} {sv':SV} {m m':MS} {ds:List Dat} (h:conv hp p (.arrI n k l) m=some (sv',ds,m')):sv'= .arrI n k l:=by
 cases p <;>simp only [conv,oB] at h <;>try cases h
 split at h
 ·rename_i hk
  rename_i n0 k0
  revert h
  cases hb:asM n0 n <;>intro h <;>cases h
  cases aE.1 hb;subst hk;rfl
 ·cases h
theorem QK {hp:List Blk} {p:Pat} {n:Nat} {l:List Bool} {sv':SV} {m m':MS} {ds:List Dat} (h:conv hp p (.arrB n l) m=some (sv',ds,m')):sv'= .arrB n l:=by
 cases p <;>simp only [conv,oB] at h <;>try cases h
 rename_i n0
 revert h
 cases hb:asM n0 n <;>intro h <;>cases h
 cases aE.1 hb;rfl
def SV.isArr:SV→Bool | .arrI .. =>true | .arrB .. =>true | _=>false
theorem D4 (p:Pat) (ds:List Dat) (h1:∀ n k,p≠ .arrI n k) (h2:∀ n,p≠ .arrB n):(bM p ds).1.isArr=false:=by
 cases p <;>first | exact absurd rfl (h1 _ _) | exact absurd rfl (h2 _) | rfl | (cases ds with | nil=>rfl | cons d ds=>cases d <;>rfl)
theorem OV {hp:List Blk} {p:Pat} {sv sv':SV} {m m':MS} {ds:List Dat} (ha:sv.isArr=false) (h:conv hp p sv m=some (sv',ds,m')):sv'.isArr=false:=by
 have h2:=(xD h).2 []
 have h3:sv'=(bM p (ds++ [])).1:=by rw [h2]
 rw [h3]
 refine D4 p _ (fun n k e=> ?_) (fun n e=> ?_)
 ·subst e
  cases sv <;>simp only [conv] at h <;>first | cases h | cases ha
 ·subst e
  cases sv <;>simp only [conv] at h <;>first | cases h | cases ha
theorem gx {Im:Nat→Prop} {ι:Nat→Option Value} {w:World} {s:SV} {cs:List SV} {vs:List Value} (ha:s.isArr=false):CellsRel Im ι w (s::cs) vs↔∃ v vs',vs=v::vs'∧VRel Im ι w s v∧v.oneCell'=true∧CellsRel Im ι w cs vs':=by
 rw [CellsRel.eq_def]
 cases s <;>first | rfl | cases ha
mutual
theorem xM (hh:HV Im ι w hp) (hk:mf.Ok D):∀ {p:Pat} {sv sv':SV} {m m':MS} {ds:List Dat} {v:Value},conv hp p sv m=some (sv',ds,m')→m'.le mf→VRel Im ι w sv v→VRel (jr Im ι hp mf) (ιW ι mf) w sv' v
 | .skip,sv,sv',m,m',ds,v,h,hle,hv=>by
  simp only [conv] at h
  split at h <;>cases h
  trivial
 | .int k,sv,sv',m,m',ds,v,h,hle,hv=>by
  simp only [conv] at h
  split at h
  ·split at h
   ·rename_i hk;cases h;subst hk;exact hv
   ·cases h
  ·cases h
 | .bool,sv,sv',m,m',ds,v,h,hle,hv=>by
  simp only [conv] at h
  split at h <;>cases h
  exact hv
 | .str,sv,sv',m,m',ds,v,h,hle,hv=>by
  simp only [conv] at h
  split at h <;>cases h
  exact hv
 | .rd e,sv,sv',m,m',ds,v,h,hle,hv=>by
  simp only [conv] at h
  exact P7 hh h hle hv
 | .own i,sv,sv',m,m',ds,v,h,hle,hv=>by
  simp only [conv] at h
  split at h
  ·split at h
   ·rename_i hb
    cases h
    exact ⟨ιW_bind (hle.rho _ _ (rB (D:=D) hb).2.1) hv.1,hv.2⟩
   ·cases h
  ·split at h
   ·rename_i hb
    cases h
    cases (show v= .slice none 0 0 from hv)
    exact ⟨ιW_new hk (hle.nw _ (IM (D:=D) hb).2.1),_,_,_,rfl⟩
   ·cases h
  ·cases h
 | .ptr i c,sv,sv',m,m',ds,v,h,hle,hv=>by
  simp only [conv] at h
  split at h
  ·rename_i b c'
   cases hb:asM c c' <;>rw [hb] at h
   ·cases h
   ·simp only [cond_true] at h
    split at h
    ·rename_i hbd
     cases h
     cases aE.1 hb
     obtain ⟨r,h1,h2⟩:=hv
     exact ⟨r,ιW_bind (hle.rho _ _ (rB (D:=D) hbd).2.1) h1,h2⟩
    ·cases h
  ·cases h
 | .nilp,sv,sv',m,m',ds,v,h,hle,hv=>by
  simp only [conv] at h
  split at h <;>cases h
  exact hv
 | .nilf,sv,sv',m,m',ds,v,h,hle,hv=>by
  simp only [conv] at h
  split at h <;>cases h
  exact hv
 | .nils,sv,sv',m,m',ds,v,h,hle,hv=>by
  simp only [conv] at h
  split at h <;>cases h
  exact hv
 | .agg ps,sv,sv',m,m',ds,v,h,hle,hv=>by
  simp only [conv] at h
  split at h
  ·split at h
   ·rename_i hc
    cases h
    obtain ⟨vs,h1,h2⟩:=hv
    exact ⟨vs,h1,convs_cells hh hk hc hle h2⟩
   ·cases h
  ·cases h
 | .arrI n k,sv,sv',m,m',ds,v,h,hle,hv=>by
  cases sv <;>simp only [conv] at h <;>first | cases h | exact hv.elim
 | .arrB n,sv,sv',m,m',ds,v,h,hle,hv=>by
  cases sv <;>simp only [conv] at h <;>first | cases h | exact hv.elim
 | .tup ps,sv,sv',m,m',ds,v,h,hle,hv=>by
  simp only [conv] at h
  split at h
  ·split at h
   ·rename_i hc
    cases h
    obtain ⟨vs,h1,h2⟩:=hv
    exact ⟨vs,h1,convs_rel hh hk hc hle h2⟩
   ·cases h
  ·cases h
 | .fn f ps,sv,sv',m,m',ds,v,h,hle,hv=>by
  simp only [conv] at h
  split at h
  ·rename_i f' cs
   cases hb:asM f f' <;>rw [hb] at h
   ·cases h
   ·simp only [cond_true] at h
    split at h
    ·rename_i hc
     cases h
     cases aE.1 hb
     obtain ⟨vs,h1,h2⟩:=hv
     exact ⟨vs,h1,convs_rel hh hk hc hle h2⟩
    ·cases h
  ·cases h
 | .fb f ps,sv,sv',m,m',ds,v,h,hle,hv=>by
  simp only [conv] at h
  split at h
  ·rename_i f' cs
   cases hb:asM f f' <;>rw [hb] at h
   ·cases h
   ·simp only [cond_true] at h
    split at h
    ·rename_i hc
     cases h
     cases aE.1 hb
     obtain ⟨vs,h1,h2⟩:=hv
     exact ⟨vs,h1,convs_rel hh hk hc hle h2⟩
    ·cases h
  ·cases h
 | .nili,sv,sv',m,m',ds,v,h,hle,hv=>by
  simp only [conv] at h
  split at h <;>cases h
  exact hv
 | .iface t p,sv,sv',m,m',ds,v,h,hle,hv=>by
  simp only [conv] at h
  split at h
  ·rename_i t' u
   cases hb:asM t t' <;>rw [hb] at h
   ·cases h
   ·simp only [cond_true] at h
    split at h
    ·rename_i hc
     cases h
     cases aE.1 hb
     obtain ⟨v',h1,h2⟩:=hv
     exact ⟨v',h1,xM hh hk hc hle h2⟩
    ·cases h
  ·cases h
theorem convs_rel (hh:HV Im ι w hp) (hk:mf.Ok D):∀ {ps:List Pat} {svs svs':List SV} {m m':MS} {ds:List Dat} {vs:List Value},convs hp ps svs m=some (svs',ds,m')→m'.le mf→VRels Im ι w svs vs→VRels (jr Im ι hp mf) (ιW ι mf) w svs' vs
 | [],svs,svs',m,m',ds,vs,h,hle,hv=>by
  simp only [convs] at h
  split at h <;>cases h
  exact hv
 | p::ps,svs,svs',m,m',ds,vs,h,hle,hv=>by
  simp only [convs] at h
  split at h
  ·split at h
   ·rename_i h1
    split at h
    ·rename_i h2
     cases h
     obtain ⟨v,vs',rfl,k1,k2⟩:=hv
     exact ⟨v,vs',rfl,xM hh hk h1 ((convs_le (D:=D) h2).1.trans hle) k1,convs_rel hh hk h2 hle k2⟩
    ·cases h
   ·cases h
  ·cases h
theorem convs_cells (hh:HV Im ι w hp) (hk:mf.Ok D):∀ {ps:List Pat} {svs svs':List SV} {m m':MS} {ds:List Dat} {vs:List Value},convs hp ps svs m=some (svs',ds,m')→m'.le mf→CellsRel Im ι w svs vs→CellsRel (jr Im ι hp mf) (ιW ι mf) w svs' vs
 | [],svs,svs',m,m',ds,vs,h,hle,hv=>by
  simp only [convs] at h
  split at h <;>cases h
  exact hv
 | p::ps,svs,svs',m,m',ds,vs,h,hle,hv=>by
  simp only [convs] at h
  split at h
  ·rename_i sv svs0
   split at h
   ·rename_i sv1 d m1 h1
    split at h
    ·rename_i svs2 ds2 m2 h2
     cases h
     have ih:=fun vs=>convs_cells (vs:=vs) hh hk h2 hle
     have ih1:=fun v=>xM (v:=v) hh hk h1 ((convs_le (D:=D) h2).1.trans hle)
     cases ha:sv.isArr with
     | false=>
      obtain ⟨v,vs',rfl,k1,k2,k3⟩:=(gx ha).1 hv
      exact (gx (OV ha h1)).2 ⟨v,vs',rfl,ih1 v k1,k2,ih vs' k3⟩
     | true=>
      cases sv <;>first | cases ha | skip
      ·cases Sy h1
       obtain ⟨k1,vs',rfl,k2⟩:=aD hv
       exact dU k1 (ih vs' k2)
      ·cases QK h1
       obtain ⟨k1,vs',rfl,k2⟩:=dk hv
       exact gP k1 (ih vs' k2)
    ·cases h
   ·cases h
  ·cases h
end
theorem yy (hh:HV Im ι w hp) (hk:mf.Ok D) {get:Nat→SV} :∀ {ps:List Pat} {t:Nat} {svs':List SV} {m m':MS} {ds:List Dat},iX hp get ps t m=some (svs',ds,m')→m'.le mf→∀ {val:Nat→Value},(∀ j,t≤j→j<t+ps.length→VRel Im ι w (get j) (val j))→
  svs'.length=ps.length∧∀ j,VRel (jr Im ι hp mf) (ιW ι mf) w (aH svs' j) (val (t+j))
 | [],t,svs',m,m',ds,h,hle,val,hv=>by
  simp only [iX] at h
  cases h
  exact ⟨rfl,fun j=>trivial⟩
 | p::ps,t,svs',m,m',ds,h,hle,val,hv=>by
  have gen:(match conv hp p (get t) m with
    | some (sv,d,m)=>(match iX hp get ps (t+1) m with | some (svs,ds,m)=>some (sv::svs,d++ds,m) | none=>none)
    | none=>none)=some (svs',ds,m')→svs'.length=(p::ps).length∧∀ j,VRel (jr Im ι hp mf) (ιW ι mf) w (aH svs' j) (val (t+j)):=fun h=>by
   split at h
   ·rename_i h1
    split at h
    ·rename_i h2
     cases h
     obtain ⟨k1,k2⟩:=yy hh hk h2 hle (val:=val) fun j a b=>hv j (by omega) (by simp;omega)
     refine ⟨by simp [k1],fun j=> ?_⟩
     cases j with
     | zero=>exact xM hh hk h1 ((rN (D:=D) h2).1.trans hle) (hv t (ar5 _) (by simp))
     | succ j=>have:=k2 j;rw [show t+1+j=t+(j+1) from by omega] at this;exact this
    ·cases h
   ·cases h
  cases p with
  | skip=>
   simp only [iX] at h
   split at h
   ·rename_i h2
    cases h
    obtain ⟨k1,k2⟩:=yy hh hk h2 hle (val:=val) fun j a b=>hv j (by omega) (by simp;omega)
    refine ⟨by simp [k1],fun j=> ?_⟩
    cases j with
    | zero=>trivial
    | succ j=>have:=k2 j;rw [show t+1+j=t+(j+1) from by omega] at this;exact this
   ·cases h
  | _=>exact gen h
theorem Rn (hh:HV Im ι w hp) (hk:mf.Ok D) {i:Nat} {m m':MS} {p:BPat} {x:Blk} {ds:List Dat} (h:tv hp i m p=some (x,ds,m')) (hle:m'.le mf):∀ v,ιW ι mf i=some v→BRel (jr Im ι hp mf) (ιW ι mf) w x v∧(aM x=true→(∃ b,cS mf.ρ i=some b∧ι b=some v∧aM (hp.getD b .none)=true)∨v= .slice none 0 0):=by
 intro v hv
 have hm:=(CK (D:=D) h).1.trans hle
 unfold tv at h
 split at h
 ·rename_i b hb
  have hρ:=hm.rho _ _ hb
  have hv':ι b=some v:=by unfold ιW at hv;rw [hρ] at hv;exact hv
  have hB:=hh b v hv'
  cases p with
  | none=>cases h;exact ⟨trivial,fun e=>by cases e⟩
  | cells T ps=>
   simp only at h
   split at h
   ·rename_i T' cs hblk
    cases hT:asM T' T <;>rw [hT] at h
    ·cases h
    ·simp only [cond_true] at h
     split at h
     ·rename_i hc
      cases h
      cases aE.1 hT
      rw [hblk] at hB
      obtain ⟨r,vs,rfl,h1,h2⟩:=hB
      exact ⟨⟨r,vs,rfl,h1,convs_cells hh hk hc hle h2⟩,fun _=> .inl ⟨b,hρ,hv',by rw [hblk];rfl⟩⟩
     ·cases h
   ·cases h
  | own T e=>
   simp only at h
   split at h
   ·rename_i T' e' l hblk
    cases hT:asM T' T <;>rw [hT] at h
    ·cases h
    ·simp only [cond_true] at h
     cases hb2:CSh.beqs e e' <;>rw [hb2] at h <;>cases h
     cases aE.1 hT
     cases CSh.beqs_eq _ _ hb2
     rw [hblk] at hB
     obtain ⟨xs,h1,h2⟩:=hB
     exact ⟨⟨xs,h1,h2.mono (fun _=> .inl) fun _ _=>rfl⟩,fun _=> .inl ⟨b,hρ,hv',by rw [hblk];rfl⟩⟩
   ·cases h
 ·cases p with
  | none=>cases h;exact ⟨trivial,fun e=>by cases e⟩
  | cells T ps=>cases h
  | own T e=>
   simp only at h
   cases hb:bW m.nw i <;>rw [hb] at h <;>cases h
   have:=ιW_new (ι:=ι) hk (hm.nw _ hb)
   rw [this] at hv
   cases hv
   exact ⟨⟨[],⟨by simp,.inl ⟨none,rfl,rfl⟩⟩,.nil _⟩,fun _=> .inr rfl⟩
theorem rl (hh:HV Im ι w hp) (hk:mf.Ok D):∀ {ps:List BPat} {i:Nat} {m m':MS} {xs:List Blk} {ds:List Dat},fN hp ps i m=some (xs,ds,m')→m'.le mf→∀ j v,ιW ι mf (i+j)=some v→BRel (jr Im ι hp mf) (ιW ι mf) w (xs.getD j .none) v∧(aM (xs.getD j .none)=true→(∃ b,cS mf.ρ (i+j)=some b∧ι b=some v∧aM (hp.getD b .none)=true)∨v= .slice none 0 0)
 | [],i,m,m',xs,ds,h,hle,j,v,hv=>by
  simp only [fN] at h
  cases h
  exact ⟨trivial,fun e=>by cases e⟩
 | p::ps,i,m,m',xs,ds,h,hle,j,v,hv=>by
  simp only [fN] at h
  split at h
  ·rename_i h1
   split at h
   ·rename_i h2
    cases h
    cases j with
    | zero=>exact Rn hh hk h1 ((kz (D:=D) h2).1.trans hle) v hv
    | succ j=>
     rw [show i+(j+1)=i+1+j from by omega] at hv ⊢
     exact rl hh hk h2 hle j v hv
   ·cases h
  ·cases h
theorem w6:maxLen≤9223372036854775807:=by decide
theorem Ux {Im:Nat→Prop} {w:World} {e:List CSh} {l:LD} {v:Value} (h:CRel Im w (.sl e) (.sl l) v):l.length≤9223372036854775807:=by
 obtain ⟨a,cap,_,h2,h3,_⟩:=CRel.slice h
 have:=w6
 omega
mutual
theorem B7 {Im:Nat→Prop} {ι:Nat→Option Value} {w:World} :∀ (p:Pat) (ds:List Dat) (v:Value) (K:List Dat→Prop),VRel Im ι w (bM p ds).1 v→PH p ds K→K (bM p ds).2
 | .skip,ds,v,K,hv,h=>by cases ds <;>exact h
 | .int k,ds,v,K,hv,h=>by
  cases ds with
  | nil=>exact h
  | cons d ds=>cases d <;>exact h
 | .bool,ds,v,K,hv,h=>by
  cases ds with
  | nil=>exact h
  | cons d ds=>cases d <;>exact h
 | .str,ds,v,K,hv,h=>by
  cases ds with
  | nil=>exact h
  | cons d ds=>
   cases d <;>first | exact h | skip
   exact h (Nat.le_trans hv.2 w6)
 | .rd e,ds,v,K,hv,h=>by
  cases ds with
  | nil=>exact h
  | cons d ds=>
   cases d <;>first | exact h | skip
   exact h (Ux hv)
 | .own i,ds,v,K,hv,h=>by cases ds <;>exact h
 | .ptr i c,ds,v,K,hv,h=>by cases ds <;>exact h
 | .nilp,ds,v,K,hv,h=>by cases ds <;>exact h
 | .nilf,ds,v,K,hv,h=>by cases ds <;>exact h
 | .nils,ds,v,K,hv,h=>by cases ds <;>exact h
 | .agg ps,ds,v,K,hv,h=>by
  obtain ⟨vs,_,k⟩:=hv
  have h':impPs ps ds K:=by cases ds <;>exact h
  exact imps_cells ps ds vs K k h'
 | .arrI n k,ds,v,K,hv,h=>by
  cases ds with
  | nil=>exact h
  | cons d ds=>
   cases d <;>first | exact h | exact hv.elim
 | .arrB n,ds,v,K,hv,h=>by
  cases ds with
  | nil=>exact h
  | cons d ds=>
   cases d <;>first | exact h | exact hv.elim
 | .tup ps,ds,v,K,hv,h=>by
  obtain ⟨vs,_,k⟩:=hv
  have h':impPs ps ds K:=by cases ds <;>exact h
  exact imps_elim ps ds vs K k h'
 | .fn f ps,ds,v,K,hv,h=>by
  obtain ⟨vs,_,k⟩:=hv
  have h':impPs ps ds K:=by cases ds <;>exact h
  exact imps_elim ps ds vs K k h'
 | .fb f ps,ds,v,K,hv,h=>by
  obtain ⟨vs,_,k⟩:=hv
  have h':impPs ps ds K:=by cases ds <;>exact h
  exact imps_elim ps ds vs K k h'
 | .nili,ds,v,K,hv,h=>by cases ds <;>exact h
 | .iface t p,ds,v,K,hv,h=>by
  obtain ⟨v',_,k⟩:=hv
  have h':PH p ds K:=by cases ds <;>exact h
  exact B7 p ds v' K k h'
theorem imps_elim {Im:Nat→Prop} {ι:Nat→Option Value} {w:World} :∀ (ps:List Pat) (ds:List Dat) (vs:List Value) (K:List Dat→Prop),VRels Im ι w (instPs ps ds).1 vs→impPs ps ds K→K (instPs ps ds).2
 | [],ds,vs,K,hv,h=>h
 | p::ps,ds,vs,K,hv,h=>by
  obtain ⟨v,vs',rfl,k1,k2⟩:=hv
  exact imps_elim ps _ vs' K k2 (B7 p ds v _ k1 h)
theorem imps_cells {Im:Nat→Prop} {ι:Nat→Option Value} {w:World} :∀ (ps:List Pat) (ds:List Dat) (vs:List Value) (K:List Dat→Prop),CellsRel Im ι w (instPs ps ds).1 vs→impPs ps ds K→K (instPs ps ds).2
 | [],ds,vs,K,hv,h=>h
 | p::ps,ds,vs,K,hv,h=>by
  have hv':CellsRel Im ι w ((bM p ds).1::(instPs ps (bM p ds).2).1) vs:=hv
  have ih:=fun v=>B7 (Im:=Im) (ι:=ι) (w:=w) p ds v (fun ds=>impPs ps ds K)
  have ih2:=fun vs'=>imps_cells (Im:=Im) (ι:=ι) (w:=w) ps (bM p ds).2 vs' K
  show K (instPs ps (bM p ds).2).2
  cases ha:(bM p ds).1.isArr with
  | false=>
   obtain ⟨v,vs',rfl,k1,k2,k3⟩:=(gx ha).1 hv'
   exact ih2 vs' k3 (ih v k1 h)
  | true=>
   have hk:impPs ps (bM p ds).2 K:=by
    cases p with
    | arrI n k=>
     cases ds with
     | nil=>exact h
     | cons d ds=>
      cases d <;>first | exact h | skip
      exact h (aD hv').1
    | arrB n=>
     cases ds with
     | nil=>exact h
     | cons d ds=>
      cases d <;>first | exact h | skip
      exact h (dk hv').1
    | _=>
     rw [D4 _ ds (by intro n k e;cases e) (by intro n e;cases e)] at ha
     cases ha
   obtain ⟨va,vb,rfl,_,_,k2⟩:=bm hv'
   exact ih2 vb k2 hk
end
theorem RW {Im:Nat→Prop} {ι:Nat→Option Value} {w:World} (p:BPat) (ds:List Dat) (v:Value) (K:List Dat→Prop) (hv:BRel Im ι w (qY p ds).1 v) (h:ae7 p ds K):K (qY p ds).2:=by
 cases p with
 | none=>cases ds <;>exact h
 | cells T ps=>
  obtain ⟨r,vs,_,_,k⟩:=hv
  have h':impPs ps ds K:=by cases ds <;>exact h
  exact imps_cells ps ds vs K k h'
 | own T e=>
  cases ds with
  | nil=>exact h
  | cons d ds=>
   cases d <;>first | exact h | skip
   rename_i l
   refine h ?_
   obtain ⟨xs,hO,_⟩:=hv
   obtain ⟨a,cap,_,h2,h3,_⟩:=OwnV.slice hO
   have:=w6
   omega
mutual
theorem FZ {Im:Nat→Prop} {ι:Nat→Option Value} {w:World} :∀ (s:SV) (v:Value),VRel Im ι w s v→∀ b∈s.hs,∃ u,ι b=some u
 | .agg cs,v,h,b,hb=>by obtain ⟨vs,_,k⟩:=h;exact hs_cells cs vs k b hb
 | .fn f cs,v,h,b,hb=>by obtain ⟨vs,_,k⟩:=h;exact hs_vrels cs vs k b hb
 | .fb f cs,v,h,b,hb=>by obtain ⟨vs,_,k⟩:=h;exact hs_vrels cs vs k b hb
 | .tup cs,v,h,b,hb=>by obtain ⟨vs,_,k⟩:=h;exact hs_vrels cs vs k b hb
 | .sls cs,v,h,b,hb=>by obtain ⟨_,vs,_,_,_,k,_⟩:=h;exact hs_vrels cs vs k b hb
 | .iface t s,v,h,b,hb=>by obtain ⟨v',_,k⟩:=h;exact FZ s v' k b hb
 | .ptr c _,v,h,b,hb=>by
  obtain ⟨r,k,_⟩:=h
  have hb':b∈ [c] :=hb
  simp only [awn] at hb'
  subst hb';exact ⟨_,k⟩
 | .aptr c _ _,v,h,b,hb=>by
  obtain ⟨r,k,_⟩:=h
  have hb':b∈ [c] :=hb
  simp only [awn] at hb'
  subst hb';exact ⟨_,k⟩
 | .own c,v,h,b,hb=>by
  have hb':b∈ [c] :=hb
  simp only [awn] at hb'
  subst hb';exact ⟨_,h.1⟩
 | .lit c,v,h,b,hb=>by
  have hb':b∈ [c] :=hb
  simp only [awn] at hb'
  subst hb';exact ⟨_,h.1⟩
 | .win c _ _ _ _,v,h,b,hb=>by
  obtain ⟨r,cap,k,_⟩:=h
  have hb':b∈ [c] :=hb
  simp only [awn] at hb'
  subst hb';exact ⟨_,k⟩
 | .optr c _ _ _,v,h,b,hb=>by
  obtain ⟨r,n,cap,k,_⟩:=h
  have hb':b∈ [c] :=hb
  simp only [awn] at hb'
  subst hb';exact ⟨_,k⟩
 | .ow c _ _ _,v,h,b,hb=>by
  obtain ⟨r,m,cap,cap',k,_⟩:=h
  have hb':b∈ [c] :=hb
  simp only [awn] at hb'
  subst hb';exact ⟨_,k⟩
 | .dead,_,_,b,hb | .int ..,_,_,b,hb | .bool _,_,_,b,hb | .str _,_,_,b,hb | .nilp,_,_,b,hb | .nilf,_,_,b,hb | .rd ..,_,_,b,hb | .rdc ..,_,_,b,hb | .e0,_,_,b,hb | .nils,_,_,b,hb | .eptr ..,_,_,b,hb | .nili,_,_,b,hb | .val _,_,_,b,hb=>by
  cases (show b∈ [] from hb)
 | .arrI ..,v,h,b,hb=>h.elim
 | .arrB ..,v,h,b,hb=>h.elim
theorem hs_vrels {Im:Nat→Prop} {ι:Nat→Option Value} {w:World} :∀ (cs:List SV) (vs:List Value),VRels Im ι w cs vs→∀ b∈hsL cs,∃ u,ι b=some u
 | [],vs,h,b,hb=>by cases hb
 | s::cs,vs,h,b,hb=>by
  obtain ⟨v,vs',rfl,k1,k2⟩:=h
  rcases ads.1 (show b∈s.hs++hsL cs from hb) with hb | hb
  ·exact FZ s v k1 b hb
  ·exact hs_vrels cs vs' k2 b hb
theorem hs_cells {Im:Nat→Prop} {ι:Nat→Option Value} {w:World} :∀ (cs:List SV) (vs:List Value),CellsRel Im ι w cs vs→∀ b∈hsL cs,∃ u,ι b=some u
 | [],vs,h,b,hb=>by cases hb
 | s::cs,vs,h,b,hb=>by
  have ih:=fun v=>FZ (Im:=Im) (ι:=ι) (w:=w) s v
  have ih2:=fun vs'=>hs_cells (Im:=Im) (ι:=ι) (w:=w) cs vs'
  rcases ads.1 (show b∈s.hs++hsL cs from hb) with hb | hb
  ·cases ha:s.isArr with
   | false=>
    obtain ⟨v,vs',rfl,k1,_,_⟩:=(gx ha).1 h
    exact ih v k1 b hb
   | true=>
    cases s <;>first | cases ha | skip
    ·cases (show b∈ [] from hb)
    ·cases (show b∈ [] from hb)
  ·obtain ⟨va,vb,rfl,_,_,k⟩:=bm h
   exact ih2 vb k b hb
end
theorem w5 {Im:Nat→Prop} {ι:Nat→Option Value} {w:World} {hs:List Nat} (hk:∀ b∈hs,∃ u,ι b=some u):∀ (ps:List BPat) (i:Nat) (ds:List Dat) (K:List Dat→Prop),(∀ j v,ι (i+j)=some v→BRel Im ι w ((kU ps ds).1.getD j .none) v)→xp hs i ps ds K→K (kU ps ds).2
 | [],i,ds,K,hB,h=>h
 | p::ps,i,ds,K,hB,h=>by
  have ih:=w5 hk ps (i+1) (qY p ds).2 K fun j v hj=>hB (j+1) v (by rw [← hj];congr 1;omega)
  unfold xp at h
  cases hc:hs.contains i with
  | false=>rw [hc] at h;exact ih h
  | true=>
   rw [hc] at h
   obtain ⟨u,hu⟩:=hk i (by simpa using hc)
   exact ih (RW p ds u _ (hB 0 u hu) h)
theorem ya {Im:Nat→Prop} {ι:Nat→Option Value} {w:World} :∀ (svs:List SV) (val:Nat→Value),(∀ j,VRel Im ι w (aH svs j) (val j))→∃ vs,VRels Im ι w svs vs
 | [],val,h=>⟨[],rfl⟩
 | s::svs,val,h=>by
  obtain ⟨vs,k⟩:=ya svs (fun j=>val (j+1)) fun j=>h (j+1)
  exact ⟨val 0::vs,val 0,vs,rfl,h 0,k⟩
theorem Jq:∀ n i,cS (lN n) i=if i<n then some i else none
 | 0,i=>by simp [lN,cS]
 | n+1,i=>by
  show (bif asM n i then some n else cS (lN n) i)=_
  cases h:asM n i with
  | true=>cases aE.1 h;simp
  | false=>
   rw [cond_false,Jq n i]
   have:=fO.1 h
   by_cases h2:i<n
   ·rw [if_pos h2,if_pos (by omega)]
   ·rw [if_neg h2,if_neg (by omega)]
def gH:List BPat→Nat→Prop
 | [],_=>True
 | p::_,0=>p= .none
 | _::ps,i+1=>gH ps i
theorem La:∀ (n i:Nat) (bps:List BPat) (j:Nat),j<n→gH bps j∨hZ (yP i n bps) (i+j)=some (i+j)
 | 0,i,bps,j,h=>by omega
 | n+1,i,[],j,h=> .inl (by cases j <;>trivial)
 | n+1,i,p::ps,0,h=>by
  cases p with
  | none=>exact .inl rfl
  | _=>
   right
   show (bif asM i (i+0) then some i else _)=some (i+0)
   rw [Nat.add_zero,awl];rfl
 | n+1,i,p::ps,j+1,h=>by
  have ih:=La n (i+1) ps j (by omega)
  rcases ih with ih | ih
  ·exact .inl ih
  ·right
   have e:i+1+j=i+(j+1):=by omega
   rw [e] at ih
   cases p with
   | none=>exact ih
   | _=>
    show (bif asM i (i+(j+1)) then some i else hZ (yP (i+1) n ps) (i+(j+1)))=_
    rw [fO.2 (by omega:i≠i+(j+1))]
    exact ih
theorem UH (n:Nat) (bps:List BPat):(⟨lN n,yP 0 n bps,[],[]⟩:MS).Ok (gH bps):=by
 refine ⟨fun i h=>(by cases h),fun i b h=> ?_⟩
 have h':cS (lN n) i=some b:=h
 rw [Jq] at h'
 split at h'
 ·rename_i hlt
  cases h'
  have:=La n 0 bps i hlt
  rwa [aeE] at this
 ·cases h'
theorem pS {hp:List Blk} :∀ {ps:List BPat} {i:Nat} {m m':MS} {xs:List Blk} {ds:List Dat},fN hp ps i m=some (xs,ds,m')→∀ j,gH ps j→xs.getD j .none= .none
 | [],i,m,m',xs,ds,h,j,hj=>by simp only [fN] at h;cases h;rfl
 | p::ps,i,m,m',xs,ds,h,j,hj=>by
  simp only [fN] at h
  split at h
  ·rename_i x d m1 h1
   split at h
   ·rename_i h2
    cases h
    cases j with
    | zero=>
     cases (show p= .none from hj)
     unfold tv at h1
     split at h1 <;>cases h1 <;>rfl
    | succ j=>exact pS h2 j hj
   ·cases h
  ·cases h
theorem Es:∀ {l:List Nat} {ρ:List (Nat×Nat)},apart l ρ=true→∀ b,bW l b=true→hZ ρ b=none
 | [],_,_,b,h=>by cases h
 | a::l,ρ,h,b,hb=>by
  simp only [apart] at h
  split at h
  ·rename_i h1
   have hb':(bif asM a b then true else bW l b)=true:=hb
   cases hab:asM a b with
   | true=>cases aE.1 hab;exact h1
   | false=>rw [hab] at hb';exact Es h b hb'
  ·cases h
theorem BI {n:Nat} {m:MS} :∀ {ρ:List (Nat×Nat)},Dj n m ρ=true→∀ i b,cS ρ i=some b→i<n
 | [],_,i,b,h=>by cases h
 | (b0,i0)::ρ,h,i,b,hi=>by
  simp only [Dj,cZ] at h
  have hi':(bif asM i0 i then some b0 else cS ρ i)=some b:=hi
  cases hab:asM i0 i with
  | true=>cases aE.1 hab;exact mQ.1 h.1
  | false=>rw [hab] at hi';exact BI h.2 i b hi'
theorem DQ {n:Nat} :∀ {l:List Nat},p8 n l=true→∀ i,bW l i=true→i<n
 | [],_,i,h=>by cases h
 | a::l,h,i,hi=>by
  simp only [p8,cZ] at h
  have hi':(bif asM a i then true else bW l i)=true:=hi
  cases hab:asM a i with
  | true=>cases aE.1 hab;exact mQ.1 h.1
  | false=>rw [hab] at hi';exact DQ h.2 i hi'
structure Fine (D:Nat→Prop) (n0 n:Nat) (m:MS):Prop where
 ok:m.Ok D
 id:∀ i,i<n0→cS m.ρ i=some i
 apart:∀ b,bW m.fz b=true→hZ m.β b=none
 last:∀ i b,cS m.ρ i=some b→i<n
 nw:∀ i,bW m.nw i=true→i<n
 le:n0≤n
theorem Fz {n0 n:Nat} {bps:List BPat} {m m1:MS} (h1:(⟨lN n0,yP 0 n0 bps,[],[]⟩:MS).le m1∧((⟨lN n0,yP 0 n0 bps,[],[]⟩:MS).Ok (gH bps)→m1.Ok (gH bps))) (h2:m1.le m∧(m1.Ok (gH bps)→m.Ok (gH bps))) (hn:n0≤n) (hf:m.fine n=true):Fine (gH bps) n0 n m:=by
 unfold MS.fine at hf
 simp only [cZ] at hf
 exact ⟨h2.2 (h1.2 (UH n0 bps)),fun i hi=>h2.1.rho _ _ (h1.1.rho _ _ (by show cS (lN n0) i=_;rw [Jq,if_pos hi])),fun b hb=>Es hf.1 b hb,fun i b h=>BI hf.2.1 i b h,fun i h=>DQ hf.2.2 i h,hn⟩
theorem ιW_lt {n0 n:Nat} {m:MS} (hf:Fine D n0 n m) {i:Nat} (h:n≤i):ιW ι m i=none:=by
 unfold ιW
 cases hr:cS m.ρ i with
 | some b=>have:=hf.last i b hr;omega
 | none=>
  cases hn:bW m.nw i with
  | true=>have:=hf.nw i hn;omega
  | false=>rfl
theorem ιW_id {n0 n:Nat} {m:MS} (hf:Fine D n0 n m) {i:Nat} (h:i<n0):ιW ι m i=ι i:=by
 unfold ιW
 rw [hf.id i h]
theorem Cw {C:Ctx} {E:Ent} {hp':List Blk} {n0 n:Nat} (hm:Mem C E hp Im ι w) (hf:Fine D n0 n mf) (hlen:hp'.length=n)
  (hB:∀ j v,ιW ι mf j=some v→BRel (jr Im ι hp mf) (ιW ι mf) w (hp'.getD j .none) v∧(aM (hp'.getD j .none)=true→(∃ b,cS mf.ρ j=some b∧ι b=some v∧aM (hp.getD b .none)=true)∨v= .slice none 0 0))
  (hD:∀ j,D j→hp'.getD j .none= .none) (hE:∀ b,n0≤b→E.ι b=none) (hg:∀ g sv,C.glob g=some sv→∃ e l i c,sv= .eptr e l i c):Mem C E hp' (jr Im ι hp mf) (ιW ι mf) w:=by
 have hlt:∀ b v r,aM (hp.getD b .none)=true→ι b=some v→aB v=some r→r<w.heap.size:=fun b v r h1 h2 h3=>by
  have hb:=hm.hv b v h2
  cases hblk:hp.getD b .none with
  | none=>rw [hblk] at h1;cases h1
  | ro e l=>rw [hblk] at h1;cases h1
  | cells T cs=>
   rw [hblk] at hb
   obtain ⟨r',vs,rfl,h4,_⟩:=hb
   cases h3
   exact (asu.1 h4).1
  | own T e l=>
   rw [hblk] at hb
   obtain ⟨xs,⟨_,h2⟩,_⟩:=hb
   rcases h2 with ⟨a,rfl,_⟩ | ⟨g,cap,cur,rfl,h4,_,h6,_⟩
   ·exfalso
    revert h3
    cases a <;>simp [aB]
   ·simp [aB] at h3
    obtain ⟨_,rfl⟩:=h3
    exact (asu.1 h4).1
 have hinj:∀ j b,aM (hp'.getD j .none)=true→cS mf.ρ j=some b→hZ mf.β b=some j:=fun j b h1 h2=>by
  rcases hf.ok.inj j b h2 with h | h
  ·rw [hD j h] at h1;cases h1
  ·exact h
 have hnil:aB (.slice none 0 0)=none:=rfl
 have hsrc:∀ j v r,aM (hp'.getD j .none)=true→ιW ι mf j=some v→aB v=some r→∃ b,cS mf.ρ j=some b∧ι b=some v∧aM (hp.getD b .none)=true:=fun j v r h1 h2 h3=>by
  rcases (hB j v h2).2 h1 with h | h
  ·exact h
  ·subst h;rw [hnil] at h3;cases h3
 refine ⟨fun j v hj=>(hB j v hj).1,⟨fun r hr=> ?_,fun j v r h1 h2 h3=> ?_,fun j j' v v' r h1 h2 h3 h4 h5 h6=> ?_,fun j v r h1 h2 h3=> ?_⟩,⟨hm.since.os,hm.since.tape,hm.since.output,hm.since.size,hm.since.block,fun b v hb=> ?_,fun i hi=> .inl (hm.since.im i hi),fun i hi=> ?_⟩,fun g sv hs=> ?_⟩
 ·rcases hr with hr | ⟨b,v,h1,h2,h3,h4⟩
  ·exact hm.mr.imlt r hr
  ·exact hlt b v r h3 h2 h4
 ·obtain ⟨b,g1,g2,g3⟩:=hsrc j v r h1 h2 h3
  rintro (hr | ⟨b',v',k1,k2,k3,k4⟩)
  ·exact hm.mr.imm b v r g3 g2 h3 hr
  ·have:=hm.mr.sep b b' v v' r g3 k3 g2 k2 h3 k4
   subst this
   have:=hinj j b h1 g1
   rw [hf.apart b k1] at this
   cases this
 ·obtain ⟨b,g1,g2,g3⟩:=hsrc j v r h1 h3 h5
  obtain ⟨b',k1,k2,k3⟩:=hsrc j' v' r h2 h4 h6
  have:=hm.mr.sep b b' v v' r g3 k3 g2 k2 h5 h6
  subst this
  have e1:=hinj j b h1 g1
  have e2:=hinj j' b h2 k1
  rw [e1] at e2
  cases e2;rfl
 ·obtain ⟨b,g1,g2,g3⟩:=hsrc j v r h1 h2 h3
  exact hm.mr.mine b v r g3 g2 h3
 ·rcases atI b n0 with h | h
  ·rw [ιW_id hf h];exact hm.since.hd b v hb
  ·rw [hE b h] at hb;cases hb
 ·rcases hi with hi | ⟨b,v,h1,h2,h3,h4⟩
  ·exact hm.since.imnew i hi
  ·exact .inr (hm.mr.mine b v i h3 h2 h4)
 ·obtain ⟨e,l,i,c,rfl⟩:=hg g sv hs
  have:=hm.glob g _ hs
  obtain ⟨ad,xs,k1,k2,k3,k4⟩:=this
  exact ⟨ad,xs,k1,.inl k2,k3.mono (fun _=> .inl) fun _ _=>rfl,k4⟩
end
structure LA where
 n:Nat
 ps:List Pat
 bs:List BPat
 R:List Dat→Prop
 m:List Dat→Nat
structure Ann where
 cut:List (Nat×List LA)
 loop:List (Nat×List LA)
 nest:List (Nat×List LA×(List Dat→List LA)):= []
def Ov:List (Nat×List LA)→Nat→Option (List LA)
 | [],_=>none
 | (k,A)::l,i=>bif asM k i then some A else Ov l i
def Ss:List (Nat×List LA×(List Dat→List LA))→Nat→Option (List LA×(List Dat→List LA))
 | [],_=>none
 | (k,A)::l,i=>bif asM k i then some A else Ss l i
def sB:Code→Nat
 | .region id _ _=>id
 | .seq x _=>sB x
 | .block _ c=>sB c
 | .loop c=>sB c
 | .cond _ x _=>sB x
 | .scope c=>sB c
 | _=>1000000
inductive Miss:Nat→ES→Prop
def eS:ES:=⟨0,[],[],[],[]⟩
def pl:Nat→Nat→List (Nat×Pat)→List Pat
 | 0,_,_=> []
 | k+1,t,l=>(match plAt l t with | some p=>p | none=> .skip)::pl k (t+1) l
where plAt:List (Nat×Pat)→Nat→Option Pat
 | [],_=>none
 | (d,p)::l,t=>bif asM d t then some p else plAt l t
def kT (n0:Nat) (s:ES) (K:LA→List Dat→Prop):List LA→Prop
 | [] =>Miss 0 eS
 | A::l=>(match s with
  | ⟨n,ov,tm,hp,G⟩=>bif asM A.ps.length A.n&&asM n A.n then (match Pu n0 hp (rU ov tm) A.ps A.bs with | some (_,_,ds,_)=>K A ds | none=>kT n0 s K l) else kT n0 s K l)
def CP (A:LA) (K:ES→List Dat→Prop):Prop:=allPs A.ps fun tm ds=>Dn A.bs fun hp ds'=>impPs A.ps ds fun _=>xp (hsL tm) 0 A.bs ds' fun _=>K ⟨A.n,[],tm,hp,[]⟩ (ds++ds')
def CH (K:LA→ES→List Dat→Prop):List LA→Prop
 | [] =>True
 | [A] =>CP A (K A)
 | A::l=>CP A (K A)∧CH K l
def Bm (K:ES→Prop) (Q:Exit→ES→Prop):Exit→ES→Prop
 | .normal,s=>K s
 | e,s=>Q e s
def Jd (id:Nat) (Q:Exit→ES→Prop):Exit→ES→Prop
 | .exit id',s=>bif asM id' id then Q .normal s else Q (.exit id') s
 | e,s=>Q e s
def O1 (lb:Nat) (K:ES→Prop) (Q:Exit→ES→Prop):Exit→ES→Prop
 | .goto l',s=>bif asM l' lb then K s else False
 | e,s=>Q e s
def ES.clr (s:ES) (K:ES→Prop):Prop:=match s with | ⟨n,ov,tm,hp,_⟩=>K ⟨n,ov,tm,hp,[]⟩
section
variable (C:Ctx) (n0:Nat) (ann:Ann)
def jQ:Code→ES→(Exit→ES→Prop)→Prop
 | .skip,s,Q=>Q .normal s
 | .label _,s,Q=>Q .normal s
 | .region _ ops draw,s,Q=>(match draw with | true=>XV C ops s (fun s=>s.clr (Q .normal)) | false=>pk C ops ops.toList s (fun s=>s.clr (Q .normal)))
 | .seq x y,s,Q=>(match Ov ann.cut (sB y) with
  | none=>jQ x s (Bm (fun s=>jQ y s Q) Q)
  | some l=>jQ x s (Bm (fun s=>kT n0 s (fun A ds=>A.R ds∧True) l) Q)∧CH (fun A s ds=>A.R ds→jQ y s Q) l)
 | .cond c x y,s,Q=>(match s.ev C.glob c with | .bool b=>bif b then jQ x s Q else jQ y s Q | _=>Miss 1 eS)
 | .block id c,s,Q=>jQ c s (Jd id Q)
 | .loop c,s,Q=>(match Ov ann.loop (sB c) with
  | some l=>kT n0 s (fun A ds=>A.R ds∧True) l∧CH (fun A s ds=>A.R ds→jQ c s (Bm (fun s=>kT n0 s (fun A' ds'=>A'.R ds'∧A'.m ds'<A.m ds) l) Q)) l
  | none=>(match Ss ann.nest (sB c) with
   | some (l0,g)=>kT n0 s (fun _ ds0=>kT n0 s (fun A ds=>A.R ds∧True) (g ds0)∧CH (fun A s ds=>A.R ds→jQ c s (Bm (fun s=>kT n0 s (fun A' ds'=>A'.R ds'∧A'.m ds'<A.m ds) (g ds0)) Q)) (g ds0)) l0
   | none=>Miss (sB c) eS))
 | .scope (.seq (.label lb) c),s,Q=>(match Ov ann.loop (sB c) with
  | some l=>kT n0 s (fun A ds=>A.R ds∧True) l∧CH (fun A s ds=>A.R ds→jQ c s (O1 lb (fun s=>kT n0 s (fun A' ds'=>A'.R ds'∧A'.m ds'<A.m ds) l) Q)) l
  | none=>Miss (sB c) eS)
 | .exit id,s,Q=>Q (.exit id) s
 | .goto l,s,Q=>Q (.goto l) s
 | .ret,s,Q=>Q .ret s
 | _,_,_=>False
end
section
variable {C:Ctx} {E B:Ent} {n0:Nat}
theorem JR {s:ES} (hs:s.Ok) {K:ES→Prop} (h:s.clr K):∃ s':ES,s'.Ok∧s'.as=s.as∧K s':=by
 obtain ⟨n,ov,tm,hp,G⟩:=s
 exact ⟨⟨n,ov,tm,hp,[]⟩,⟨hs.len,hs.ov,(fun g hg=>by cases hg),fun g hg=>by cases hg⟩,rfl,h⟩
theorem wM {K:LA→ES→List Dat→Prop} :∀ {l:List LA},CH K l→∀ A∈l,CP A (K A)
 | [],_,A,h=>by cases h
 | [A0],h,A,hA=>by
  simp only [awn] at hA
  subst hA;exact h
 | A0::A1::l,h,A,hA=>by
  rcases atH.1 hA with rfl | hA
  ·exact h.1
  ·exact wM h.2 A hA
theorem kQ (hC:C.Ok) (hE:∀ b,n0≤b→E.ι b=none) (hB:∀ b,n0≤b→B.ι b=none) (hF:∀ b,B.F b→b<n0) {s:ES} {K:LA→List Dat→Prop} {a:Act} {w:World} (hs:s.Ok) (hR:jl C E B s.as a w):∀ l:List LA,kT n0 s K l→
  ∃ A∈l,∃ (tm:List SV) (hp:List Blk) (ds:List Dat),jl C E B ⟨tm,hp⟩ a w∧K A ds∧tm.length=A.n∧∀ F,CP A F→F ⟨A.n,[],tm,hp,[]⟩ ds
 | [],h=>by cases h
 | A::l,h=>by
  have other:kT n0 s K l→∃ A'∈A::l,∃ (tm:List SV) (hp:List Blk) (ds:List Dat),jl C E B ⟨tm,hp⟩ a w∧K A' ds∧tm.length=A'.n∧∀ F,CP A' F→F ⟨A'.n,[],tm,hp,[]⟩ ds:=fun h=>by
   obtain ⟨A',h1,h2⟩:=kQ hC hE hB hF (K:=K) hs hR l h
   exact ⟨A',awo _ h1,h2⟩
  obtain ⟨n,ov,tm,hp,G⟩:=s
  simp only [kT] at h
  cases hn:(asM A.ps.length A.n&&asM n A.n) with
  | false=>rw [hn] at h;exact other h
  | true=>
   rw [hn] at h
   simp only [cond_true] at h
   simp only [cZ] at hn
   have hn':=aE.1 hn.1
   have hn2:=aE.1 hn.2
   split at h
   ·rename_i svs' hp' ds m hw
    obtain ⟨ds1,ds2,m1,rfl,h1,h2,h3,h4⟩:=Qt hw
    obtain ⟨Im,ι,hRel,hFr,hA⟩:=hR
    have f1:=rN (D:=gH A.bs) h1
    have f2:=kz (D:=gH A.bs) h2
    have fine:=Fz f1 f2 h3 h4
    have hlenB:hp'.length=A.bs.length:=(iI h2).2.2
    have hmem:Mem C E hp' (jr Im ι hp m) (ιW ι m) w:=Cw hRel.mem fine hlenB (fun j v hj=>by
     have:=rl hRel.mem.hv fine.ok h2 (.refl _) j v (by rw [aeE];exact hj)
     rwa [aeE] at this) (fun j hj=>pS h2 j hj) hE hC.globE
    obtain ⟨k1,k2⟩:=yy hRel.mem.hv fine.ok h1 f2.1 (val:=fun t=>a.tmps.getD t undef) fun j _ _=>by
     rw [mX _ _ hs.ov];exact hRel.tm j
    have hlen:svs'.length=A.n:=by rw [k1,hn']
    refine ⟨A,awp,svs',hp',ds1++ds2,⟨jr Im ι hp m,ιW ι m,⟨hRel.defers,?_,fun t=> ?_,hmem⟩,fun b hb=>ιW_lt fine (by rw [← hlenB];exact hb),⟨⟨fun i hi=> .inl (hA.later.im i hi),fun b v hb=> ?_,hA.later.mem⟩,fun b hb=> ?_⟩⟩,h,hlen,fun F hF=> ?_⟩
    ·rw [hRel.size]
     show (aP ov tm).length=svs'.length
     rw [fu,hlen,← hn2];exact hs.len.symm
    ·have:=k2 t
     rwa [aeE] at this
    ·rcases atI b n0 with hb0 | hb0
     ·rw [ιW_id fine hb0];exact hA.later.hd b v hb
     ·rw [hB b hb0] at hb;cases hb
    ·have hb0:=hF b hb
     exact ⟨by rw [hlenB];exact Nat.lt_of_lt_of_le hb0 h3,by rw [ιW_id fine hb0];exact (hA.keep b hb).2⟩
    ·have e1:=(iI h2).1 _ ((tr h1).1 _ hF)
     have i1:=(tr h1).2 []
     have i2:=(iI h2).2.1 []
     rw [aiz] at i1 i2
     obtain ⟨vs,hvs⟩:=ya (Im:=jr Im ι hp m) (ι:=ιW ι m) (w:=w) svs' (fun t=>a.tmps.getD t undef) fun j=>by have:=k2 j;rwa [aeE] at this
     have e2:=imps_elim A.ps ds1 vs _ (by rw [i1];exact hvs) e1
     exact w5 (hs_vrels svs' vs hvs) A.bs 0 ds2 _ (fun j v hj=>by rw [i2];exact hmem.hv j v (by rw [← hj];congr 1;omega)) e2
   ·exact other h
theorem EJ {n:Nat} {tm:List SV} {hp:List Blk} (h:tm.length=n):(⟨n,[],tm,hp,[]⟩:ES).Ok:=⟨h.symm,(fun p hp=>by cases hp),(fun g hg=>by cases hg),fun g hg=>by cases hg⟩
theorem eZ (hC:C.Ok) (ann:Ann) (hE:∀ b,n0≤b→E.ι b=none) (hB:∀ b,n0≤b→B.ι b=none) (hF:∀ b,B.F b→b<n0):∀ (c:Code) (s:ES) (Q':Exit→ES→Prop) (Q:Exit→Act→World→Prop) (a:Act) (w:World),s.Ok→jl C E B s.as a w→jQ C n0 ann c s Q'→
  (∀ e s a w,Q' e s→s.Ok→jl C E B s.as a w→Q e a w)→c.wp C.P Q a w
 | .skip,s,Q',Q,a,w,hs,hR,h,hQ=>wp_skip (hQ _ _ _ _ h hs hR)
 | .label _,s,Q',Q,a,w,hs,hR,h,hQ=>wp_label (hQ _ _ _ _ h hs hR)
 | .region id ops draw,s,Q',Q,a,w,hs,hR,h,hQ=>by
  cases draw with
  | true=>
   refine On hC hC.mixed (K:=Next fun s=>s.clr (Q' .normal)) (fun s a w k r=> ?_) hR (Tk hs h)
   obtain ⟨s',h1,h2,h3⟩:=k
   obtain ⟨s'',k1,k2,k3⟩:=JR h1 h3
   exact hQ _ _ _ _ k3 k1 (by rw [k2,h2];exact r)
  | false=>
   refine I1 hC (K:=Next fun s=>s.clr (Q' .normal)) (fun s a w k r=> ?_) hR (CT _ _ hs h)
   obtain ⟨s',h1,h2,h3⟩:=k
   obtain ⟨s'',k1,k2,k3⟩:=JR h1 h3
   exact hQ _ _ _ _ k3 k1 (by rw [k2,h2];exact r)
 | .seq x y,s,Q',Q,a,w,hs,hR,h,hQ=>by
  simp only [jQ] at h
  split at h
  ·refine wp_seq (eZ hC ann hE hB hF x s _ _ a w hs hR h fun e s a w k hs r=> ?_)
   cases e with
   | normal=>exact eZ hC ann hE hB hF y s Q' Q a w hs r k hQ
   | exit id=>exact hQ _ _ _ _ k hs r
   | goto l=>exact hQ _ _ _ _ k hs r
   | ret=>exact hQ _ _ _ _ k hs r
   | panic c=>exact hQ _ _ _ _ k hs r
   | outgrown=>exact hQ _ _ _ _ k hs r
  ·rename_i l hl
   refine wp_seq (eZ hC ann hE hB hF x s _ _ a w hs hR h.1 fun e s' a w k hs' r=> ?_)
   cases e with
   | normal=>
    obtain ⟨A,hA,tm,hp,ds,k1,k2,k3,k4⟩:=kQ hC hE hB hF hs' r l k
    exact eZ hC ann hE hB hF y ⟨A.n,[],tm,hp,[]⟩ Q' Q a w (EJ k3) k1 (k4 (fun s ds=>A.R ds→jQ C n0 ann y s Q') (wM h.2 A hA) k2.1) hQ
   | exit id=>exact hQ _ _ _ _ k hs' r
   | goto l=>exact hQ _ _ _ _ k hs' r
   | ret=>exact hQ _ _ _ _ k hs' r
   | panic c=>exact hQ _ _ _ _ k hs' r
   | outgrown=>exact hQ _ _ _ _ k hs' r
 | .cond c x y,s,Q',Q,a,w,hs,hR,h,hQ=>by
  simp only [jQ] at h
  split at h
  ·rename_i b hb
   obtain ⟨Im,ι,hR',hFr,hA⟩:=hR
   have hv:=Ee (hp:=s.as.hp) hR'.tm hR'.mem.glob c
   have e1:AS.ev C.glob ⟨s.as.tm,s.as.hp⟩ c=s.as.ev C.glob c:=rfl
   rw [e1,← s.ev_eq hs C.glob,hb] at hv
   have hv':a.eval c= .bool b:=hv
   refine wp_cond_split hv' (fun ht=> ?_) (fun hf=> ?_)
   ·subst ht;exact eZ hC ann hE hB hF x s Q' Q a w hs ⟨Im,ι,hR',hFr,hA⟩ h hQ
   ·subst hf;exact eZ hC ann hE hB hF y s Q' Q a w hs ⟨Im,ι,hR',hFr,hA⟩ h hQ
  ·cases h
 | .block id c,s,Q',Q,a,w,hs,hR,h,hQ=>by
  refine wp_block (eZ hC ann hE hB hF c s _ _ a w hs hR h fun e s a w k hs r=> ?_)
  cases e with
  | exit id'=>
   simp only [Jd] at k
   simp only [Exit.inBlock]
   cases hid:asM id' id with
   | true=>rw [hid] at k;rw [if_pos (aE.1 hid)];exact hQ _ _ _ _ k hs r
   | false=>rw [hid] at k;rw [if_neg (fO.1 hid)];exact hQ _ _ _ _ k hs r
  | normal=>exact hQ _ _ _ _ k hs r
  | goto l=>exact hQ _ _ _ _ k hs r
  | ret=>exact hQ _ _ _ _ k hs r
  | panic c=>exact hQ _ _ _ _ k hs r
  | outgrown=>exact hQ _ _ _ _ k hs r
 | .loop c,s,Q',Q,a,w,hs,hR,h,hQ=>by
  simp only [jQ] at h
  have key:∀ l:List LA,kT n0 s (fun A ds=>A.R ds∧True) l→CH (fun A s ds=>A.R ds→jQ C n0 ann c s (Bm (fun s=>kT n0 s (fun A' ds'=>A'.R ds'∧A'.m ds'<A.m ds) l) Q')) l→Code.wp C.P (.loop c) Q a w:=fun l h0 hround=>by
   let J:Nat→Act→World→Prop:=fun n a w=>∃ A∈l,∃ (tm:List SV) (hp:List Blk) (ds:List Dat),jl C E B ⟨tm,hp⟩ a w∧A.R ds∧tm.length=A.n∧(∀ F,CP A F→F ⟨A.n,[],tm,hp,[]⟩ ds)∧A.m ds=n
   obtain ⟨A0,hA0,tm,hp,ds,k1,k2,k3,k4⟩:=kQ hC hE hB hF hs hR l h0
   refine wp_loop (fun a w=>∃ n,J n a w) (fun a w=>oY fun n=>J n a w) ⟨_,A0,hA0,tm,hp,ds,k1,k2.1,k3,k4,rfl⟩ fun a w hI=> ?_
   obtain ⟨n,hn⟩:=hI
   obtain ⟨⟨A,hA,tm,hp,ds,k1,k2,k3,k4,k5⟩,hmin⟩:=og (p:=fun n=>J n a w) hn
   refine eZ hC ann hE hB hF c ⟨A.n,[],tm,hp,[]⟩ _ _ a w (EJ k3) k1 (k4 (fun s ds=>A.R ds→jQ C n0 ann c s (Bm (fun s=>kT n0 s (fun A' ds'=>A'.R ds'∧A'.m ds'<A.m ds) l) Q')) (wM hround A hA) k2) fun e s a' w' k hs' r=> ?_
   cases e with
   | normal=>
    obtain ⟨A',hA',tm',hp',ds',g1,g2,g3,g4⟩:=kQ hC hE hB hF hs' r l k
    have hJ:J (A'.m ds') a' w':=⟨A',hA',tm',hp',ds',g1,g2.1,g3,g4,rfl⟩
    refine ⟨⟨_,hJ⟩,awq ((og (p:=fun n=>J n a' w') hJ).2 _ hJ) ?_⟩
    rw [← k5];exact g2.2
   | exit id=>exact hQ _ _ _ _ k hs' r
   | goto l=>exact hQ _ _ _ _ k hs' r
   | ret=>exact hQ _ _ _ _ k hs' r
   | panic c=>exact hQ _ _ _ _ k hs' r
   | outgrown=>exact hQ _ _ _ _ k hs' r
  split at h
  ·rename_i l hl
   exact key l h.1 h.2
  ·split at h
   ·rename_i l0 g hg
    obtain ⟨_,_,_,_,ds0,_,k2,_,_⟩:=kQ hC hE hB hF hs hR l0 h
    exact key (g ds0) k2.1 k2.2
   ·cases h
 | .exit id,s,Q',Q,a,w,hs,hR,h,hQ=>wp_exit (hQ _ _ _ _ h hs hR)
 | .goto l,s,Q',Q,a,w,hs,hR,h,hQ=>wp_goto (hQ _ _ _ _ h hs hR)
 | .ret,s,Q',Q,a,w,hs,hR,h,hQ=>wp_ret (hQ _ _ _ _ h hs hR)
 | .rangeFunc ..,_,_,_,_,_,_,_,h,_=>h.elim
 | .scope (.seq (.label lb) c),s,Q',Q,a,w,hs,hR,h,hQ=>by
  simp only [jQ] at h
  split at h
  ·rename_i l hl
   obtain ⟨h0,hround⟩:=h
   let J:Nat→Act→World→Prop:=fun n a w=>∃ A∈l,∃ (tm:List SV) (hp:List Blk) (ds:List Dat),jl C E B ⟨tm,hp⟩ a w∧A.R ds∧tm.length=A.n∧(∀ F,CP A F→F ⟨A.n,[],tm,hp,[]⟩ ds)∧A.m ds=n
   have pass:∀ a w,(∃ n,J n a w)→Code.wp C.P c (Exit.jump lb (fun a' w'=>(∃ n,J n a' w')∧(oY fun n=>J n a' w')<(oY fun n=>J n a w)) Q) a w:=fun a w hI=>by
    obtain ⟨n,hn⟩:=hI
    obtain ⟨⟨A,hA,tm,hp,ds,k1,k2,k3,k4,k5⟩,hmin⟩:=og (p:=fun n=>J n a w) hn
    refine eZ hC ann hE hB hF c ⟨A.n,[],tm,hp,[]⟩ _ _ a w (EJ k3) k1 (k4 (fun s ds=>A.R ds→jQ C n0 ann c s (O1 lb (fun s=>kT n0 s (fun A' ds'=>A'.R ds'∧A'.m ds'<A.m ds) l) Q')) (wM hround A hA) k2) fun e s a' w' k hs' r=> ?_
    cases e with
    | goto l'=>
     simp only [O1] at k
     cases hb:asM l' lb with
     | false=>rw [hb] at k;exact k.elim
     | true=>
      rw [hb] at k
      obtain ⟨A',hA',tm',hp',ds',g1,g2,g3,g4⟩:=kQ hC hE hB hF hs' r l k
      have hJ:J (A'.m ds') a' w':=⟨A',hA',tm',hp',ds',g1,g2.1,g3,g4,rfl⟩
      refine ⟨aE.1 hb,⟨_,hJ⟩,awq ((og (p:=fun n=>J n a' w') hJ).2 _ hJ) ?_⟩
      rw [← k5];exact g2.2
    | normal=>exact hQ _ _ _ _ k hs' r
    | exit id=>exact hQ _ _ _ _ k hs' r
    | ret=>exact hQ _ _ _ _ k hs' r
    | panic c=>exact hQ _ _ _ _ k hs' r
    | outgrown=>exact hQ _ _ _ _ k hs' r
   obtain ⟨A0,hA0,tm,hp,ds,k1,k2,k3,k4⟩:=kQ hC hE hB hF hs hR l h0
   have h1:=pass a w ⟨_,A0,hA0,tm,hp,ds,k1,k2.1,k3,k4,rfl⟩
   refine wp_scope_jumps (rest:= .seq .skip c) lb (fun a w=>∃ n,J n a w) (fun a w=>oY fun n=>J n a w) (by simp [findLabel]) (wp_seq (wp_label (wp_mono h1 fun e a' w' k=> ?_))) fun a w hI=>wp_seq (wp_skip (wp_mono (pass a w hI) fun e a' w' k=> ?_))
   ·cases e with
    | goto l'=>exact ⟨k.1,k.2.1⟩
    | normal=>exact k
    | exit id=>exact k
    | ret=>exact k
    | panic c=>exact k
    | outgrown=>exact k
   ·cases e <;>exact k
  ·cases h
 | .scope (.skip),_,_,_,_,_,_,_,h,_ | .scope (.label _),_,_,_,_,_,_,_,h,_ | .scope (.region ..),_,_,_,_,_,_,_,h,_ | .scope (.cond ..),_,_,_,_,_,_,_,h,_ | .scope (.block ..),_,_,_,_,_,_,_,h,_ | .scope (.loop _),_,_,_,_,_,_,_,h,_ | .scope (.rangeFunc ..),_,_,_,_,_,_,_,h,_ | .scope (.exit _),_,_,_,_,_,_,_,h,_ | .scope (.scope _),_,_,_,_,_,_,_,h,_ | .scope (.goto _),_,_,_,_,_,_,_,h,_ | .scope (.ret),_,_,_,_,_,_,_,h,_ | .scope (.seq (.skip) _),_,_,_,_,_,_,_,h,_ | .scope (.seq (.region ..) _),_,_,_,_,_,_,_,h,_ | .scope (.seq (.seq ..) _),_,_,_,_,_,_,_,h,_ | .scope (.seq (.cond ..) _),_,_,_,_,_,_,_,h,_ | .scope (.seq (.block ..) _),_,_,_,_,_,_,_,h,_ | .scope (.seq (.loop _) _),_,_,_,_,_,_,_,h,_ | .scope (.seq (.rangeFunc ..) _),_,_,_,_,_,_,_,h,_ | .scope (.seq (.exit _) _),_,_,_,_,_,_,_,h,_ | .scope (.seq (.scope _) _),_,_,_,_,_,_,_,h,_ | .scope (.seq (.goto _) _),_,_,_,_,_,_,_,h,_ | .scope (.seq (.ret) _),_,_,_,_,_,_,_,h,_=>h.elim
def PT (P:Program) (s:ES):ResultVar→Option SV
 | .tmp t=>some (rU s.ov s.tm t)
 | .cell a T=>(match rU s.ov s.tm a with
  | .ptr b c=>(match Ad P s.hp T (.ptr b c) with | .val sv=>some sv | _=>none)
  | _=>none)
def H6 (P:Program) (s:ES):List ResultVar→Option (List SV)
 | [] =>some []
 | r::rs=>(match PT P s r,H6 P s rs with | some x,some xs=>some (x::xs) | _,_=>none)
def uO (P:Program) (s:ES) (rs:List ResultVar):Option SV:=
 match H6 P s rs with | some [x] =>some x | some xs=>some (.tup xs) | none=>none
theorem ZV {P:Program} {s:ES} (hs:s.Ok) (r:ResultVar):PT P s r=tA P s.as r:=by
 cases r with
 | tmp t=>simp only [PT,tA];rw [mX _ _ hs.ov];rfl
 | cell a T=>simp only [PT,tA];rw [mX _ _ hs.ov];rfl
theorem LJ {P:Program} {s:ES} (hs:s.Ok):∀ rs:List ResultVar,H6 P s rs=md P s.as rs
 | [] =>rfl
 | r::rs=>by
  simp only [H6,md,ZV hs,LJ hs rs]
  cases tA P s.as r <;>cases md P s.as rs <;>rfl
theorem GO {P:Program} {s:ES} (hs:s.Ok) (rs:List ResultVar):uO P s rs=Ic P s.as rs:=by
 unfold uO Ic;rw [LJ hs]
 cases md P s.as rs with
 | none=>rfl
 | some l=>cases l with
  | nil=>rfl
  | cons a l=>cases l <;>rfl
def Cc (P:Program) (rs:List ResultVar) (K:SV→List Blk→Prop):Exit→ES→Prop
 | .normal,s=>(match uO P s rs with | some sv=>b8 sv fun sv=>K sv s.hp | none=>Miss 3 eS)
 | .ret,s=>(match uO P s rs with | some sv=>b8 sv fun sv=>K sv s.hp | none=>Miss 3 eS)
 | _,_=>False
inductive Res where
 | ite (b:Bool) (r1 r2:Res)
 | ret (rp:Pat) (rb:List BPat) (ds:List Dat)
def XH:Dat→Dat→Prop
 | .i a,.i b=>a=b
 | .b a,.b b=>a=b
 | .s a,.s b=>a=b
 | .r a,.r b=>a=b
 | .li a,.li b=>a=b
 | .lb a,.lb b=>a=b
 | _,_=>False
def GB:List Dat→List Dat→Prop
 | [],[] =>True
 | [a],[b] =>XH a b
 | a::l,b::m=>XH a b∧GB l m
 | _,_=>False
theorem SI {a b:Dat} (h:XH a b):a=b:=by
 cases a <;>cases b <;>simp only [XH] at h <;>first | (subst h;rfl) | exact h.elim
theorem MN:∀ {l m:List Dat},GB l m→l=m
 | [],[],_=>rfl
 | [a],[b],h=>by rw [SI h]
 | a::a'::l,b::b'::m,h=>by
  obtain ⟨h1,h2⟩:=h
  rw [SI h1,MN h2]
 | [],_::_,h=>h.elim
 | _::_,[],h=>by simp [GB] at h
 | [a],b::b'::m,h=>by
  obtain ⟨_,h2⟩:=h
  simp [GB] at h2
 | a::a'::l,[b],h=>by
  obtain ⟨_,h2⟩:=h
  simp [GB] at h2
def Res.ok (n0:Nat):Res→SV→List Blk→Prop
 | .ite b r1 r2,sv,hp=>bif b then r1.ok n0 sv hp else r2.ok n0 sv hp
 | .ret rp rb ds,sv,hp=>(match Fh n0 hp [rp] [sv] rb with | some (_,_,ds',_)=>GB ds' ds | none=>Miss 2 eS)
def Res.leaf:Res→Pat×List BPat×List Dat
 | .ite b r1 r2=>bif b then r1.leaf else r2.leaf
 | .ret rp rb ds=>(rp,rb,ds)
def fU (C:Ctx) (E:Ent) (Im:Nat→Prop) (ι:Nat→Option Value) (w:World) (n0:Nat) (r:Res):Ending→World→Prop:=fun e w'=>
 ∃ v Im' ι' hp' ds1,e= .returned v∧bM r.leaf.1 r.leaf.2.2=((bM r.leaf.1 r.leaf.2.2).1,ds1)∧hp'=(kU r.leaf.2.1 ds1).1∧VRel Im' ι' w' (bM r.leaf.1 r.leaf.2.2).1 v∧Mem C E hp' Im' ι' w'∧hp'.length=r.leaf.2.1.length∧
  (∀ b,r.leaf.2.1.length≤b→ι' b=none)∧Later Im ι w Im' ι' w'∧n0≤r.leaf.2.1.length∧∀ b,b<n0→ι' b=ι b
theorem qB (hC:C.Ok) (hE:∀ b,n0≤b→E.ι b=none) {Im Im':Nat→Prop} {ι ι':Nat→Option Value} {w w':World} {hp:List Blk} {v:Value} {sv:SV} (hl:Later Im ι w Im' ι' w') (hι:∀ b,n0≤b→ι b=none) (hk:∀ b,b<n0→ι' b=ι b) (hm:Mem C E hp Im' ι' w') (hv:VRel Im' ι' w' sv v):
  ∀ r:Res,r.ok n0 sv hp→fU C E Im ι w n0 r (.returned v) w'
 | .ite true r1 r2,h=>qB hC hE hl hι hk hm hv r1 h
 | .ite false r1 r2,h=>qB hC hE hl hι hk hm hv r2 h
 | .ret rp rb ds,h=>by
  simp only [Res.ok] at h
  split at h
  ·rename_i svs' hp' ds' m hw
   cases MN h
   obtain ⟨ds1,ds2,m1,rfl,h1,h2,h3,h4⟩:=Ho hw
   have f1:=convs_le (D:=gH rb) h1
   have f2:=kz (D:=gH rb) h2
   have fine:=Fz f1 f2 h3 h4
   have hB:=iI h2
   have hP:=(convs_all h1).2 ds2
   have hrel:=convs_rel (vs:= [v]) hm.hv fine.ok h1 f2.1 ⟨v,[],rfl,hv,rfl⟩
   have hP':instPs [rp] (ds1++ds2)=([(bM rp (ds1++ds2)).1],(bM rp (ds1++ds2)).2):=by simp [instPs]
   rw [hP'] at hP
   injection hP with hP1 hP2
   have hmem:Mem C E hp' (jr Im' ι' hp m) (ιW ι' m) w':=Cw hm fine hB.2.2 (fun j v hj=>by
    have:=rl hm.hv fine.ok h2 (.refl _) j v (by rw [aeE];exact hj)
    rwa [aeE] at this) (fun j hj=>pS h2 j hj) hE hC.globE
   refine ⟨v,jr Im' ι' hp m,ιW ι' m,hp',ds2,rfl,?_,?_,?_,hmem,hB.2.2,fun b hb=>ιW_lt fine hb,⟨fun i hi=> .inl (hl.im i hi),fun b u hb=> ?_,hl.mem⟩,h3,fun b hb=>(ιW_id fine hb).trans (hk b hb)⟩
   ·exact Prod.ext rfl hP2
   ·have:=hB.2.1 []
    rw [aiz] at this
    show hp'=(kU rb ds2).1
    rw [this]
   ·show VRel _ _ _ (bM rp (ds1++ds2)).1 v
    rw [← hP1] at hrel
    obtain ⟨v',vs',e,k1,_⟩:=hrel
    injection e with e1 e2
    subst e1
    exact k1
   ·rcases atI b n0 with hb0 | hb0
    ·rw [ιW_id fine hb0];exact hl.hd b u hb
    ·rw [hι b hb0] at hb;cases hb
  ·cases h
theorem L9 (hC:C.Ok) {f:FuncId} {fn:Func} {c:Code} (hf:C.P.funcs[f]? =some fn) (hb:fn.body=some c) (ann:Ann) {svs:List SV} {hp:List Blk} {r:Res} {k:Nat} (hn:fn.ntmps-svs.length=k) (hn2:svs.length+k=fn.ntmps)
  {Im:Nat→Prop} {ι:Nat→Option Value} {w:World} (hE:∀ b,hp.length≤b→E.ι b=none)
  (h:jQ C hp.length ann c ⟨fn.ntmps,[],svs++ab0 k .dead,hp,[]⟩ (Cc C.P fn.results.toList fun sv hp'=>r.ok hp.length sv hp')) {vs:List Value} (hD:E.dfr= []) (hm:Mem C E hp Im ι w) (hF:q9 hp.length ι) (hv:VRels Im ι w svs vs):
  Calls C.P f vs.toArray w (fU C E Im ι w hp.length r):=by
 refine calls_of_wp hf hb ?_
 have hlen:=kN hv
 refine eZ (E:=E) (B:=⟨w,Im,ι,fun b=>b<hp.length,[]⟩) (n0:=hp.length) hC ann hE hF (fun b hb=>hb) c _ _ _ _ _ (EJ (by simp [hn2])) ⟨Im,ι,⟨hD.symm,?_,fun t=> ?_,hm⟩,hF,⟨Later.refl _ _ _,fun b hb=>⟨hb,rfl⟩⟩⟩ h fun e s a w' kk hs rr=> ?_
 ·show _=(aP [] (svs++ab0 k .dead)).length
  simp [hlen,hn,aP]
 ·show VRel Im ι w (aH (svs++ab0 k .dead) t) _
  rw [ue]
  split
  ·rename_i ht
   obtain ⟨v,h1,h2⟩:=xf hv t ht
   have:(vs.toArray++Array.replicate (fn.ntmps-vs.toArray.size) undef).getD t undef=v:=by
    rw [Array.getD_eq_getD_getElem?,Array.getElem?_append_left (by simp;omega)]
    simp [h1]
   rw [this]
   exact h2
  ·rw [vL]
   split <;>trivial
 ·obtain ⟨Im',ι',hR,hF',hA⟩:=rr
  have key:(match uO C.P s fn.results.toList with | some sv=>b8 sv fun sv=>Res.ok hp.length r sv s.hp | none=>Miss 3 eS)→bodyPost C.P fn (fU C E Im ι w hp.length r) .normal a w':=fun kk=>by
   rw [GO hs] at kk
   split at kk
   ·rename_i sv hsv
    rw [bd] at kk
    obtain ⟨v,h1,h2⟩:=Hv hR hsv
    exact ⟨hR.defers.trans hD,v,h1,qB hC hE hA.later hF (fun b hb=>(hA.keep b hb).2) hR.mem h2 _ kk⟩
   ·cases kk
  cases e with
  | normal=>exact key kk
  | ret=>exact key kk
  | exit id=>exact kk.elim
  | goto l=>exact kk.elim
  | panic ch=>exact kk.elim
  | outgrown=>exact kk.elim
end
structure Ct where
 ps:List Pat
 bs:List BPat
 pre:List Dat→Prop
 res:List Dat→Res
def cx (σ:List Nat) (n i:Nat):Nat:=bif Nat.blt i σ.length then σ.getD i 0 else n+(i-σ.length)
def Bh (hp:List Blk) (ρ:List (Nat×Nat)):Nat→Nat→Option (List Nat)
 | 0,_=>some []
 | k+1,i=>(match cS ρ i with
  | some b=>bif aM (hp.getD b .none) then (match Bh hp ρ k (i+1) with | some l=>some (b::l) | none=>none) else none
  | none=>none)
def cO (f:Nat→Nat):List Nat→List Blk→List (Nat×Blk)
 | b::σ,x::xs=>(b,x.ren f)::cO f σ xs
 | _,_=> []
def wL (f:Nat→Nat):List Blk→List Blk
 | [] => []
 | x::xs=>x.ren f::wL f xs
def iy (f:Nat→Nat):Nat→List Blk→List Blk
 | 0,xs=>wL f xs
 | k+1,_::xs=>iy f k xs
 | _+1,[] => []
def akT:CSh→Bool
 | .sl _=>false
 | _=>true
def E7:List CSh→Bool
 | [] =>true
 | s::e=>akT s&&E7 e
mutual
def tS:Pat→Bool
 | .rd _=>false
 | .agg ps=>flatPs ps
 | .tup ps=>flatPs ps
 | .fn _ ps=>flatPs ps
 | .fb _ ps=>flatPs ps
 | .iface _ p=>tS p
 | _=>true
def flatPs:List Pat→Bool
 | [] =>true
 | p::ps=>tS p&&flatPs ps
end
def YU:BPat→Bool
 | .none=>true
 | .cells _ ps=>flatPs ps
 | .own _ e=>E7 e
def od:List BPat→Bool
 | [] =>true
 | p::ps=>YU p&&od ps
def M6:List Blk→List Nat
 | [] => []
 | x::xs=>x.hs++M6 xs
def AV:List Nat→Bool | [] =>true | _=>false
def gY:List Nat→List (Nat×Blk)
 | [] => []
 | b::l=>(b,.none)::gY l
def JK (σ:List Nat) (n:Nat) (fz:List Nat):Res→CR
 | .ite b r1 r2=> .ite b (JK σ n fz r1) (JK σ n fz r2)
 | .ret rp rb ds=>(match bM rp ds with
  | (sv,ds1)=>(match kU rb ds1 with
   | (xs,_)=>bif asN σ.length rb.length&&p8 rb.length (sv.hs++M6 xs) then
     (bif AV fz||(tS rp&&od rb) then .ret (sv.ren (cx σ n)) (cO (cx σ n) σ xs) (iy (cx σ n) σ.length xs)
     else .ret (sv.ren (cx σ n)) (cO (cx σ n) σ xs++gY fz) (iy (cx σ n) σ.length xs)) else .bad))
def aq (ct:Ct) (svs:List SV) (hp:List Blk):CR:=
 match Fh 0 hp ct.ps svs ct.bs with
 | some (_,_,ds,m)=>(match Bh hp m.ρ ct.bs.length 0 with
  | some σ=> .need (ct.pre ds) (JK σ hp.length m.fz (ct.res ds))
  | none=> .bad)
 | none=> .bad
def Ct.VC (C:Ctx) (ct:Ct) (rs:List ResultVar) (nt k:Nat) (c:Code) (ann:List Dat→Ann):Prop:=
 allPs ct.ps fun svs ds=>Dn ct.bs fun hp ds'=>impPs ct.ps ds fun _=>xp (hsL svs) 0 ct.bs ds' fun _=>ct.pre (ds++ds')→jQ C ct.bs.length (ann (ds++ds')) c ⟨nt,[],svs++ab0 k .dead,hp,[]⟩ (Cc C.P rs fun sv hp'=>(ct.res (ds++ds')).ok ct.bs.length sv hp')
def Ct.VCG (ct:Ct) (G:List SV→List Blk→List Dat→Prop):Prop:=
 allPs ct.ps fun svs ds=>Dn ct.bs fun hp ds'=>impPs ct.ps ds fun _=>xp (hsL svs) 0 ct.bs ds' fun _=>ct.pre (ds++ds')→G svs hp (ds++ds')
def eF (ct:Ct) (F:List SV→List Blk→CR) (svs:List SV) (hp:List Blk):CR:=
 match Fh 0 hp ct.ps svs ct.bs with
 | some _=>aq ct svs hp
 | none=>F svs hp
theorem ci {C:Ctx} {f:FuncId} {ct:Ct} {F:List SV→List Blk→CR} (h1:b9 C f (aq ct)) (h2:b9 C f F):b9 C f (eF ct F):=by
 intro svs hp K R h
 unfold eF at h
 split at h
 ·exact h1 svs hp K R h
 ·exact h2 svs hp K R h
theorem TK {Im Im':Nat→Prop} {w:World} :∀ {e:List CSh} {row:List CD} {vs:List Value},E7 e=true→RowRel Im w e row vs→RowRel Im' w e row vs:=by
 intro e
 induction e with
 | nil=>intro row vs h hr;cases hr;exact .nil
 | cons sh e ih=>
  intro row vs h hr
  simp only [E7,cZ] at h
  cases hr with
  | cons _ cd v _ row vs h1 h2=>
   refine .cons sh cd v e row vs ?_ (ih h.2 h2)
   cases h1 with
   | int k n=>exact .int k n
   | bool b=>exact .bool b
   | str l h'=>exact .str l h'
   | sl0=>cases h.1
   | sl=>cases h.1
theorem Hq {Im Im':Nat→Prop} {w:World} {e:List CSh} (h:E7 e=true):∀ {l:LD} {xs:List Value},FlatRel Im w e l xs→FlatRel Im' w e l xs
 | _,_,.nil _=> .nil _
 | _,_,.cons _ row vs l xs h1 h2=> .cons _ row vs l xs (TK h h1) (Hq h h2)
mutual
theorem xL {Im Im':Nat→Prop} {ι:Nat→Option Value} {w:World} :∀ (p:Pat) (ds:List Dat) (v:Value),tS p=true→VRel Im ι w (bM p ds).1 v→VRel Im' ι w (bM p ds).1 v
 | .skip,ds,v,h,hv=>by cases ds <;>exact hv
 | .int k,ds,v,h,hv=>by
  cases ds with
  | nil=>exact hv
  | cons d ds=>cases d <;>exact hv
 | .bool,ds,v,h,hv=>by
  cases ds with
  | nil=>exact hv
  | cons d ds=>cases d <;>exact hv
 | .str,ds,v,h,hv=>by
  cases ds with
  | nil=>exact hv
  | cons d ds=>cases d <;>exact hv
 | .rd e,ds,v,h,hv=>by cases h
 | .own i,ds,v,h,hv=>by cases ds <;>exact hv
 | .ptr i c,ds,v,h,hv=>by cases ds <;>exact hv
 | .nilp,ds,v,h,hv=>by cases ds <;>exact hv
 | .nilf,ds,v,h,hv=>by cases ds <;>exact hv
 | .nils,ds,v,h,hv=>by cases ds <;>exact hv
 | .agg ps,ds,v,h,hv=>by
  obtain ⟨vs,h1,k⟩:=hv
  exact ⟨vs,h1,flat_cells ps ds vs h k⟩
 | .arrI n k,ds,v,h,hv=>by
  cases ds with
  | nil=>exact hv
  | cons d ds=>cases d <;>exact hv
 | .arrB n,ds,v,h,hv=>by
  cases ds with
  | nil=>exact hv
  | cons d ds=>cases d <;>exact hv
 | .tup ps,ds,v,h,hv=>by
  obtain ⟨vs,h1,k⟩:=hv
  exact ⟨vs,h1,flat_rels ps ds vs h k⟩
 | .fn f ps,ds,v,h,hv=>by
  obtain ⟨vs,h1,k⟩:=hv
  exact ⟨vs,h1,flat_rels ps ds vs h k⟩
 | .fb f ps,ds,v,h,hv=>by
  obtain ⟨vs,h1,k⟩:=hv
  exact ⟨vs,h1,flat_rels ps ds vs h k⟩
 | .nili,ds,v,h,hv=>by cases ds <;>exact hv
 | .iface t p,ds,v,h,hv=>by
  obtain ⟨v',h1,k⟩:=hv
  exact ⟨v',h1,xL p ds v' h k⟩
theorem flat_rels {Im Im':Nat→Prop} {ι:Nat→Option Value} {w:World} :∀ (ps:List Pat) (ds:List Dat) (vs:List Value),flatPs ps=true→VRels Im ι w (instPs ps ds).1 vs→VRels Im' ι w (instPs ps ds).1 vs
 | [],ds,vs,h,hv=>hv
 | p::ps,ds,vs,h,hv=>by
  simp only [flatPs,cZ] at h
  obtain ⟨v,vs',rfl,k1,k2⟩:=hv
  exact ⟨v,vs',rfl,xL p ds v h.1 k1,flat_rels ps _ vs' h.2 k2⟩
theorem flat_cells {Im Im':Nat→Prop} {ι:Nat→Option Value} {w:World} :∀ (ps:List Pat) (ds:List Dat) (vs:List Value),flatPs ps=true→CellsRel Im ι w (instPs ps ds).1 vs→CellsRel Im' ι w (instPs ps ds).1 vs
 | [],ds,vs,h,hv=>hv
 | p::ps,ds,vs,h,hv=>by
  simp only [flatPs,cZ] at h
  have hv':CellsRel Im ι w ((bM p ds).1::(instPs ps (bM p ds).2).1) vs:=hv
  show CellsRel Im' ι w ((bM p ds).1::(instPs ps (bM p ds).2).1) vs
  have ih:=fun v=>xL (Im:=Im) (Im':=Im') (ι:=ι) (w:=w) p ds v h.1
  have ih2:=fun vs'=>flat_cells (Im:=Im) (Im':=Im') (ι:=ι) (w:=w) ps (bM p ds).2 vs' h.2
  cases ha:(bM p ds).1.isArr with
  | false=>
   obtain ⟨v,vs',rfl,k1,k2,k3⟩:=(gx ha).1 hv'
   exact (gx ha).2 ⟨v,vs',rfl,ih v k1,k2,ih2 vs' k3⟩
  | true=>
   cases hs:(bM p ds).1 <;>rw [hs] at ha hv' <;>first | cases ha | skip
   ·obtain ⟨k1,vs',rfl,k2⟩:=aD hv'
    exact dU k1 (ih2 vs' k2)
   ·obtain ⟨k1,vs',rfl,k2⟩:=dk hv'
    exact gP k1 (ih2 vs' k2)
end
theorem Ug {Im Im':Nat→Prop} {ι:Nat→Option Value} {w:World} (p:BPat) (ds:List Dat) (v:Value) (h:YU p=true) (hv:BRel Im ι w (qY p ds).1 v):BRel Im' ι w (qY p ds).1 v:=by
 cases p with
 | none=>cases ds <;>trivial
 | cells T ps=>
  obtain ⟨r,vs,h1,h2,k⟩:=hv
  exact ⟨r,vs,h1,h2,flat_cells ps ds vs h k⟩
 | own T e=>
  cases ds with
  | nil=>trivial
  | cons d ds=>
   cases d <;>first | trivial | skip
   obtain ⟨xs,h1,h2⟩:=hv
   exact ⟨xs,h1,Hq h h2⟩
theorem HA {Im Im':Nat→Prop} {ι:Nat→Option Value} {w:World} :∀ (ps:List BPat) (ds:List Dat) (j:Nat) (v:Value),od ps=true→BRel Im ι w ((kU ps ds).1.getD j .none) v→BRel Im' ι w ((kU ps ds).1.getD j .none) v
 | [],ds,j,v,h,hv=>trivial
 | p::ps,ds,0,v,h,hv=>by
  simp only [od,cZ] at h
  exact Ug p ds v h.1 hv
 | p::ps,ds,j+1,v,h,hv=>by
  simp only [od,cZ] at h
  exact HA ps _ j v h.2 hv
theorem Fi {hp:List Blk} {ρ:List (Nat×Nat)} :∀ {k i:Nat} {σ:List Nat},Bh hp ρ k i=some σ→σ.length=k∧∀ j,j<k→cS ρ (i+j)=some (σ.getD j 0)∧aM (hp.getD (σ.getD j 0) .none)=true
 | 0,i,σ,h=>by cases h;exact ⟨rfl,fun j hj=>by omega⟩
 | k+1,i,σ,h=>by
  simp only [Bh] at h
  split at h
  ·rename_i b hb
   cases hl:aM (hp.getD b .none) with
   | false=>rw [hl] at h;cases h
   | true=>
    rw [hl] at h
    simp only [cond_true] at h
    split at h
    ·rename_i l hs
     cases h
     obtain ⟨h1,h2⟩:=Fi hs
     refine ⟨by simp [h1],fun j hj=> ?_⟩
     cases j with
     | zero=>exact ⟨hb,hl⟩
     | succ j=>
      have:=h2 j (by omega)
      rw [show i+(j+1)=i+1+j from by omega]
      exact this
    ·cases h
  ·cases h
theorem DA {f:Nat→Nat} :∀ {σ:List Nat} {xs:List Blk},σ.Nodup→σ.length≤xs.length→∀ j,j<σ.length→cR (cO f σ xs) (σ.getD j 0)=some ((xs.getD j .none).ren f)
 | [],xs,hn,hl,j,hj=>by simp at hj
 | b::σ,[],hn,hl,j,hj=>by simp at hl
 | b::σ,x::xs,hn,hl,j,hj=>by
  have hn':=List.nodup_cons.1 hn
  have ih:=DA (f:=f) (σ:=σ) (xs:=xs) hn'.2 (by simpa using hl)
  simp only [cO,cR]
  cases j with
  | zero=>
   have:cR (cO f σ xs) b=none:=by
    have:∀ {σ:List Nat} {xs:List Blk},b∉σ→cR (cO f σ xs) b=none:=by
     intro σ
     induction σ with
     | nil=>intro xs _;rfl
     | cons c σ ih=>
      intro xs hb
      cases xs with
      | nil=>rfl
      | cons x xs=>
       simp only [cO,cR,ih (fun h=>hb (awo _ h))]
       rw [if_neg (fun h=>hb (by rw [h];exact awp))]
    exact this hn'.1
   simp [this]
  | succ j=>
   have:=ih j (by simpa using hj)
   simp only [List.getD_cons_succ]
   rw [this]
theorem HE {f:Nat→Nat} :∀ {σ:List Nat} {xs:List Blk} {b:Nat},b∉σ→cR (cO f σ xs) b=none
 | [],xs,b,_=>rfl
 | c::σ,[],b,_=>rfl
 | c::σ,x::xs,b,hb=>by
  simp only [cO,cR,HE (f:=f) (σ:=σ) (xs:=xs) fun h=>hb (awo _ h)]
  rw [if_neg (fun h=>hb (by rw [h];exact awp))]
theorem yN {f:Nat→Nat} :∀ xs:List Blk,(wL f xs).length=xs.length
 | [] =>rfl
 | x::xs=>by simp [wL,yN xs]
theorem Hi {f:Nat→Nat} :∀ (xs:List Blk) (j:Nat),(wL f xs)[j]? =(xs[j]?).map (Blk.ren f)
 | [],j=>rfl
 | x::xs,0=>rfl
 | x::xs,j+1=>by simpa [wL] using Hi xs j
theorem CU {f:Nat→Nat} :∀ (k:Nat) (xs:List Blk),iy f k xs=wL f (xs.drop k)
 | 0,xs=>rfl
 | k+1,[] =>rfl
 | k+1,x::xs=>by simpa [iy] using CU k xs
theorem NE:∀ (xs:List Blk) (j:Nat) (b:Nat),b∈(xs.getD j .none).hs→b∈M6 xs
 | [],j,b,h=>by cases h
 | x::xs,0,b,h=>atC _ h
 | x::xs,j+1,b,h=>awr _ (NE xs j b h)
theorem GR {n:Nat} :∀ {l:List Nat},p8 n l=true→∀ b∈l,b<n
 | [],_,b,h=>by cases h
 | a::l,h,b,hb=>by
  simp only [p8,cZ] at h
  rcases atH.1 hb with rfl | hb
  ·exact mQ.1 h.1
  ·exact GR h.2 b hb
theorem UB {l:List Nat} :AV l=true→∀ b,bW l b=false:=by
 intro h b
 cases l with
 | nil=>rfl
 | cons a l=>cases h
theorem Cu:∀ {l:List Nat} {b:Nat},bW l b=true↔b∈l
 | [],b=>by simp [bW]
 | a::l,b=>by
  simp only [bW,atH]
  cases h:asM a b with
  | true=>simp [aE.1 h]
  | false=>
   have:=fO.1 h
   simp only [cond_false]
   rw [Cu]
   exact ⟨.inr,fun k=>k.resolve_left fun e=>this e.symm⟩
theorem EY:∀ (g:List Nat) (b:Nat),cR (gY g) b=if b∈g then some .none else none
 | [],b=>by simp [gY,cR]
 | a::g,b=>by
  simp only [gY,cR,EY g b]
  by_cases h:b∈g
  ·simp [h]
  ·by_cases e:a=b
   ·subst e;simp [h]
   ·simp [h,e,Ne.symm e]
theorem tT (g:List Nat) (b:Nat):∀ l:List (Nat×Blk),cR (l++gY g) b=if b∈g then some .none else cR l b
 | [] =>EY g b
 | (c,x)::l=>by
  show (match cR (l++gY g) b with | some y=>some y | none=>if c=b then some x else none)=_
  rw [tT g b l]
  by_cases h:b∈g
  ·simp [h]
  ·simp only [h,if_false,cR]
   rfl
theorem zQ {C:Ctx} (hC:C.Ok) {E:Ent} {hp:List Blk} {Im:Nat→Prop} {ι:Nat→Option Value} {w:World} {m:MS} {σ:List Nat} {n0:Nat} {K:SV→List Blk→Prop} {R:Nat→Prop} (hm:Mem C E hp Im ι w) (hok:∀ i b,i<n0→cS m.ρ i=some b→hZ m.β b=some i) (hap:∀ b,bW m.fz b=true→hZ m.β b=none)
  (hσ:∀ j,j<n0→cS m.ρ j=some (σ.getD j 0)∧aM (hp.getD (σ.getD j 0) .none)=true) (hσn:σ.length=n0) (hfine:∀ i,n0≤i→ιW ι m i=none) (hRn:∀ b,R b→ι b=none) {hpl:List Blk} {e:Ending} {w':World} :∀ r:Res,
  (JK σ hp.length m.fz r).wp hp (fun sv hp'=>K sv hp'∧∀ b,hp.length≤b→b<hp'.length→R b)→
  fU C ⟨w,jr Im ι hp m,ιW ι m,fun r=>∃ i v,i<n0∧ιW ι m i=some v∧aM (hpl.getD i .none)=true∧aB v=some r,[]⟩ (jr Im ι hp m) (ιW ι m) w n0 r e w'→(∀ i v,ιW ι m i=some v→aM (hpl.getD i .none)=true→i<n0→aM (hp.getD (σ.getD i 0) .none)=true)→mG C E Im ι w hp.length K e w'
 | .ite true r1 r2,h,hp0,hl=>zQ hC hm hok hap hσ hσn hfine hRn r1 h hp0 hl
 | .ite false r1 r2,h,hp0,hl=>zQ hC hm hok hap hσ hσn hfine hRn r2 h hp0 hl
 | .ret rp rb ds,h,hp0,hl=>by
  obtain ⟨v,Iml,ιl,hp1,ds1,rfl,hi,rfl,hres,hml,hlen,hFl,hll,hnl,hkeep⟩:=hp0
  simp only [Res.leaf] at hi hres hml hlen hFl hnl
  have hi':bM rp ds=((bM rp ds).1,ds1):=hi
  simp only [JK] at h
  generalize hsv:(bM rp ds).1=sv at hi hres hi'
  rw [hi'] at h
  simp only at h
  generalize hxs:(kU rb ds1).1=xs at h hml hlen
  cases hc:(asN σ.length rb.length&&p8 rb.length (sv.hs++M6 xs)) with
  | false=>
   have h':CR.wp hp (fun sv hp'=>K sv hp'∧∀ b,hp.length≤b→b<hp'.length→R b) (bif (asN σ.length rb.length&&p8 rb.length (sv.hs++M6 xs)) then (bif AV m.fz||(tS rp&&od rb) then CR.ret (sv.ren (cx σ hp.length)) (cO (cx σ hp.length) σ xs) (iy (cx σ hp.length) σ.length xs) else CR.ret (sv.ren (cx σ hp.length)) (cO (cx σ hp.length) σ xs++gY m.fz) (iy (cx σ hp.length) σ.length xs)) else CR.bad):=h
   rw [hc] at h'
   exact h'.elim
  | true=>
   have h':CR.wp hp (fun sv hp'=>K sv hp'∧∀ b,hp.length≤b→b<hp'.length→R b) (bif (asN σ.length rb.length&&p8 rb.length (sv.hs++M6 xs)) then (bif AV m.fz||(tS rp&&od rb) then CR.ret (sv.ren (cx σ hp.length)) (cO (cx σ hp.length) σ xs) (iy (cx σ hp.length) σ.length xs) else CR.ret (sv.ren (cx σ hp.length)) (cO (cx σ hp.length) σ xs++gY m.fz) (iy (cx σ hp.length) σ.length xs)) else CR.bad):=h
   rw [hc] at h'
   have hg:∃ g:List Nat,(∀ b∈g,bW m.fz b=true)∧((∀ b,bW m.fz b=true→b∈g)∨(tS rp=true∧od rb=true))∧
     (K (sv.ren (cx σ hp.length)) (bq hp (cO (cx σ hp.length) σ xs++gY g)++iy (cx σ hp.length) σ.length xs)∧∀ b,hp.length≤b→b<(bq hp (cO (cx σ hp.length) σ xs++gY g)++iy (cx σ hp.length) σ.length xs).length→R b):=by
    cases hk:(AV m.fz||(tS rp&&od rb)) with
    | true=>
     rw [hk] at h'
     refine ⟨[],(fun b hb=>by cases hb),?_,?_⟩
     ·cases hn:AV m.fz with
      | true=>exact .inl fun b hb=>by rw [UB hn] at hb;cases hb
      | false=>
       rw [hn] at hk
       simp only [Bool.false_or,cZ] at hk
       exact .inr hk
     ·rw [show gY [] = [] from rfl,aiz]
      exact h'
    | false=>
     rw [hk] at h'
     exact ⟨m.fz,fun b hb=>Cu.2 hb,.inl fun b hb=>Cu.1 hb,h'⟩
   obtain ⟨g,hgfz,hcase,hK,hR⟩:=hg
   simp only [cZ,Nat.ble_eq] at hc
   obtain ⟨hc1,hc3⟩:=hc
   have hbelow:=GR hc3
   rw [hσn] at hc1
   let Bw:Nat→Prop:=fun r=>∃ b v,bW m.fz b=true∧b∉g∧ι b=some v∧aM (hp.getD b .none)=true∧aB v=some r
   have hBwIm:∀ r,Bw r→¬ Im r:=fun r ⟨b,v,h1,_,h2,h3,h4⟩=>hm.mr.imm b v r h3 h2 h4
   have hσmem:∀ j,j<n0→σ.getD j 0∈σ:=fun j hj=>by
    rw [ay,cH (by omega)]
    exact List.getElem_mem _
   have hσget:∀ b,b∈σ→∃ j,j<n0∧σ.getD j 0=b:=fun b hb=>by
    obtain ⟨j,hj,e⟩:=List.getElem_of_mem hb
    exact ⟨j,by omega,by rw [ay,cH hj];exact e⟩
   have hσinj:∀ i j,i<n0→j<n0→σ.getD i 0=σ.getD j 0→i=j:=fun i j hi hj e=>by
    have e1:=hok _ _ hi (hσ i hi).1
    have e2:=hok _ _ hj (hσ j hj).1
    rw [e,e2] at e1
    cases e1;rfl
   have hσnd:σ.Nodup:=by
    rw [List.nodup_iff_pairwise_ne,List.pairwise_iff_getElem]
    intro i j hi hj hij e
    have:=hσinj i j (by omega) (by omega) (by rw [ay,ay,cH hi,cH hj];exact e)
    omega
   have hσlt:∀ b∈σ,b<hp.length:=fun b hb=>by
    obtain ⟨j,hj,rfl⟩:=hσget b hb
    exact mV (hσ j hj).2
   have hιW:∀ j,j<n0→ιW ι m j=ι (σ.getD j 0):=fun j hj=>by unfold ιW;rw [(hσ j hj).1]
   have hσfz:∀ b∈σ,bW m.fz b=false:=fun b hb=>by
    obtain ⟨j,hj,rfl⟩:=hσget b hb
    cases hf:bW m.fz (σ.getD j 0) with
    | false=>rfl
    | true=>
     have:=hap _ hf
     rw [hok _ _ hj (hσ j hj).1] at this
     cases this
   have hσg:∀ b∈σ,b∉g:=fun b hb h=>by have:=hgfz b h;rw [hσfz b hb] at this;cases this
   have hxlen:xs.length=rb.length:=hlen
   let k2:=rb.length-n0
   have hrl:rb.length=n0+k2:=by show _=n0+(rb.length-n0);omega
   let Im':Nat→Prop:=fun r=>Iml r∧¬ Bw r
   let ι':Nat→Option Value:=fun b=>if hp.length≤b∧b<hp.length+k2 then ιl (n0+(b-hp.length)) else ι b
   have hι'old:∀ b,¬ (hp.length≤b∧b<hp.length+k2)→ι' b=ι b:=fun b h=>if_neg h
   have hι'new:∀ i,i<k2→ι' (hp.length+i)=ιl (n0+i):=fun i hi=>by
    show (if _ then _ else _)=_
    rw [if_pos ⟨agG _ _,by omega⟩,agj]
   have hrm_lt:∀ i,i<n0→cx σ hp.length i=σ.getD i 0:=fun i hi=>by
    unfold cx
    rw [show Nat.blt i σ.length=true from mQ.2 (by omega)];rfl
   have hrm_ge:∀ i,n0≤i→cx σ hp.length i=hp.length+(i-n0):=fun i hi=>by
    unfold cx
    cases hb:Nat.blt i σ.length with
    | true=>have:=mQ.1 hb;omega
    | false=>rw [hσn];rfl
   have hagree:∀ i,i<rb.length→ι' (cx σ hp.length i)=ιl i:=fun i hi=>by
    rcases atI i n0 with h | h
    ·rw [hrm_lt i h,hι'old _ (by have:=hσlt _ (hσmem i h);omega),hkeep i h,hιW i h]
    ·rw [hrm_ge i h,hι'new _ (by omega)]
     congr 1;omega
   have hhp'len:(bq hp (cO (cx σ hp.length) σ xs++gY g)++iy (cx σ hp.length) σ.length xs).length=hp.length+k2:=by
    rw [ce,ig,CU,yN,eH,hxlen,hσn]
   have hnone:∀ b,hp.length≤b→b<hp.length+k2→ι b=none:=fun b h1 h2=>hRn b (hR b h1 (by rw [hhp'len];exact h2))
   have hget_old:∀ j,j<n0→(bq hp (cO (cx σ hp.length) σ xs++gY g)++iy (cx σ hp.length) σ.length xs).getD (σ.getD j 0) .none=(xs.getD j .none).ren (cx σ hp.length):=fun j hj=>by
    have:=hσlt _ (hσmem j hj)
    rw [pK,if_neg (by omega),tT,if_neg (hσg _ (hσmem j hj)),DA hσnd (by omega) j (by omega)]
    rfl
   have hget_new:∀ i,i<k2→(bq hp (cO (cx σ hp.length) σ xs++gY g)++iy (cx σ hp.length) σ.length xs).getD (hp.length+i) .none=(xs.getD (n0+i) .none).ren (cx σ hp.length):=fun i hi=>by
    have hx:xs[n0+i]? =some xs[n0+i] :=cH (by omega)
    rw [pK,if_pos (agG _ _),CU,Hi,agj,List.getElem?_drop,hσn,ay (l:=xs),hx]
    rfl
   have hget_g:∀ b,b<hp.length→b∈g→(bq hp (cO (cx σ hp.length) σ xs++gY g)++iy (cx σ hp.length) σ.length xs).getD b .none= .none:=fun b h1 h2=>by
    rw [pK,if_neg (by omega),tT,if_pos h2]
    rfl
   have hget_oth:∀ b,b<hp.length→b∉σ→b∉g→(bq hp (cO (cx σ hp.length) σ xs++gY g)++iy (cx σ hp.length) σ.length xs).getD b .none=hp.getD b .none:=fun b h1 h2 h3=>by
    rw [pK,if_neg (by omega),tT,if_neg h3,HE h2]
    rfl
   generalize hhp':bq hp (cO (cx σ hp.length) σ xs++gY g)++iy (cx σ hp.length) σ.length xs=hp' at hK hR hhp'len hget_old hget_new hget_oth hget_g
   have hlaterIm:∀ r,Im r→Im' r:=fun r hr=>⟨hll.im r (.inl hr),fun hB=>hBwIm r hB hr⟩
   have hsame:(∀ b,bW m.fz b=true→b∈g)→Later Iml ιl w' Im' ιl w':=fun hf=>⟨fun r hr=>⟨hr,fun ⟨b,v,h1,h2,_⟩=>h2 (hf b h1)⟩,fun b v h=>h,fun _ _=>rfl⟩
   have hresI:VRel Im' ιl w' sv v:=by
    rcases hcase with hf | ⟨hf,_⟩
    ·exact VRel.mono (hsame hf) sv v hres
    ·rw [← hsv] at hres ⊢;exact xL rp ds v hf hres
   have hblkI:∀ j u,ιl j=some u→BRel Im' ιl w' (xs.getD j .none) u:=fun j u hj=>by
    have hb:=hml.hv j u hj
    rcases hcase with hf | ⟨_,hf⟩
    ·exact BRel.later (hsame hf) (fun _ _ _=>rfl) hb
    ·rw [← hxs] at hb ⊢;exact HA rb ds1 j u hf hb
   let hpX:List Blk:=(List.range hp'.length).map fun b=>if σ.contains b=true∨hp.length≤b then hp'.getD b .none else .none
   have hpX_get:∀ b,hpX.getD b .none=if b<hp'.length then (if σ.contains b=true∨hp.length≤b then hp'.getD b .none else .none) else .none:=fun b=>vZ
   have hsrc:∀ b u,ι' b=some u→hpX.getD b .none= .none∨∃ i,i<rb.length∧b=cx σ hp.length i∧ιl i=some u∧hpX.getD b .none=(xs.getD i .none).ren (cx σ hp.length):=fun b u hb=>by
    by_cases h1:hp.length≤b∧b<hp.length+k2
    ·right
     refine ⟨n0+(b-hp.length),by omega,?_,?_,?_⟩
     ·rw [hrm_ge _ (agG _ _)];omega
     ·rw [← hι'new (b-hp.length) (by omega),show hp.length+(b-hp.length)=b from by omega];exact hb
     ·rw [hpX_get,if_pos (by rw [hhp'len];exact h1.2),if_pos (.inr h1.1),← hget_new _ (by omega),show hp.length+(b-hp.length)=b from by omega]
    ·by_cases h2:b∈σ
     ·obtain ⟨j,hj,rfl⟩:=hσget b h2
      have hlt':=hσlt _ h2
      right
      refine ⟨j,by omega,(hrm_lt j hj).symm,?_,?_⟩
      ·rw [← hagree j (by omega),hrm_lt j hj];exact hb
      ·rw [hpX_get,if_pos (by rw [hhp'len];omega),if_pos (.inl (by simpa using h2)),hget_old j hj]
     ·left
      rw [hpX_get]
      split
      ·rename_i h3
       rw [hhp'len] at h3
       rw [if_neg]
       rintro (h4 | h4)
       ·exact h2 (by simpa using h4)
       ·exact h1 ⟨h4,h3⟩
      ·rfl
   have hMg:∀ b,(bn (σ++g) 0 hp).getD b .none=if (σ++g).contains b then hp.getD b .none else .none:=fun b=>by
    rw [n8,aeE]
   have hrminj:∀ i j,i<rb.length→j<rb.length→i=j→cx σ hp.length i=cx σ hp.length j:=fun i j _ _ h=>by rw [h]
   have hσc:∀ b∈σ,(σ++g).contains b=true:=fun b hb=>by simp [hb]
   have hX:Mem C (vJ w Im ι (σ++g) (bn (σ++g) 0 hp)) hpX Im' ι' w':=by
    have hFF:∀ r,(∃ i v,i<n0∧ιW ι m i=some v∧aM (hpl.getD i .none)=true∧aB v=some r)→(vJ w Im ι (σ++g) (bn (σ++g) 0 hp)).F r:=by
     rintro r ⟨i,u,h1,h2,h3,h4⟩
     refine ⟨σ.getD i 0,u,hσc _ (hσmem i h1),by rw [← hιW i h1];exact h2,?_,h4⟩
     rw [hMg,if_pos (hσc _ (hσmem i h1))]
     exact (hσ i h1).2
    have hll':Later Im ι w Im' ι' w':=⟨hlaterIm,fun b u hb=>by
     rw [hι'old b fun h=>by rw [hnone b h.1 h.2] at hb;cases hb]
     exact hb,fun i hi=>hll.mem i (.inl hi)⟩
    refine ⟨fun b u hb=> ?_,⟨fun r hr=>hml.mr.imlt r hr.1,fun b u r h1 h2 h3=> ?_,fun b b' u u' r h1 h2 h3 h4 h5 h6=> ?_,fun b u r h1 h2 h3=> ?_⟩,⟨hml.since.os,hml.since.tape,hml.since.output,hml.since.size,fun k h1 h2=>hml.since.block k h1 fun h=>h2 (hFF k h),hll'.hd,hlaterIm,fun i h=> ?_⟩,hm.glob.later hll'⟩
    ·rcases hsrc b u hb with h | ⟨i,h1,rfl,h2,h3⟩
     ·rw [h];trivial
     ·rw [h3]
      exact (BRel.ren fun c hc=>hagree c (hbelow c (awr _ (NE xs i c hc)))).2 (hblkI i u h2)
    ·rcases hsrc b u h2 with h | ⟨i,g1,rfl,g2,g3⟩
     ·rw [h] at h1;cases h1
     ·rw [g3,wz] at h1
      exact fun hr=>hml.mr.imm i u r h1 g2 h3 hr.1
    ·rcases hsrc b u h3 with h | ⟨i,g1,rfl,g2,g3⟩
     ·rw [h] at h1;cases h1
     ·rcases hsrc b' u' h4 with h | ⟨j,k1,rfl,k2',k3⟩
      ·rw [h] at h2;cases h2
      ·rw [g3,wz] at h1
       rw [k3,wz] at h2
       exact hrminj i j g1 k1 (hml.mr.sep i j u u' r h1 h2 g2 k2' h5 h6)
    ·rcases hsrc b u h2 with h | ⟨i,g1,rfl,g2,g3⟩
     ·rw [h] at h1;cases h1
     ·rw [g3,wz] at h1
      exact (hml.mr.mine i u r h1 g2 h3).imp id (hFF r)
    ·rcases hml.since.imnew i h.1 with h1 | h1 | h1
     ·rcases h1 with h1 | ⟨b,v,k1,k2,k3,k4⟩
      ·exact .inl h1
      ·by_cases hbg:b∈g
       ·exact .inr (.inr ⟨b,v,by simp [hbg],k2,by rw [hMg,if_pos (by simp [hbg])];exact k3,k4⟩)
       ·exact absurd ⟨b,v,k1,hbg,k2,k3,k4⟩ h.2
     ·exact .inr (.inl h1)
     ·exact .inr (.inr (hFF i h1))
   have hF:Mem C E hp' Im' ι' w':=Mem.frame (hpM:=bn (σ++g) 0 hp) (n:=hp.length) (k:=k2) hm hMg hX hι'old (fun b h1 h2=>hnone b h1 h2)
    (fun b hb=>by
     rw [hpX_get]
     rcases hb with h | h
     ·rcases ads.1 (by simpa using h) with h | h
      ·rw [if_pos (by rw [hhp'len];have:=hσlt b h;omega),if_pos (.inl (by simpa using h))]
      ·by_cases h3:b<hp.length
       ·rw [if_pos (by rw [hhp'len];omega),if_neg (by rintro (h4 | h4);exact hσg b (by simpa using h4) h;omega),hget_g b h3 h]
       ·by_cases h4:b<hp'.length
        ·rw [if_pos h4,if_pos (.inr (by omega))]
        ·rw [if_neg h4,ay,gd (by omega)];rfl
     ·rw [if_pos (by rw [hhp'len];exact h.2),if_pos (.inr h.1)])
    (fun b h1 h2=>by
     have h1':b∉σ∧b∉g:=by
      have:¬ b∈σ++g:=by simpa using h1
      exact ⟨fun h=>this (atC _ h),fun h=>this (awr _ h)⟩
     by_cases h3:b<hp.length
     ·exact hget_oth b h3 h1'.1 h1'.2
     ·rw [ay,ay,gd (by rw [hhp'len];omega),gd (by omega)])
   refine ⟨v,_,hp',Im',ι',rfl,hK,(VRel.ren sv v fun b hb=>hagree b (hbelow b (atC _ hb))).2 hresI,hF,by rw [hhp'len];omega,fun b hb=>hι'old b (by rw [← hhp'len];exact hb),⟨hlaterIm,fun b u hb=> ?_,fun i hi=>hll.mem i (.inl hi)⟩⟩
   rw [hι'old b fun h=>by rw [hnone b h.1 h.2] at hb;cases hb]
   exact hb
theorem ws {C:Ctx} (hC:C.Ok) {f:FuncId} {ct:Ct} (G:List SV→List Blk→List Dat→Prop)
  (hrun:∀ (svs:List SV) (hp:List Blk) (ds:List Dat) (E:Ent) (Im:Nat→Prop) (ι:Nat→Option Value) (w:World) (vs:List Value),G svs hp ds→svs.length=ct.ps.length→hp.length=ct.bs.length→E.dfr= [] →(∀ b,hp.length≤b→E.ι b=none)→Mem C E hp Im ι w→q9 hp.length ι→VRels Im ι w svs vs→Calls C.P f vs.toArray w (fU C E Im ι w hp.length (ct.res ds)))
  (hcall:∀ vs:Array Value,∀ w,vs.size=ct.ps.length→(callFunc f vs).run C.P w= .ok (.enter f vs) w) (hvc:ct.VCG G):b9 C f (aq ct):=by
 intro svs hp K R h E Im ι w vs hm hRn hv
 unfold aq at h
 split at h
 ·rename_i svs' hpl ds m hw
  split at h
  ·rename_i σ hσ
   obtain ⟨hpre,h⟩:=h
   obtain ⟨ds1,ds2,m1,rfl,h1,h2,h3,h4⟩:=Ho hw
   have f1:=convs_le (D:=gH ct.bs) h1
   have f2:=kz (D:=gH ct.bs) h2
   have fine:=Fz f1 f2 h3 h4
   have hlenB:hpl.length=ct.bs.length:=(iI h2).2.2
   obtain ⟨hσl,hσs⟩:=Fi hσ
   have hvl:=convs_rel hm.hv fine.ok h1 f2.1 hv
   have hm0:Mem C ⟨w,Im,fun _=>none,fun r=>∃ b v,ι b=some v∧aM (hp.getD b .none)=true∧aB v=some r,[]⟩ hp Im ι w:=
    ⟨hm.hv,⟨hm.mr.imlt,hm.mr.imm,hm.mr.sep,fun b v r a1 a2 a3=> .inr ⟨b,v,a2,a1,a3⟩⟩,⟨rfl,rfl,rfl,ar5 _,fun _ _ _=>rfl,(fun b v h=>by cases h),fun _ h=>h,fun _ h=> .inl h⟩,hm.glob⟩
   have hm1:=Cw hm0 fine hlenB (fun j v hj=>by
    have:=rl hm.hv fine.ok h2 (.refl _) j v (by rw [aeE];exact hj)
    rwa [aeE] at this) (fun j hj=>pS h2 j hj) (fun _ _=>rfl) hC.globE
   have hfine:∀ i,ct.bs.length≤i→ιW ι m i=none:=fun i hi=>ιW_lt fine hi
   have hml:Mem C ⟨w,jr Im ι hp m,ιW ι m,fun r=>∃ i v,i<ct.bs.length∧ιW ι m i=some v∧aM (hpl.getD i .none)=true∧aB v=some r,[]⟩ hpl (jr Im ι hp m) (ιW ι m) w:=by
    refine ⟨hm1.hv,⟨hm1.mr.imlt,hm1.mr.imm,hm1.mr.sep,fun b v r a1 a2 a3=> .inr ⟨b,v,?_,a2,a1,a3⟩⟩,⟨rfl,rfl,rfl,ar5 _,fun _ _ _=>rfl,fun _ _ h=>h,fun _ h=>h,fun _ h=> .inl h⟩,hm1.glob⟩
    rcases atI b ct.bs.length with hlt | hge
    ·exact hlt
    ·rw [hfine b hge] at a2;cases a2
   have e1:=(iI h2).1 _ ((convs_all h1).1 _ hvc)
   have i1:=(convs_all h1).2 []
   have i2:=(iI h2).2.1 []
   rw [aiz] at i1 i2
   have e2:=imps_elim ct.ps ds1 vs _ (by rw [i1];exact hvl) e1
   have e3:=w5 (hs_vrels svs' vs hvl) ct.bs 0 ds2 _ (fun j v hj=>by rw [i2];exact hm1.hv j v (by rw [← hj];congr 1;omega)) e2
   have e4:=e3 hpre
   have hlsv:svs'.length=ct.ps.length:=by
    have:∀ (ps:List Pat) (ds:List Dat),(instPs ps ds).1.length=ps.length:=by
     intro ps
     induction ps with
     | nil=>intro ds;rfl
     | cons p ps ih=>intro ds;simp [instPs,ih]
    have:=this ct.ps ds1
    rwa [i1] at this
   have hbody:=hrun svs' hpl (ds1++ds2) ⟨w,jr Im ι hp m,ιW ι m,fun r=>∃ i v,i<ct.bs.length∧ιW ι m i=some v∧aM (hpl.getD i .none)=true∧aB v=some r,[]⟩ _ _ w vs e4 hlsv hlenB rfl (fun b hb=>hfine b (by rw [← hlenB];exact hb)) hml (fun b hb=>hfine b (by rw [← hlenB];exact hb)) hvl
   rw [hlenB] at hbody
   have ok0:m.Ok (fun _=>False):=(kz h2).2 ((convs_le h1).2 ⟨fun i h=>(by cases h),fun i b h=>(by cases h)⟩)
   have hinj:∀ i b,i<ct.bs.length→cS m.ρ i=some b→hZ m.β b=some i:=fun i b _ hb=>(ok0.inj i b hb).resolve_left id
   refine .inl ⟨hcall _ _ ?_,Calls.mono hbody fun e w' hp0=> ?_⟩
   ·have:=kN hvl
    simp;omega
   ·exact zQ hC hm hinj fine.apart (fun j hj=>by have:=hσs j hj;rwa [aeE] at this) hσl hfine hRn _ h hp0 fun i v a1 a2 a3=>by
     have:=(hσs i a3).2
     exact this
  ·exact h.elim
 ·exact h.elim
theorem Nh {C:Ctx} (hC:C.Ok) {f:FuncId} {fn:Func} {c:Code} (hf:C.P.funcs[f]? =some fn) (hb:fn.body=some c) (ann:List Dat→Ann) {ct:Ct} {k:Nat} (hlenps:ct.ps.length+k=fn.ntmps) (hcall:∀ vs:Array Value,∀ w,vs.size=ct.ps.length→(callFunc f vs).run C.P w= .ok (.enter f vs) w)
  (hvc:ct.VC C fn.results.toList fn.ntmps k c ann):b9 C f (aq ct):=by
 refine ws hC (fun svs hp ds=>jQ C ct.bs.length (ann ds) c ⟨fn.ntmps,[],svs++ab0 k SV.dead,hp,[]⟩ (Cc C.P fn.results.toList fun sv hp'=>(ct.res ds).ok ct.bs.length sv hp')) (fun svs hp ds E Im ι w vs h h1 h2 hD hE hm hF hv=> ?_) hcall hvc
 rw [← h2] at h
 exact L9 hC hf hb (ann ds) (k:=k) (by omega) (by omega) hE h hD hm hF hv
def HX (k:IntKind):List Int→List Value→Option (List Value)
 | [],vs=>some vs
 | n::l,.int k' n'::vs=>if k'=k then (if n'=n then HX k l vs else none) else none
 | _,_=>none
def HW:List Bool→List Value→Option (List Value)
 | [],vs=>some vs
 | b::l,.bool b'::vs=>if b'=b then HW l vs else none
 | _,_=>none
def PY:SV→Value→Bool
 | .int k n,.int k' n'=>decide (k'=k)&&decide (n'=n)
 | .bool b,.bool b'=>decide (b'=b)
 | .str [],.string s=>decide (s.data.toList= [])
 | .nilp,.pointer none=>true
 | .nilf,.nilFunc=>true
 | .nils,.slice none 0 0=>true
 | .nili,.nilIface=>true
 | _,_=>false
def Ak:List SV→List Value→Bool
 | [],vs=>(match vs with | [] =>true | _=>false)
 | .arrI n k l::cs,vs=>decide (l.length=n)&&(match HX k l vs with | some vs=>Ak cs vs | none=>false)
 | .arrB n l::cs,vs=>decide (l.length=n)&&(match HW l vs with | some vs=>Ak cs vs | none=>false)
 | s::cs,vs=>(match vs with | v::vs=>PY s v&&Ak cs vs | [] =>false)
theorem I0 {k:IntKind} :∀ {l:List Int} {vs vs':List Value},HX k l vs=some vs'→vs=l.map (Value.int k)++vs'
 | [],vs,vs',h=>by cases h;rfl
 | n::l,vs,vs',h=>by
  cases vs with
  | nil=>cases h
  | cons v vs=>
   cases v <;>simp only [HX] at h <;>try cases h
   split at h
   ·split at h
    ·rename_i h1 h2
     subst h1;subst h2
     rw [I0 h];rfl
    ·cases h
   ·cases h
theorem I7:∀ {l:List Bool} {vs vs':List Value},HW l vs=some vs'→vs=l.map Value.bool++vs'
 | [],vs,vs',h=>by cases h;rfl
 | n::l,vs,vs',h=>by
  cases vs with
  | nil=>cases h
  | cons v vs=>
   cases v <;>simp only [HW] at h <;>try cases h
   split at h
   ·rename_i h1
    subst h1
    rw [I7 h];rfl
   ·cases h
theorem UP {s:SV} {v:Value} (h:PY s v=true) (Im:Nat→Prop) (ι:Nat→Option Value) (w:World):CellsRel Im ι w [s] [v] :=by
 unfold PY at h
 split at h
 ·simp only [cZ,aQ] at h
  obtain ⟨rfl,rfl⟩:=h
  exact dH rfl rfl
 ·simp only [aQ] at h
  subst h
  exact dH rfl rfl
 ·rename_i s
  simp only [aQ] at h
  obtain ⟨⟨l⟩⟩:=s
  have:l= [] :=h
  subst this
  exact dH rfl ⟨rfl,asq _⟩
 ·exact dH rfl rfl
 ·exact dH rfl rfl
 ·exact dH rfl rfl
 ·exact dH rfl rfl
 ·cases h
theorem wy:∀ {cs:List SV} {vs:List Value},Ak cs vs=true→∀ (Im:Nat→Prop) (ι:Nat→Option Value) (w:World),CellsRel Im ι w cs vs
 | [],vs,h,Im,ι,w=>by
  cases vs with
  | nil=>rfl
  | cons=>cases h
 | s::cs,vs,h,Im,ι,w=>by
  have gen:∀ v vs',vs=v::vs'→(PY s v&&Ak cs vs')=true→CellsRel Im ι w (s::cs) vs:=fun v vs' e k=>by
   subst e
   rw [cZ] at k
   exact fv (UP k.1 Im ι w) (wy k.2 Im ι w)
  cases s with
  | arrI n k l=>
   simp only [Ak,cZ,aQ] at h
   obtain ⟨h1,h2⟩:=h
   split at h2
   ·rename_i vs' ht
    rw [I0 ht]
    exact dU h1 (wy h2 Im ι w)
   ·cases h2
  | arrB n l=>
   simp only [Ak,cZ,aQ] at h
   obtain ⟨h1,h2⟩:=h
   split at h2
   ·rename_i vs' ht
    rw [I7 ht]
    exact gP h1 (wy h2 Im ι w)
   ·cases h2
  | _=>
   cases vs with
   | nil=>cases h
   | cons v vs=>exact gen v vs rfl h
def Ir:List (TypeId×List SV)→TypeId→Option (List SV)
 | [],_=>none
 | (t,cs)::l,T=>bif asM t T then some cs else Ir l T
def Oh (P:Program):List (TypeId×List SV)→Bool
 | [] =>true
 | (t,cs)::l=>(match P.info? t with
  | some i=>(match i.zero with
   | some z=>decide (z.cells.size=i.size)&&Ak cs z.cells.toList
   | none=>false)
  | none=>false)&&Oh P l
theorem Nb {P:Program} :∀ {l:List (TypeId×List SV)},Oh P l=true→mn P (Ir l)
 | [],_=>fun T cs h=>by cases h
 | (t,cs)::l,h=>by
  simp only [Oh,cZ] at h
  intro T cs' hT
  simp only [Ir] at hT
  cases hb:asM t T with
  | true=>
   rw [hb] at hT
   cases hT
   cases aE.1 hb
   have h1:=h.1
   split at h1
   ·rename_i i hi
    split at h1
    ·rename_i z hz
     simp only [cZ,aQ] at h1
     exact ⟨i,z,hi,hz,h1.1,fun Im ι w=>wy h1.2 Im ι w⟩
    ·cases h1
   ·cases h1
  | false=>rw [hb] at hT;exact Nb h.2 T cs' hT
abbrev ac:=FuncId→List SV→List Blk→CR
def H8:ac:=fun _ _ _=> .bad
def ak (sp:ac) (n:Nat) (F:List SV→List Blk→CR):ac:=fun f svs hp=>bif asM n f then F svs hp else sp f svs hp
def Ctx.with (C:Ctx) (sp:ac):Ctx:= {C with spec:=sp}
theorem K7 {C:Ctx} {sp sp':ac} {E:Ent} {hp:List Blk} {Im:Nat→Prop} {ι:Nat→Option Value} {w:World} (h:Mem (C.with sp) E hp Im ι w):Mem (C.with sp') E hp Im ι w:=⟨h.hv,h.mr,h.since,h.glob⟩
theorem BK {C:Ctx} {sp sp':ac} {f:FuncId} {F:List SV→List Blk→CR} (h:b9 (C.with sp) f F):b9 (C.with sp') f F:=fun svs hp K R hw E Im ι w vs hm hR hv=>
 CallSem.mono (h svs hp K R hw E Im ι w vs (K7 hm) hR hv) fun e w' ⟨v,sv,hp',Im',ι',h1,h2,h3,h4,h5,h6,h7⟩=>⟨v,sv,hp',Im',ι',h1,h2,h3,K7 h4,h5,h6,h7⟩
theorem UL {C:Ctx} (f:FuncId):b9 C f (H8 f):=fun svs hp K R hw=>hw.elim
theorem ab {C:Ctx} {sp:ac} (h:(C.with sp).Ok) {n:Nat} {F:List SV→List Blk→CR} (hn:b9 (C.with sp) n F):(C.with (ak sp n F)).Ok:=by
 refine ⟨h.zero,fun f=> ?_,h.mixed,h.globE⟩
 cases hb:asM n f with
 | true=>
  cases aE.1 hb
  have e:(C.with (ak sp n F)).spec n=F:=by
   funext svs hp
   show (bif asM n n then F svs hp else sp n svs hp)=_
   rw [hb];rfl
  rw [e]
  exact BK hn
 | false=>
  have e:(C.with (ak sp n F)).spec f=sp f:=by
   funext svs hp
   show (bif asM n f then F svs hp else sp f svs hp)=_
   rw [hb];rfl
  rw [e]
  exact BK (h.spec f)
end Go.Avc
namespace Go.Proofs.YteiecapbaeajdaaGreatDoor
open Go.Avc Go.Proofs
open Go.Avc
set_option linter.unusedVariables false
open Go Go.Avc Go.Proofs
set_option maxRecDepth 100000
set_option linter.unusedSimpArgs false
noncomputable section
abbrev uc (n:Nat):SV:= .arrI n .u64 (ab0 n 0)
def zt:List (TypeId×List SV):= [(3,[.int .i64 0]),(4,[.bool false]),(5,[.int .u8 0]),(9,[.str []]),(22,[.nils]),(24,[.nils]),(26,[.int .i64 0,.nils,.nils]),(27,[.int .i64 0]),(32,[.int .i64 0,.nils,.nils]),(36,[.nils]),(62,[.int .i64 0,.int .i64 0,.int .i64 0,.nils]),
 (65,[.int .i64 0,.int .i64 0,.int .i64 0,.str []]),(66,[.nils]),(73,[.int .u64 0]),(74,[uc 4]),(76,[uc 4]),(79,[.arrI 32 .u8 (ab0 32 0)]),(84,[.int .i64 0,.int .i64 0,.int .i64 0,.nils]),(86,[.int .i64 0,.nils]),(90,[.nils]),(116,[.int .i64 0,.int .i64 0,.int .i64 0,.str []]),
 (128,[.nilp,.arrI 32 .u8 (ab0 32 0),.nili]),(133,[.nilp]),(137,[.nilp]),(151,[.int .i64 0,.int .i64 0,.int .i64 0,.nils]),(162,[.nils]),(185,[.nils,.int .i64 0,.nilp]),(204,[.int .i64 0]),(211,[uc 25]),(212,[uc 25]),(214,[uc 25,.int .i64 0]),
 (253,[]),(259,[.nilp]),(278,[.arrI 200 .u8 (ab0 200 0)]),(295,[.nils,.bool false]),(298,[.nili,.nils,.int .i64 0,.int .i64 0,.int .i64 0]),(300,[.nili,.nils,.int .i64 0,.int .i64 0,.int .i64 0]),
 (88,[]),(265,[.int .i64 0,.nilf,.nils]),(313,[uc 12]),(316,[uc 36]),(318,[.int .u32 0,.int .i32 0,.int .u32 0,uc 780,uc 36]),(332,[.nils,.int .u64 0,.nils]),(337,[uc 5]),(341,[.arrB 64 (ab0 64 false)]),(342,[.arrB 320 (ab0 320 false)]),(344,[.arrB 1600 (ab0 1600 false)]),
 (208,[.nils]),(324,[uc 12]),(326,[uc 12]),(364,[uc 9]),(376,[.nilp]),
 (94,[.int .i64 0,.int .i64 0,.int .i64 0,.nils]),(96,[.nils]),(98,[.nils]),(100,[.nils,.nils]),(103,[.nils,.int .i64 0,.int .i64 0]),(105,[.nils,.int .i64 0,.int .i64 0,.int .i64 0]),(107,[.nils,.nils,.nils,.int .i64 0,.int .i64 0,.int .i64 0]),(109,[.int .i64 0,.nils,.int .i64 0,.int .i64 0,.nils,.nils,.int .i64 0,.int .i64 0,.int .i64 0,.nils,.nils,.nils,.int .i64 0,.int .i64 0,.int .i64 0]),
 (113,[.int .i64 0,.nils]),(158,[.arrB 80 (ab0 80 false)]),(366,[uc 81]),(372,[.nils,.nils,.nils,.nils,.nils,.nils,.nils,.nils,.nils]),(421,[.nilp]),(429,[.arrB 80 (ab0 80 false),.int .i64 0])]
set_option maxRecDepth 100000 in
theorem arf:Oh Tryz.prog zt=true:=by kernel_rfl
def Hp:List Int:= [1,32898,9223372036854808714,9223372039002292224,32907,2147483649,9223372039002292353,9223372036854808585,138,136,2147516425,2147483658,2147516555,9223372036854775947,9223372036854808713,9223372036854808579,
 9223372036854808578,9223372036854775936,32778,9223372039002259466,9223372039002292353,9223372036854808704,2147483649,9223372039002292232]
def aik:LD:=Hp.map fun n=> [.int n]
def gl:Nat→Option SV:=fun g=>bif asM g 0 then some (.eptr [.int .u64] aik 0 0) else none
def base:Ctx:=⟨Tryz.prog,Ir zt,gl,H8⟩
theorem N8:(base.with H8).Ok:=⟨Nb arf,fun f=>UL f,by kernel_rfl,fun g sv h=>by
 have h':gl g=some sv:=h
 unfold gl at h'
 cases hb:asM g 0 with
 | true=>rw [hb] at h';cases h';exact ⟨_,_,_,_,rfl⟩
 | false=>rw [hb] at h';cases h'⟩
abbrev lM {α:Type} (a:List α):Prop:=a.length≤9223372036854775807
abbrev iR (a:Int):Prop:= -9223372036854775808≤a∧a≤9223372036854775807
abbrev aR (a k:Nat):Prop:=a*k≤140737488355328∧a≤9223372036854775807
abbrev bR {α:Type} (a:Int) (l:List α):Prop:=0≤a∧a<(l.length:Int)
def zH (fn:Func):Code:=match fn.body with | some c=>c | none=> .skip
def am:List Dat→Ann:=fun _=> {cut:= [],loop:= []}
def VZ (s:ac) (f:Func) (c:Ct) (a:List Dat→Ann):Prop:=c.VC (base.with s) f.results.toList f.ntmps (f.ntmps-c.ps.length) (zH f) a
theorem ai {s:ac} {n:FuncId} {f:Func} {c:Ct} (a:List Dat→Ann) {p:Prop} (hc:(base.with s).Ok) (hf:Tryz.prog.funcs[n]? =some f) (h:(match f.body with |some _=>asM (c.ps.length+(f.ntmps-c.ps.length)) f.ntmps |none=>false)=true) (hr:∀ (vs:Array Value) (w:World),(callFunc n vs).run Tryz.prog w=.ok (.enter n vs) w) (e:VZ s f c a=p) (v:p):b9 (base.with s) n (aq c):=Nh hc hf (show f.body=some (zH f) by unfold zH;cases q:f.body with |some _=>rfl |none=>rw [q] at h;cases h) a (by cases q:f.body with |some _=>rw [q] at h;exact Nat.eq_of_beq_eq_true h |none=>rw [q] at h;cases h) (fun vs w _=>hr vs w) (by rw [show c.VC _ _ _ _ _ _=p from e];exact v)
abbrev VK:LD:=[[.int 0],[.int 0],[.int 0],[.int 0],[.int 0],[.int 0],[.int 0],[.int 0],[.int 0],[.int 0],[.int 0],[.int 0],[.int 0],[.int 0],[.int 0],[.int 0],[.int 0],[.int 0],[.int 0],[.int 0],[.int 0],[.int 0],[.int 0],[.int 0],[.int 0],[.int 0],[.int 0],[.int 0],[.int 0],[.int 0],[.int 0],[.int 0],[.int 0],[.int 0],[.int 0],[.int 0],[.int 0],[.int 0],[.int 0],[.int 0],[.int 0],[.int 0],[.int 0],[.int 0],[.int 0],[.int 0],[.int 0],[.int 0],[.int 0],[.int 0],[.int 0],[.int 0],[.int 0],[.int 0],[.int 0],[.int 0],[.int 0],[.int 0],[.int 0],[.int 0],[.int 0],[.int 0],[.int 0],[.int 0],[.int 0],[.int 0],[.int 0],[.int 0],[.int 0],[.int 0],[.int 0],[.int 0],[.int 0],[.int 0],[.int 0],[.int 0],[.int 0],[.int 0],[.int 0],[.int 0],[.int 0],[.int 0],[.int 0],[.int 0],[.int 0],[.int 0],[.int 0],[.int 0],[.int 0],[.int 0],[.int 0],[.int 0],[.int 0],[.int 0],[.int 0],[.int 0],[.int 0],[.int 0],[.int 0],[.int 0],[.int 0],[.int 0],[.int 0],[.int 0],[.int 0],[.int 0],[.int 0],[.int 0],[.int 0],[.int 0],[.int 0],[.int 0],[.int 0],[.int 0],[.int 0],[.int 0],[.int 0],[.int 0],[.int 0],[.int 0],[.int 0],[.int 0],[.int 0],[.int 0],[.int 0],[.int 0],[.int 0],[.int 0],[.int 0],[.int 0],[.int 0],[.int 0],[.int 0],[.int 0],[.int 0],[.int 0]]
def cV (a b c:Int) (l:List UInt8):Int:=
 if a<1∨3<a then 5
 else if (a=1∧(b<1∨4<b))∨(a=2∧b≠1∧b≠3)∨(a=3∧b≠0) then 6
 else if c<1∨1048576<c∨(a=3∧c≠1) then 7
 else if (255:Int)<l.length then 8 else 0
def sw (n:Int) (i:Nat):UInt8:=UInt8.ofNat (n / 256 ^ i%256).toNat
def dl (n:Int) (w:Nat):List UInt8:=(List.range w).map (sw n)
def km (a b c:Int) (l:List UInt8):List UInt8:=dl a 1++dl b 1++dl c 4++dl l.length 2++l
def ip (l:LD):List Int:=l.map fun r=>(r.getD 0 .d0).toInt
def n7:List Int→Int→Int
 | [],_=> -1
 | x::l,v=>if x=v then 0 else if n7 l v<0 then -1 else n7 l v+1
def fT (a:Int):List Int:=if a=1 then [1,2,3,4] else if a=2 then [1,3] else if a=3 then [0] else []
def mq (a:Int):Int:=if a=1∨a=2 then 1048576 else if a=3 then 1 else 0
def lj (l:List Int):LD:=l.map fun n=> [.int n]
abbrev i64:Pat:= .int .i64
abbrev re:Pat:= .agg [i64,i64,i64,.str]
abbrev kZ:List CSh:= [.int .u8]
abbrev PG:List CSh:= [.int .i64]
abbrev eg:List CSh:= [.int .i64,.int .i64,.int .i64,.str]
abbrev ag:Res:= .ret .skip [] []
def la (n:Nat) (slots:List (Nat×Pat)) (bs:List BPat) (R:List Dat→Prop) (m:List Dat→Nat):LA:=⟨n,pl n 0 slots,bs,R,m⟩
def at5:Ct:= {ps:= [re],bs:= [],pre:=fun _=>True,res:=fun | [.i a,.i b,.i c,.s l] => .ret i64 [] [.i (cV a b c l)] | _=>ag}
def arT:Ct:= {ps:= [.rd PG,i64],bs:= [],pre:=fun _=>True,res:=fun | [.r l,.i v] => .ret i64 [] [.i (n7 (ip l) v)] | _=>ag}
def OS (l:LD) (v:Int) (l':LD) (v' n i:Int):Prop:=l'=l∧v'=v∧n=l.length∧0≤i∧i≤l.length∧v∉(ip l).take i.toNat
def ai9:List Dat→Ann
 | [.r l,.i v] => {cut:= [],loop:= [(2,[la 19 [(0,.rd PG),(1,i64),(7,i64),(8,i64)] [] (fun | [.r l',.i v',.i n,.i i] =>OS l v l' v' n i | _=>False) (fun | [_,_,.i n,.i i] =>(n-i).toNat | _=>0)])]}
 | _=> {cut:= [],loop:= []}
def aoP:Ct:= {ps:= [.rd PG,i64],bs:= [],pre:=fun _=>True,res:=fun | [.r l,.i v] => .ret .bool [] [.b (decide (v∈ip l))] | _=>ag}
def aq1:Ct:= {ps:= [i64],bs:= [],pre:=fun _=>True,res:=fun | [.i a] => .ret (.tup [.own 0,i64]) [.own 3 PG] [.i (mq a),.r (lj (fT a))] | _=>ag}
def aud:Ct:= {ps:= [re],bs:= [],pre:=fun _=>True,res:=fun | [.i a,.i b,.i c,.s l] => .ret i64 [] [.i (cV a b c l)] | _=>ag}
def En (n w:Int) (l:LD):Prop:=0≤n∧0≤w∧w≤8∧l.length≤1000000
def au3:Ct:= {ps:= [.own 0,i64,i64],bs:= [.own 5 kZ],pre:=fun | [.i n,.i w,.r l] =>En n w l | _=>False,res:=fun | [.i n,.i w,.r l] => .ret (.own 1) [.none,.own 5 kZ] [.r (l++aj (dl n w.toNat))] | _=>ag}
def Xn (n w:Int) (l:LD) (n' w' i:Int) (out:LD):Prop:=n'=n∧w'=w∧0≤i∧i≤w∧out=l++aj (dl n i.toNat)
def amC:List Dat→Ann
 | [.i n,.i w,.r l] => {cut:= [],loop:= [(2,[la 22 [(0,.own 1),(1,i64),(8,i64),(9,i64)] [.none,.own 5 kZ] (fun | [.i n',.i w',.i i,.r out] =>Xn n w l n' w' i out | _=>False) (fun | [_,.i w',.i i,_] =>(w'-i).toNat | _=>0)])]}
 | _=> {cut:= [],loop:= []}
def kL (a b c:Int) (l:List UInt8):LD:=if cV a b c l=0 then aj (km a b c l) else []
def at6:Ct:= {ps:= [re],bs:= [],pre:=fun _=>True,res:=fun | [.i a,.i b,.i c,.s l] => .ret (.tup [.own 0,i64]) [.own 5 kZ] [.i (cV a b c l),.r (kL a b c l)] | _=>ag}
abbrev wA (a:List UInt8):Prop:=
 a.length≤9223372036854775807
abbrev Ix (a b c:Int)(d:List UInt8):Prop:=
 wA d→
 bif decide ((255:Int)<↑d.length) then 8=cV a b c d else 0=cV a b c d
def P48:Prop:=
 ∀ (a b c:Int) (d:List UInt8),
 wA d→
 True→
 bif decide (a<(1:Int))||decide ((3:Int)<a) then 5=cV a b c d
 else
 bif
 decide (a=1)&&(decide (b<(1:Int))||decide ((4:Int)<b))||decide (a=2)&&decide (b≠1)&&decide (b≠3) ||
 decide (a=3)&&decide (b≠0) then
 6=cV a b c d
 else
 bif decide (c<(1:Int))||decide ((1048576:Int)<c)||decide (a=3)&&decide (c≠1) then
 7=cV a b c d
 else Ix a b c d
def akC:ac:=ak H8 48 (aq at5)
def ajZ:Prop:=
 ∀ (a:LD) (b:Int),
 lM a→
 True→
 lM a→
 (OS a b a b ↑a.length 0∧True)∧
 ∀ (c:LD) (d e f:Int),
 lM c→
 OS a b c d e f→
 bif decide (f<e) then
 bR f c∧
 f.toNat<c.length∧
 bif decide (d=((c.getD f.toNat []).getD 0 (.int 0)).toInt) then
 f=n7 (ip a) b
 else
 iR (f+1)∧
 OS a b c d e (f+1)∧(e-(f+1)).toNat<(e-f).toNat
 else (-1:Int)=n7 (ip a) b
def W6:ac:=ak akC 168 (aq arT)
def adv:Prop:=
 ∀ (a:LD) (b:Int),
 lM a→
 True→
 True∧
 decide (0≤n7 (ip a) b)=decide (b∈ip a)
def WF:ac:=ak W6 128 (aq aoP)
def avN:Prop:=
 ∀ (a:Int),
 True→
 bif decide (a=1) then
 1048576=mq a∧
 [[.int 1],[.int 2],[.int 3],[.int 4]] =
 lj (fT a)
 else
 bif decide (a=2) then
 1048576=mq a∧
 [[.int 1],[.int 3]] =lj (fT a)
 else
 bif decide (a=3) then
 1=mq a∧
 [[.int 0]] =lj (fT a)
 else 0=mq a∧ [] =lj (fT a)
def Xz:ac:=ak WF 127 (aq aq1)
def P77:Prop:=
 ∀ (a b c:Int) (d:List UInt8),
 wA d→
 True→
 True∧
 (lM (lj (fT a))→
 bif decide ((↑(lj (fT a)).length:Int)=0) then
 5=cV a b c d
 else
 True∧
 bif !decide (b∈ip (lj (fT a))) then
 6=cV a b c d
 else
 bif decide (c<(1:Int))||decide (mq a<c) then 7=cV a b c d
 else Ix a b c d)
def ajq:ac:=ak Xz 77 (aq aud)
def P78:Prop:=
 ∀ (a b:Int) (c:LD),
 lM c→
 En a b c→
 (Xn a b c a b 0 c∧True)∧
 ∀ (d e f:Int) (g:LD),
 lM g→
 Xn a b c d e f g→
 bif decide (f<e) then
 iR ((8:Int)*f)∧
 (0:Int)≤8*f∧
 aR (g.length+1) 1∧
 iR (f+1)∧
 Xn a b c d e (f+1)
 (g++ [[.int (IntKind.u8.wrap (aL .i64 d ((8:Int)*f)))]])∧
 (e-(f+1)).toNat<(e-f).toNat
 else g=c++aj (dl a b.toNat)
def ahy:ac:=ak ajq 78 (aq au3)
abbrev P8 (a b c:Int):LD:=
 [[.int (IntKind.u8.wrap a)],[.int (IntKind.u8.wrap b)]] ++aj (dl c 4)
def P40:Prop:=
 ∀ (a b c:Int) (d:List UInt8),
 wA d→
 True→
 True∧
 bif decide (cV a b c d≠0) then
 cV a b c d=cV a b c d∧ [] =kL a b c d
 else
 En c 4 [[.int (IntKind.u8.wrap a)],[.int (IntKind.u8.wrap b)]] ∧
 En ↑d.length 2 (P8 a b c)∧
 aR (8+(aj d).length) 1∧
 0=cV a b c d∧
 P8 a b c++aj (dl ↑d.length 2)++
 aj d=
 kL a b c d
def ahG:ac:=ak ahy 40 (aq at6)
theorem aa {b:Bool} {X Y:Prop} (h:b=true→X) (k:b=false→Y):bif b then X else Y:=by
 cases b with
 | true=>exact h rfl
 | false=>exact k rfl
theorem at9:P48:=by
 delta P48 wA Ix
 intro a b c l hl _
 unfold cV
 refine aa (fun h=> ?_) fun h1=>aa (fun h=> ?_) fun h2=>aa (fun h=> ?_) fun h3 hl=>aa (fun h=> ?_) fun h4=> ?_
 all_goals simp only [as9,cZ,aQ,ate,Bool.and_eq_false_iff,aT,ne_eq,Classical.not_not] at *
 all_goals repeat' split
 all_goals omega
theorem c48:(base.with akC).Ok:=ab N8 (ai am N8 Tryz.func48 (by kernel_rfl) Tryz.call48 (by kernel_rfl) at9)
theorem GZ:∀ {l:List Int} {v:Int},v∉l→n7 l v= -1
 | [],_,_=>rfl
 | x::l,v,h=>by
  have h1:x≠v:=fun e=>h (by simp [e])
  have h2:=GZ (l:=l) (v:=v) fun e=>h (by simp [e])
  simp [n7,h1,h2]
theorem Hl:∀ {l:List Int} {v:Int} {i:Nat},v∉l.take i→l[i]? =some v→n7 l v=i
 | [],_,_,_,h=>by simp at h
 | x::l,v,0,_,h=>by simp at h;simp [n7,h]
 | x::l,v,i+1,h,h'=>by
  have h1:x≠v:=fun e=>h (by simp [e])
  have h2:=Hl (l:=l) (v:=v) (i:=i) (fun e=>h (by simp [e])) (by simpa using h')
  simp only [n7,if_neg h1,h2]
  rw [if_neg (by omega)]
  omega
theorem Z2 {l:List Int} {v:Int} :0≤n7 l v↔v∈l:=by
 induction l with
 | nil=>simp [n7]
 | cons x l ih=>
  simp only [n7,atH]
  split
  ·rename_i h;simp [h]
  ·rename_i h
   have:v≠x:=fun e=>h e.symm
   rw [or_iff_right this,← ih]
   split <;>omega
theorem Pm {l:LD} {i:Nat} (h:i<l.length):(ip l)[i]? =some ((l.getD i []).getD 0 .d0).toInt:=by
 simp [ip,h]
theorem HI (l:LD):(ip l).length=l.length:=by simp [ip]
theorem aqR:ajZ:=by
 delta ajZ lM iR bR
 intro l v hl _ _
 refine ⟨⟨⟨rfl,rfl,rfl,by omega,by omega,by simp⟩,trivial⟩,?_⟩
 rintro l' v' n i hl' ⟨rfl,rfl,rfl,h0,h1,h2⟩
 refine aa (fun h=> ?_) fun h=> ?_
 ·simp only [aQ] at h
  have hlt:i.toNat<l'.length:=by omega
  have hg:=Pm hlt
  refine ⟨⟨h0,h⟩,hlt,aa (fun he=> ?_) fun he=>⟨by omega,⟨rfl,rfl,rfl,by omega,by omega,?_⟩,by omega⟩⟩
  ·simp only [aQ] at he
   rw [Hl h2 (by rw [hg,he])]
   omega
  ·simp only [aT] at he
   rw [show (i+1).toNat=i.toNat+1 from by omega,List.take_add_one,hg]
   simp only [Option.toList_some,ads,awn,not_or]
   exact ⟨h2,he⟩
 ·simp only [aT] at h
  rw [GZ]
  rw [List.take_of_length_le (by rw [HI];omega)] at h2
  exact h2
theorem ab6:(base.with W6).Ok:=ab c48 (ai ai9 c48 Tryz.func168 (by kernel_rfl) Tryz.call168 (by kernel_rfl) aqR)
theorem aor:adv:=by
 delta adv lM
 exact fun l n _ _=>⟨trivial,by rw [decide_eq_decide];exact Z2⟩
theorem abM:(base.with WF).Ok:=ab ab6 (ai am ab6 Tryz.func128 (by kernel_rfl) Tryz.call128 (by kernel_rfl) aor)
theorem amJ:avN:=by
 intro a _
 refine aa (fun h=> ?_) fun h1=>aa (fun h=> ?_) fun h2=>aa (fun h=> ?_) fun h3=> ?_
 all_goals simp only [aQ,aT] at *
 all_goals simp [mq,fT,lj, *]
theorem ajI:(base.with Xz).Ok:=ab abM (ai am abM Tryz.func127 (by kernel_rfl) Tryz.call127 (by kernel_rfl) amJ)
theorem QT (l:List Int):ip (lj l)=l:=by simp [ip,lj,CD.toInt,Function.comp_def]
theorem LZ (l:List Int):(lj l).length=l.length:=by simp [lj]
theorem avb:P77:=by
 delta P77 lM wA Ix
 intro a b c l hl _
 refine ⟨trivial,fun _=> ?_⟩
 rw [QT,LZ]
 have ht:a=1∨a=2∨a=3∨(a≠1∧a≠2∧a≠3):=by omega
 have e1:fT 1= [1,2,3,4] :=rfl
 have e2:fT 2= [1,3] :=rfl
 have e3:fT 3= [0] :=rfl
 have m1:mq 1=1048576:=rfl
 have m2:mq 2=1048576:=rfl
 have m3:mq 3=1:=rfl
 rcases ht with rfl | rfl | rfl | ⟨h1,h2,h3⟩
 ·rw [e1,m1]
  refine ⟨trivial,aa (fun h=> ?_) fun h1=>aa (fun h=> ?_) fun h2 hl=>aa (fun h=> ?_) fun h3=> ?_⟩
  all_goals simp only [atf,aws,aQ,aT,as9,ate,atH,awt,or_false] at *
  all_goals unfold cV
  all_goals repeat' split
  all_goals omega
 ·rw [e2,m2]
  refine ⟨trivial,aa (fun h=> ?_) fun h1=>aa (fun h=> ?_) fun h2 hl=>aa (fun h=> ?_) fun h3=> ?_⟩
  all_goals simp only [atf,aws,aQ,aT,as9,ate,atH,awt,or_false] at *
  all_goals unfold cV
  all_goals repeat' split
  all_goals omega
 ·rw [e3,m3]
  refine ⟨trivial,aa (fun h=> ?_) fun h1=>aa (fun h=> ?_) fun h2 hl=>aa (fun h=> ?_) fun h3=> ?_⟩
  all_goals simp only [atf,aws,aQ,aT,as9,ate,atH,awt,or_false] at *
  all_goals unfold cV
  all_goals repeat' split
  all_goals omega
 ·have e:fT a= [] :=by simp [fT,h1,h2,h3]
  rw [e]
  refine aa (fun h=> ?_) fun h=>by simp at h
  unfold cV
  rw [if_pos (by omega)]
theorem c77:(base.with ajq).Ok:=ab ajI (ai am ajI Tryz.func77 (by kernel_rfl) Tryz.call77 (by kernel_rfl) avb)
theorem AG (m:Int):IntKind.u8.wrap m=m%256:=by
 simp [IntKind.wrap,IntKind.signed,IntKind.bits]
theorem nN (n:Int) (i:Nat):((sw n i).toNat:Int)=n / 256 ^ i%256:=by
 have h0:0≤n / 256 ^ i%256:=Int.emod_nonneg _ (by decide)
 have h1:n / 256 ^ i%256<256:=Int.emod_lt_of_pos _ (by decide)
 simp only [sw,UInt8.toNat_ofNat']
 omega
theorem T6 {n i:Int} (h0:0≤i) (h:i<8):IntKind.u8.wrap (aL .i64 n (8*i))=((sw n i.toNat).toNat:Int):=by
 rw [AG,nN]
 obtain ⟨k,rfl⟩:∃ k:Nat,i=k:=⟨i.toNat,by omega⟩
 unfold aL
 have e:min (8*(k:Int)).toNat (IntKind.bits .i64)=8*k:=by simp [IntKind.bits];omega
 rw [e,Int.fdiv_eq_ediv_of_nonneg _ (by exact Int.le_of_lt (Int.pow_pos (by decide))),Int.pow_mul,aA]
 rfl
theorem yo (n:Int) (i:Nat):dl n (i+1)=dl n i++ [sw n i] :=by simp [dl,List.range_succ]
theorem gr (a b:List UInt8):aj (a++b)=aj a++aj b:=by simp [aj]
theorem aZ (a:List UInt8):(aj a).length=a.length:=by simp [aj]
theorem gp (n:Int) (w:Nat):(dl n w).length=w:=by simp [dl]
theorem eP (a:List UInt8):ah (aj a)=a:=by
 simp only [ah,aj,List.map_map]
 refine (List.map_congr_left fun x _=> ?_).trans (List.map_id a)
 simp [CD.toInt]
theorem auy:P78:=by
 delta P78 lM iR aR
 rintro n w l hl ⟨hn,hw0,hw8,hlen⟩
 refine ⟨⟨⟨rfl,rfl,by omega,hw0,by simp [dl,aj]⟩,trivial⟩,?_⟩
 rintro n' w' i out hout ⟨rfl,rfl,h0,h1,rfl⟩
 refine aa (fun h=> ?_) fun h=> ?_
 ·simp only [aQ] at h
  have hb:i.toNat≤8:=by omega
  simp only [ce,aZ,gp,adC,asi] at *
  refine ⟨by omega,by omega,by omega,by omega,⟨rfl,rfl,by omega,by omega,?_⟩,by omega⟩
  rw [T6 h0 (by omega),show (i+1).toNat=i.toNat+1 from by omega,yo,gr,fE]
  rfl
 ·simp only [aT] at h
  rw [show i=w' from by omega]
theorem c78:(base.with ahy).Ok:=ab c77 (ai amC c77 Tryz.func78 (by kernel_rfl) Tryz.call78 (by kernel_rfl) auy)
theorem xw {a b c:Int} {l:List UInt8} (h:cV a b c l=0):1≤a∧a≤3∧0≤b∧b≤4∧1≤c∧c≤1048576∧(a=3→c=1)∧(a=1→1≤b)∧(a=2→b=1∨b=3)∧(a=3→b=0)∧l.length≤255:=by
 unfold cV at h
 repeat' split at h
 all_goals omega
theorem Kc {a:Int} (h0:0≤a) (h:a<256): [CD.int (IntKind.u8.wrap a)] = [CD.int ((sw a 0).toNat:Int)] :=by
 rw [AG,nN];simp
theorem auw:P40:=by
 delta P40 aR wA P8
 intro a b c l hl hpre
 refine ⟨trivial,aa (fun h=> ?_) fun h=> ?_⟩
 ·simp only [ne_eq,decide_not,atf,aT] at h
  exact ⟨rfl,by rw [kL,if_neg h]⟩
 ·simp only [ne_eq,decide_not,aws,aQ] at h
  obtain ⟨h1,h2,h3,h4,h5,h6,_,_,_,_,h7⟩:=xw h
  simp only [ce,aZ,gp,adC,asi,En] at *
  refine ⟨⟨by omega,by omega,by omega,by omega⟩,⟨by omega,by omega,by omega,by omega⟩,⟨by omega,by omega⟩,h.symm,?_⟩
  rw [kL,if_pos h,km,Kc (by omega) (by omega),Kc (by omega) (by omega)]
  simp only [gr]
  rfl
theorem c40:(base.with ahG).Ok:=ab c78 (ai am c78 Tryz.func40 (by kernel_rfl) Tryz.call40 (by kernel_rfl) auw)
structure It where
 k:Int
 t:Int
 c:Int
 l:List UInt8
 deriving DecidableEq
def gi (r:List CD):It:=⟨(r.getD 0 .d0).toInt,(r.getD 1 .d0).toInt,(r.getD 2 .d0).toInt,(r.getD 3 .d0).toStr⟩
def Vq (x:It):List CD:= [.int x.k,.int x.t,.int x.c,.str x.l]
def ar (l:LD):List It:=l.map gi
def dg (l:List It):LD:=l.map Vq
def pY (a b c a' b' c':Int):Bool:=decide (a=a')&&(decide (b=b')&&decide (c=c'))
def dO:List UInt8→Nat
 | [] =>0
 | b::l=>b.toNat+256*dO l
def jf (l:LD):Prop:=l=aj (ah l)
def awe:It:=⟨0,0,0,[]⟩
def rP (b:List UInt8):It:=⟨dO (b.take 1),dO ((b.drop 1).take 1),dO ((b.drop 2).take 4),(b.drop 8).take (dO ((b.drop 6).take 2))⟩
def jA (b:List UInt8):Int:=
 if b.length<8∨b.length<8+dO ((b.drop 6).take 2) then 2 else cV (rP b).k (rP b).t (rP b).c (rP b).l
def ji (b:List UInt8):It:=if jA b=0 then rP b else awe
def sJ (b:List UInt8):List UInt8:=if jA b=0 then b.drop (8+dO ((b.drop 6).take 2)) else []
def amz:Ct:= {ps:= [re,re],bs:= [],pre:=fun _=>True,res:=fun | [.i a,.i b,.i c,_,.i a',.i b',.i c',_] => .ret .bool [] [.b (pY a b c a' b' c')] | _=>ag}
def wP (n w:Int):Prop:=0≤n∧n≤1000000000∧0≤w∧w≤8
def auU:Ct:= {ps:= [i64,i64],bs:= [],pre:=fun | [.i n,.i w] =>wP n w | _=>False,res:=fun | [.i n,.i w] => .ret (.own 0) [.own 5 kZ] [.r (aj (dl n w.toNat))] | _=>ag}
def Yz (n w n' w' i:Int) (out:LD):Prop:=n'=n / 256 ^ i.toNat∧w'=w∧0≤i∧i≤w∧out=aj (dl n i.toNat)
def amL:List Dat→Ann
 | [.i n,.i w] => {cut:= [],loop:= [(3,[la 22 [(0,i64),(1,i64),(5,.own 0),(6,i64)] [.own 5 kZ] (fun | [.i n',.i w',.i i,.r out] =>Yz n w n' w' i out | _=>False) (fun | [_,.i w',.i i,_] =>(w'-i).toNat | _=>0)])]}
 | _=> {cut:= [],loop:= []}
def avm:Ct:= {ps:= [re],bs:= [],pre:=fun _=>True,res:=fun | [.i a,.i b,.i c,.s l] => .ret (.tup [.own 0,i64]) [.own 5 kZ] [.i (cV a b c l),.r (kL a b c l)] | _=>ag}
def yD (l:LD):Prop:=l.length≤100000000
def ams:Ct:= {ps:= [.rd kZ],bs:= [],pre:=fun | [.r l] =>yD l | _=>False,res:=fun | [.r l] => .ret (.own 0) [.own 5 kZ] [.r l] | _=>ag}
abbrev EA:BPat:= .cells 295 [.rd kZ,.bool]
def vk (n:Int):Prop:=0≤n
def lX (l:LD) (n:Int):LD:=if (l.length:Int)<n then [] else l.take n.toNat
def ga (l:LD) (n:Int):LD:=if (l.length:Int)<n then l else l.drop n.toNat
def qU (l:LD) (n:Int) (sh:Bool):Bool:=decide ((l.length:Int)<n)||sh
def anO:Ct:= {ps:= [.ptr 0 0,i64],bs:= [EA],pre:=fun | [.i n,_,_] =>vk n | _=>False,res:=fun | [.i n,.r l,.b sh] => .ret (.rd kZ) [EA] [.r (lX l n),.r (ga l n),.b (qU l n sh)] | _=>ag}
def vF (w:Int) (l:LD):Prop:=0≤w∧w≤7∧jf l
def arz:Ct:= {ps:= [.ptr 0 0,i64],bs:= [EA],pre:=fun | [.i w,.r l,_] =>vF w l | _=>False,res:=fun | [.i w,.r l,.b sh] => .ret i64 [EA] [.i (dO (ah (lX l w))),.r (ga l w),.b (qU l w sh)] | _=>ag}
def Oo (w:Int) (l:LD) (sh:Bool) (n:Int) (tk:LD) (m i:Int) (rest:LD) (sh':Bool):Prop:=tk=lX l w∧m=tk.length∧0≤i∧i≤m∧rest=ga l w∧sh'=qU l w sh∧n=dO ((ah tk).take i.toNat)
def ahP:List Dat→Ann
 | [.i w,.r l,.b sh] => {cut:= [],loop:= [(3,[la 26 [(5,i64),(10,.rd kZ),(11,i64),(12,i64)] [EA] (fun | [.i n,.r tk,.i m,.i i,.r rest,.b sh'] =>Oo w l sh n tk m i rest sh' | _=>False) (fun | [_,_,.i m,.i i,_,_] =>(m-i).toNat | _=>0)])]}
 | _=> {cut:= [],loop:= []}
def fk (l:LD):Prop:=jf l∧l.length≤100000000
def apm:Ct:= {ps:= [.rd kZ],bs:= [],pre:=fun | [.r l] =>fk l | _=>False,res:=fun | [.r l] => .ret (.tup [re,.own 0,i64]) [.own 5 kZ] [.i (ji (ah l)).k,.i (ji (ah l)).t,.i (ji (ah l)).c,.s (ji (ah l)).l,.i (jA (ah l)),.r (aj (sJ (ah l)))] | _=>ag}
end
end Go.Proofs.YteiecapbaeajdaaGreatDoor
