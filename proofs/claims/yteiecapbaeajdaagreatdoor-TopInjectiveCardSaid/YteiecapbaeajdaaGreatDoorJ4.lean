/-
  AVC, part YS: what is told by a pattern is so.
-/
import Derived.Test.YteiecapbaeajdaaGreatDoorJ3
import Derived.Test.YteiecapbaeajdaaGreatDoorProg
import Derived.KernelRfl
namespace Go.Avc
set_option linter.unusedVariables false
set_option linter.unusedSimpArgs false
section
variable (Im:Nat→Prop) (ι:Nat→Option Value) (hp:List Blk) (m:MS)
def fC:Nat→Prop:=fun r=>Im r∨∃ b v,bA m.fz b=true∧ι b=some v∧aH (hp.getD b .none)=true∧aC v=some r
def ιW:Nat→Option Value:=fun i=>match cf m.ρ i with | some b=>ι b | none=>if bA m.nw i=true then some (.slice none 0 0) else none
end
structure MS.le (m m':MS):Prop where
  rho:∀ b i,cf m.ρ i=some b→cf m'.ρ i=some b
  fz:∀ b,bA m.fz b=true→bA m'.fz b=true
  nw:∀ i,bA m.nw i=true→bA m'.nw i=true
structure MS.Ok (D:Nat→Prop) (m:MS):Prop where
  nw:∀ i,bA m.nw i=true→cf m.ρ i=none
  inj:∀ i b,cf m.ρ i=some b→D i∨dW m.β b=some i
theorem MS.le.refl (m:MS):m.le m:=⟨fun _ _ h=>h,fun _ h=>h,fun _ h=>h⟩
theorem MS.le.trans {m m' m'':MS} (h:m.le m') (k:m'.le m''):m.le m'':=⟨fun b i e=>k.rho b i (h.rho b i e),fun b e=>k.fz b (h.fz b e),fun i e=>k.nw i (h.nw i e)⟩
theorem kZ {D:Nat→Prop} {m m':MS} {b i:Nat} (h:m.bind b i=some m'):m.le m'∧cf m'.ρ i=some b∧(m.Ok D→m'.Ok D):=by
  obtain ⟨ρ,β,fz,nw⟩:=m
  simp only [MS.bind] at h
  split at h
  · rename_i b' i' h1 h2
    cases hb:Nat.beq b b' <;>rw [hb] at h
    · cases h
    · simp only [cond_true] at h
      cases hi:Nat.beq i i' <;>rw [hi] at h <;>cases h
      refine ⟨.refl _,?_,id⟩
      cases aA.1 hb
      exact h1
  · rename_i h1 h2
    cases hn:bA nw i <;>rw [hn] at h <;>cases h
    refine ⟨⟨fun b' j e=> ?_,fun _ h=>h,fun _ h=>h⟩,?_,fun hk=>⟨fun j hj=> ?_,fun j c hj=> ?_⟩⟩
    · show (bif Nat.beq i j then some b else cf ρ j)=some b'
      cases hij:Nat.beq i j with
      | false=>exact e
      | true=>
        cases aA.1 hij
        rw [show cf ρ i=none from h1] at e
        cases e
    · show (bif Nat.beq i i then some b else cf ρ i)=some b
      rw [Nat.beq_refl];rfl
    · show (bif Nat.beq i j then some b else cf ρ j)=none
      cases hij:Nat.beq i j with
      | false=>exact hk.nw j hj
      | true=>cases aA.1 hij;rw [hn] at hj;cases hj
    · have hj':(bif Nat.beq i j then some b else cf ρ j)=some c:=hj
      show D j∨(bif Nat.beq b c then some i else dW β c)=some j
      cases hij:Nat.beq i j with
      | true=>
        rw [hij] at hj'
        cases hj'
        cases aA.1 hij
        rw [Nat.beq_refl];exact .inr rfl
      | false=>
        rw [hij] at hj'
        rcases hk.inj j c hj' with h | this
        · exact .inl h
        · right
          cases hbc:Nat.beq b c with
          | false=>exact this
          | true=>
            cases aA.1 hbc
            rw [show dW β b=none from h2] at this
            cases this
  · cases h
theorem AA {D:Nat→Prop} {m m':MS} {i:Nat} (h:m.new i=some m'):m.le m'∧bA m'.nw i=true∧(m.Ok D→m'.Ok D):=by
  obtain ⟨ρ,β,fz,nw⟩:=m
  simp only [MS.new] at h
  split at h
  · rename_i h1
    cases hn:bA nw i <;>rw [hn] at h <;>cases h
    refine ⟨⟨fun _ _ h=>h,fun _ h=>h,fun j hj=> ?_⟩,?_,fun hk=>⟨fun j hj=> ?_,hk.inj⟩⟩
    · show (bif Nat.beq i j then true else bA nw j)=true
      rw [show bA nw j=true from hj];cases Nat.beq i j <;>rfl
    · show (bif Nat.beq i i then true else bA nw i)=true
      rw [Nat.beq_refl];rfl
    · have hj':(bif Nat.beq i j then true else bA nw j)=true:=hj
      cases hij:Nat.beq i j with
      | true=>cases aA.1 hij;exact h1
      | false=>rw [hij] at hj';exact hk.nw j hj'
  · cases h
theorem iK {D:Nat→Prop} (m:MS) (b:Nat):m.le (m.freeze b)∧bA (m.freeze b).fz b=true∧(m.Ok D→(m.freeze b).Ok D):=by
  obtain ⟨ρ,β,fz,nw⟩:=m
  simp only [MS.freeze]
  cases hn:bA fz b with
  | true=>exact ⟨.refl _,hn,id⟩
  | false=>
    refine ⟨⟨fun _ _ h=>h,fun c hc=> ?_,fun _ h=>h⟩,?_,fun hk=>⟨hk.nw,hk.inj⟩⟩
    · show (bif Nat.beq b c then true else bA fz c)=true
      rw [show bA fz c=true from hc];cases Nat.beq b c <;>rfl
    · show (bif Nat.beq b b then true else bA fz b)=true
      rw [Nat.beq_refl];rfl
theorem tj {D:Nat→Prop} {hp:List Blk} {e:List CSh} {m m':MS} {sv sv':SV} {ds:List Dat} (h:iJ hp e m sv=some (sv',ds,m')):m.le m'∧(m.Ok D→m'.Ok D):=by
  unfold iJ at h
  split at h
  · rename_i e' l
    cases hb:CSh.beqs e e' <;>rw [hb] at h <;>cases h
    exact ⟨.refl _,id⟩
  · cases h;exact ⟨.refl _,id⟩
  · cases h;exact ⟨.refl _,id⟩
  · split at h
    · rename_i e' l _
      cases hb:CSh.beqs e e' <;>rw [hb] at h <;>cases h
      exact ⟨(iK (D:=D) _ _).1,(iK (D:=D) _ _).2.2⟩
    · cases h
  · split at h
    · split at h
      · rename_i N _ _ _ N' k l _ _
        revert h
        cases hb:Nat.beq N' _ <;>intro h
        · cases h
        · simp only [cond_true] at h
          revert h
          cases hb2:CSh.beqs e [.int k] <;>intro h
          · cases h
          · cases h;exact ⟨(iK (D:=D) _ _).1,(iK (D:=D) _ _).2.2⟩
      · cases h
    · cases h
  · cases h
theorem nW {D:Nat→Prop} {hp:List Blk} {e:List CSh} :∀ {svs:List SV} {m m':MS} {rows:List (List CD)},iP hp e svs m=some (rows,m')→m.le m'∧(m.Ok D→m'.Ok D)
  | [],m,m',rows,h=>by
    simp only [iP] at h
    cases h;exact ⟨.refl _,id⟩
  | sv::svs,m,m',rows,h=>by
    simp only [iP] at h
    split at h
    · rename_i m1 h1
      split at h
      · rename_i rows' m2 h2
        cases h
        obtain ⟨a1,a2⟩:=tj (D:=D) h1
        obtain ⟨b1,b2⟩:=nW (D:=D) h2
        exact ⟨a1.trans b1,fun k=>b2 (a2 k)⟩
      · cases h
    · cases h
theorem H6 {D:Nat→Prop} {hp:List Blk} {e:List CSh} {m m':MS} {sv sv':SV} {ds:List Dat} (h:iX hp e m sv=some (sv',ds,m')):m.le m'∧(m.Ok D→m'.Ok D):=by
  unfold iX at h
  split at h
  · split at h
    · split at h
      · rename_i h1
        cases h;exact nW h1
      · cases h
    · cases h
  · exact tj h
mutual
theorem mY {D:Nat→Prop} {hp:List Blk} :∀ {p:Pat} {sv sv':SV} {m m':MS} {ds:List Dat},conv hp p sv m=some (sv',ds,m')→m.le m'∧(m.Ok D→m'.Ok D)
  | .skip,sv,sv',m,m',ds,h=>by
    simp only [conv] at h
    split at h <;>cases h
    exact ⟨.refl _,id⟩
  | .int k,sv,sv',m,m',ds,h=>by
    simp only [conv] at h
    split at h
    · split at h <;>cases h
      exact ⟨.refl _,id⟩
    · cases h
  | .bool,sv,sv',m,m',ds,h=>by
    simp only [conv] at h
    split at h <;>cases h
    exact ⟨.refl _,id⟩
  | .str,sv,sv',m,m',ds,h=>by
    simp only [conv] at h
    split at h <;>cases h
    exact ⟨.refl _,id⟩
  | .rd e,sv,sv',m,m',ds,h=>by
    simp only [conv] at h
    exact H6 h
  | .own i,sv,sv',m,m',ds,h=>by
    simp only [conv] at h
    split at h
    · split at h
      · rename_i hb;cases h;exact ⟨(kZ (D:=D) hb).1,(kZ (D:=D) hb).2.2⟩
      · cases h
    · split at h
      · rename_i hb;cases h;exact ⟨(AA (D:=D) hb).1,(AA (D:=D) hb).2.2⟩
      · cases h
    · cases h
  | .ptr i c,sv,sv',m,m',ds,h=>by
    simp only [conv] at h
    split at h
    · rename_i b c'
      cases hb:Nat.beq c c' <;>rw [hb] at h
      · cases h
      · simp only [cond_true] at h
        split at h
        · rename_i hb;cases h;exact ⟨(kZ (D:=D) hb).1,(kZ (D:=D) hb).2.2⟩
        · cases h
    · cases h
  | .nilp,sv,sv',m,m',ds,h=>by
    simp only [conv] at h
    split at h <;>cases h
    exact ⟨.refl _,id⟩
  | .nilf,sv,sv',m,m',ds,h=>by
    simp only [conv] at h
    split at h <;>cases h
    exact ⟨.refl _,id⟩
  | .nils,sv,sv',m,m',ds,h=>by
    simp only [conv] at h
    split at h <;>cases h
    exact ⟨.refl _,id⟩
  | .agg ps,sv,sv',m,m',ds,h=>by
    simp only [conv] at h
    split at h
    · split at h
      · rename_i hc;cases h;exact convs_le hc
      · cases h
    · cases h
  | .arrI n k,sv,sv',m,m',ds,h=>by
    simp only [conv] at h
    split at h
    · split at h
      · rename_i n' k' l hk
        cases hb:Nat.beq n n' <;>rw [hb] at h <;>cases h
        exact ⟨.refl _,id⟩
      · cases h
    · cases h
  | .arrB n,sv,sv',m,m',ds,h=>by
    simp only [conv] at h
    split at h
    · rename_i n' l
      cases hb:Nat.beq n n' <;>rw [hb] at h <;>cases h
      exact ⟨.refl _,id⟩
    · cases h
  | .tup ps,sv,sv',m,m',ds,h=>by
    simp only [conv] at h
    split at h
    · split at h
      · rename_i hc;cases h;exact convs_le hc
      · cases h
    · cases h
  | .fn f ps,sv,sv',m,m',ds,h=>by
    simp only [conv] at h
    split at h
    · rename_i f' cs
      cases hb:Nat.beq f f' <;>rw [hb] at h
      · cases h
      · simp only [cond_true] at h
        split at h
        · rename_i hc;cases h;exact convs_le hc
        · cases h
    · cases h
  | .fb f ps,sv,sv',m,m',ds,h=>by
    simp only [conv] at h
    split at h
    · rename_i f' cs
      cases hb:Nat.beq f f' <;>rw [hb] at h
      · cases h
      · simp only [cond_true] at h
        split at h
        · rename_i hc;cases h;exact convs_le hc
        · cases h
    · cases h
  | .nili,sv,sv',m,m',ds,h=>by
    simp only [conv] at h
    split at h <;>cases h
    exact ⟨.refl _,id⟩
  | .iface t p,sv,sv',m,m',ds,h=>by
    simp only [conv] at h
    split at h
    · rename_i t' v
      cases hb:Nat.beq t t' <;>rw [hb] at h
      · cases h
      · simp only [cond_true] at h
        split at h
        · rename_i hc;cases h;exact mY hc
        · cases h
    · cases h
theorem convs_le {D:Nat→Prop} {hp:List Blk} :∀ {ps:List Pat} {svs svs':List SV} {m m':MS} {ds:List Dat},convs hp ps svs m=some (svs',ds,m')→m.le m'∧(m.Ok D→m'.Ok D)
  | [],svs,svs',m,m',ds,h=>by
    simp only [convs] at h
    split at h <;>cases h
    exact ⟨.refl _,id⟩
  | p::ps,svs,svs',m,m',ds,h=>by
    simp only [convs] at h
    split at h
    · split at h
      · rename_i h1
        split at h
        · rename_i h2
          cases h
          exact ⟨(mY (D:=D) h1).1.trans (convs_le (D:=D) h2).1,fun hk=>(convs_le h2).2 ((mY h1).2 hk)⟩
        · cases h
      · cases h
    · cases h
end
theorem lR {D:Nat→Prop} {hp:List Blk} {get:Nat→SV} :∀ {ps:List Pat} {t:Nat} {svs':List SV} {m m':MS} {ds:List Dat},fp hp get ps t m=some (svs',ds,m')→m.le m'∧(m.Ok D→m'.Ok D)
  | [],t,svs',m,m',ds,h=>by
    simp only [fp] at h
    cases h;exact ⟨.refl _,id⟩
  | p::ps,t,svs',m,m',ds,h=>by
    have gen:(match conv hp p (get t) m with
        | some (sv,d,m)=>(match fp hp get ps (t+1) m with | some (svs,ds,m)=>some (sv::svs,d++ds,m) | none=>none)
        | none=>none)=some (svs',ds,m')→m.le m'∧(m.Ok D→m'.Ok D):=fun h=>by
      split at h
      · rename_i h1
        split at h
        · rename_i h2
          cases h
          exact ⟨(mY (D:=D) h1).1.trans (lR (D:=D) h2).1,fun hk=>(lR h2).2 ((mY h1).2 hk)⟩
        · cases h
      · cases h
    cases p with
    | skip=>
      simp only [fp] at h
      split at h
      · rename_i h2;cases h;exact lR h2
      · cases h
    | _=>exact gen h
theorem r6 {D:Nat→Prop} {hp:List Blk} {i:Nat} {m m':MS} {p:BPat} {x:Blk} {ds:List Dat} (h:mh hp i m p=some (x,ds,m')):m.le m'∧(m.Ok D→m'.Ok D):=by
  unfold mh at h
  split at h
  · cases p with
    | none=>cases h;exact ⟨.refl _,id⟩
    | cells T ps=>
      simp only at h
      split at h
      · rename_i T' cs _
        cases hb:Nat.beq T' T <;>rw [hb] at h
        · cases h
        · simp only [cond_true] at h
          split at h
          · rename_i hc;cases h;exact convs_le hc
          · cases h
      · cases h
    | own T e=>
      simp only at h
      split at h
      · rename_i T' e' l _
        cases hb:Nat.beq T' T <;>rw [hb] at h
        · cases h
        · simp only [cond_true] at h
          cases hb2:CSh.beqs e e' <;>rw [hb2] at h <;>cases h
          exact ⟨.refl _,id⟩
      · cases h
  · cases p with
    | none=>cases h;exact ⟨.refl _,id⟩
    | cells T ps=>cases h
    | own T e=>
      simp only at h
      cases hb:bA m.nw i <;>rw [hb] at h <;>cases h
      exact ⟨.refl _,id⟩
theorem gF {D:Nat→Prop} {hp:List Blk} :∀ {ps:List BPat} {i:Nat} {m m':MS} {xs:List Blk} {ds:List Dat},dp hp ps i m=some (xs,ds,m')→m.le m'∧(m.Ok D→m'.Ok D)
  | [],i,m,m',xs,ds,h=>by
    simp only [dp] at h
    cases h;exact ⟨.refl _,id⟩
  | p::ps,i,m,m',xs,ds,h=>by
    simp only [dp] at h
    split at h
    · rename_i h1
      split at h
      · rename_i h2
        cases h
        exact ⟨(r6 (D:=D) h1).1.trans (gF (D:=D) h2).1,fun hk=>(gF h2).2 ((r6 h1).2 hk)⟩
      · cases h
    · cases h
section
variable {Im:Nat→Prop} {ι:Nat→Option Value} {w:World} {hp:List Blk} {mf:MS} {D:Nat→Prop}
theorem LG {hp:List Blk} {b:Nat} {T e l} (h:hp.getD b .none= .own T e l):aH (hp.getD b .none)=true:=by rw [h];rfl
theorem qY (hh:HV Im ι w hp) {e:List CSh} {m m':MS} {sv sv':SV} {ds:List Dat} {v:Value} (h:iJ hp e m sv=some (sv',ds,m')) (hle:m'.le mf) (hv:VRel Im ι w sv v):VRel (fC Im ι hp mf) (ιW ι mf) w sv' v:=by
  have mono:∀ {sh cd v},CRel Im w sh cd v→CRel (fC Im ι hp mf) w sh cd v:=fun h=>h.mono (fun _=> .inl) fun _ _=>rfl
  have fmono:∀ {e l xs},FlatRel Im w e l xs→FlatRel (fC Im ι hp mf) w e l xs:=fun h=>h.mono (fun _=> .inl) fun _ _=>rfl
  unfold iJ at h
  split at h
  · rename_i e' l
    cases hb:CSh.beqs e e' <;>rw [hb] at h <;>cases h
    cases CSh.beqs_eq _ _ hb
    exact mono hv
  · cases h
    cases (show v= .slice none 0 0 from hv)
    exact CRel.sl0 _ _ _ (Nat.zero_le _)
  · cases h
    obtain ⟨a,rfl⟩:=hv
    exact CRel.sl0 _ _ _ (Nat.zero_le _)
  · rename_i b
    split at h
    · rename_i T' e' l hblk
      cases hb:CSh.beqs e e' <;>rw [hb] at h <;>cases h
      cases CSh.beqs_eq _ _ hb
      have hfz:=hle.fz b (iK (D:=fun _=>True) m b).2.1
      obtain ⟨a,cap,h1,h2,h3,h4⟩:=lN (x:= .own b) (e:=e) (l:=l) hh (by unfold rS;simp only [hblk]) hv
      rcases Nat.eq_zero_or_pos l.length with h0 | h0
      · have:l= [] :=List.length_eq_zero_iff.1 h0
        subst this
        subst h1
        exact CRel.sl0 _ _ _ h3
      · obtain ⟨ad,xs,rfl,h5,h6⟩:=h4 h0
        subst h1
        refine CRel.sl _ _ ad cap xs h2 h3 (.inr ⟨b,_,hfz,hv.1,LG hblk,?_⟩) (fmono h5) h6
        simp only [aC]
        rw [if_neg (by omega)]
    · cases h
  · rename_i b c N lo n
    split at h
    · rename_i T' cs hblk
      split at h
      · rename_i a N' k L d hsp
        revert h
        cases hb:Nat.beq N' N <;>intro h
        · cases h
        · simp only [cond_true] at h
          revert h
          cases hb2:CSh.beqs e [.int k] <;>intro h
          · cases h
          · cases h
            cases CSh.beqs_eq _ _ hb2
            have hN:=aA.1 hb
            have hfz:=hle.fz b (iK (D:=fun _=>True) m b).2.1
            obtain ⟨a,cap,h1,h2,h3,h4⟩:=lN (x:= .win b c N lo n) hh (by unfold rS;simp only [hblk,hsp];rw [if_pos hN]) hv
            generalize hl:(((L.drop lo).take n).map fun x=> [CD.int x])=l at h1 h2 h4 ⊢
            rcases Nat.eq_zero_or_pos l.length with h0 | h0
            · have:l= [] :=List.length_eq_zero_iff.1 h0
              subst this
              subst h1
              exact CRel.sl0 _ _ _ h3
            · obtain ⟨ad,xs,rfl,h5,h6⟩:=h4 h0
              obtain ⟨r,cap',g1,g2,_⟩:=hv
              rw [h1] at g2
              injection g2 with g3 g4 g5
              injection g3 with g3
              subst g3
              subst h1
              refine CRel.sl _ _ _ cap xs h2 h3 (.inr ⟨b,_,hfz,g1,?_,rfl⟩) (fmono h5) h6
              rw [hblk];rfl
      · cases h
    · cases h
  · cases h
theorem rh (hh:HV Im ι w hp) {e:List CSh} :∀ {svs:List SV} {m m':MS} {rows:List (List CD)} {vs:List Value},iP hp e svs m=some (rows,m')→m'.le mf→VRels Im ι w svs vs→
    FlatRel (fC Im ι hp mf) w [.sl e] rows vs∧rows.length=svs.length
  | [],m,m',rows,vs,h,hle,hv=>by
    simp only [iP] at h
    cases h
    cases (show vs= [] from hv)
    exact ⟨.nil _,rfl⟩
  | sv::svs,m,m',rows,vs,h,hle,hv=>by
    simp only [iP] at h
    obtain ⟨v,vs',rfl,hv1,hv2⟩:=hv
    split at h
    · rename_i e' l ds' m1 h1
      split at h
      · rename_i rows' m2 h2
        cases h
        obtain ⟨l',hl,_⟩:=oR h1
        cases hl
        have hle1:=((nW (D:=fun _=>True) h2).1).trans hle
        have hc:=qY hh h1 hle1 hv1
        obtain ⟨k1,k2⟩:=rh hh h2 hle hv2
        exact ⟨.cons _ _ [v] _ _ (.cons _ _ _ _ _ _ hc .nil) k1,by simp [k2]⟩
      · cases h
    · cases h
theorem GP (hh:HV Im ι w hp) {e:List CSh} {m m':MS} {sv sv':SV} {ds:List Dat} {v:Value} (h:iX hp e m sv=some (sv',ds,m')) (hle:m'.le mf) (hv:VRel Im ι w sv v):VRel (fC Im ι hp mf) (ιW ι mf) w sv' v:=by
  unfold iX at h
  split at h
  · rename_i svs
    split at h
    · split at h
      · rename_i rows m1 h1
        cases h
        obtain ⟨ad,vs,rfl,g1,g2,g3,g4⟩:=hv
        obtain ⟨k1,k2⟩:=rh hh h1 hle g3
        show CRel (fC Im ι hp mf) w (.sl _) (.sl rows) _
        rcases Nat.eq_zero_or_pos svs.length with h0 | h0
        · have:rows= [] :=List.length_eq_zero_iff.1 (k2.trans h0)
          subst this
          rw [h0]
          exact CRel.sl0 _ _ _ (Nat.zero_le _)
        · have hc:=CRel.sl (Im:=fC Im ι hp mf) (w:=w) _ rows ad svs.length vs (by omega) g1 (.inl g2) k1 g4
          rw [k2] at hc
          exact hc
      · cases h
    · cases h
  · exact qY hh h hle hv
theorem ιW_bind {b i:Nat} {v:Value} (h:cf mf.ρ i=some b) (hb:ι b=some v):ιW ι mf i=some v:=by unfold ιW;rw [h];exact hb
theorem ιW_new (hk:mf.Ok D) {i:Nat} (h:bA mf.nw i=true):ιW ι mf i=some (.slice none 0 0):=by unfold ιW;rw [hk.nw i h];simp [h]
theorem I4 {hp:List Blk} {p:Pat} {n:Nat} {k:IntKind} {l:List Int} {sv':SV} {m m':MS} {ds:List Dat} (h:conv hp p (.arrI n k l) m=some (sv',ds,m')):sv'= .arrI n k l:=by
  cases p <;>simp only [conv,iX] at h <;>try cases h
  split at h
  · rename_i hk
    rename_i n0 k0
    revert h
    cases hb:Nat.beq n0 n <;>intro h <;>cases h
    cases aA.1 hb;subst hk;rfl
  · cases h
theorem I6 {hp:List Blk} {p:Pat} {n:Nat} {l:List Bool} {sv':SV} {m m':MS} {ds:List Dat} (h:conv hp p (.arrB n l) m=some (sv',ds,m')):sv'= .arrB n l:=by
  cases p <;>simp only [conv,iX] at h <;>try cases h
  rename_i n0
  revert h
  cases hb:Nat.beq n0 n <;>intro h <;>cases h
  cases aA.1 hb;rfl
def SV.isArr:SV→Bool | .arrI .. =>true | .arrB .. =>true | _=>false
theorem sJ (p:Pat) (ds:List Dat) (h1:∀ n k,p≠ .arrI n k) (h2:∀ n,p≠ .arrB n):(br p ds).1.isArr=false:=by
  cases p <;>first | exact absurd rfl (h1 _ _) | exact absurd rfl (h2 _) | rfl | (cases ds with | nil=>rfl | cons d ds=>cases d <;>rfl)
theorem Gc {hp:List Blk} {p:Pat} {sv sv':SV} {m m':MS} {ds:List Dat} (ha:sv.isArr=false) (h:conv hp p sv m=some (sv',ds,m')):sv'.isArr=false:=by
  have h2:=(om h).2 []
  have h3:sv'=(br p (ds++ [])).1:=by rw [h2]
  rw [h3]
  refine sJ p _ (fun n k e=> ?_) (fun n e=> ?_)
  · subst e
    cases sv <;>simp only [conv] at h <;>first | cases h | cases ha
  · subst e
    cases sv <;>simp only [conv] at h <;>first | cases h | cases ha
theorem dR {Im:Nat→Prop} {ι:Nat→Option Value} {w:World} {s:SV} {cs:List SV} {vs:List Value} (ha:s.isArr=false):CellsRel Im ι w (s::cs) vs↔∃ v vs',vs=v::vs'∧VRel Im ι w s v∧v.oneCell'=true∧CellsRel Im ι w cs vs':=by
  rw [CellsRel.eq_def]
  cases s <;>first | rfl | cases ha
mutual
theorem oH (hh:HV Im ι w hp) (hk:mf.Ok D):∀ {p:Pat} {sv sv':SV} {m m':MS} {ds:List Dat} {v:Value},conv hp p sv m=some (sv',ds,m')→m'.le mf→VRel Im ι w sv v→VRel (fC Im ι hp mf) (ιW ι mf) w sv' v
  | .skip,sv,sv',m,m',ds,v,h,hle,hv=>by
    simp only [conv] at h
    split at h <;>cases h
    trivial
  | .int k,sv,sv',m,m',ds,v,h,hle,hv=>by
    simp only [conv] at h
    split at h
    · split at h
      · rename_i hk;cases h;subst hk;exact hv
      · cases h
    · cases h
  | .bool,sv,sv',m,m',ds,v,h,hle,hv=>by
    simp only [conv] at h
    split at h <;>cases h
    exact hv
  | .str,sv,sv',m,m',ds,v,h,hle,hv=>by
    simp only [conv] at h
    split at h <;>cases h
    exact hv
  | .rd e,sv,sv',m,m',ds,v,h,hle,hv=>by
    simp only [conv] at h
    exact GP hh h hle hv
  | .own i,sv,sv',m,m',ds,v,h,hle,hv=>by
    simp only [conv] at h
    split at h
    · split at h
      · rename_i hb
        cases h
        exact ⟨ιW_bind (hle.rho _ _ (kZ (D:=D) hb).2.1) hv.1,hv.2⟩
      · cases h
    · split at h
      · rename_i hb
        cases h
        cases (show v= .slice none 0 0 from hv)
        exact ⟨ιW_new hk (hle.nw _ (AA (D:=D) hb).2.1),_,_,_,rfl⟩
      · cases h
    · cases h
  | .ptr i c,sv,sv',m,m',ds,v,h,hle,hv=>by
    simp only [conv] at h
    split at h
    · rename_i b c'
      cases hb:Nat.beq c c' <;>rw [hb] at h
      · cases h
      · simp only [cond_true] at h
        split at h
        · rename_i hbd
          cases h
          cases aA.1 hb
          obtain ⟨r,h1,h2⟩:=hv
          exact ⟨r,ιW_bind (hle.rho _ _ (kZ (D:=D) hbd).2.1) h1,h2⟩
        · cases h
    · cases h
  | .nilp,sv,sv',m,m',ds,v,h,hle,hv=>by
    simp only [conv] at h
    split at h <;>cases h
    exact hv
  | .nilf,sv,sv',m,m',ds,v,h,hle,hv=>by
    simp only [conv] at h
    split at h <;>cases h
    exact hv
  | .nils,sv,sv',m,m',ds,v,h,hle,hv=>by
    simp only [conv] at h
    split at h <;>cases h
    exact hv
  | .agg ps,sv,sv',m,m',ds,v,h,hle,hv=>by
    simp only [conv] at h
    split at h
    · split at h
      · rename_i hc
        cases h
        obtain ⟨vs,h1,h2⟩:=hv
        exact ⟨vs,h1,convs_cells hh hk hc hle h2⟩
      · cases h
    · cases h
  | .arrI n k,sv,sv',m,m',ds,v,h,hle,hv=>by
    cases sv <;>simp only [conv] at h <;>first | cases h | exact hv.elim
  | .arrB n,sv,sv',m,m',ds,v,h,hle,hv=>by
    cases sv <;>simp only [conv] at h <;>first | cases h | exact hv.elim
  | .tup ps,sv,sv',m,m',ds,v,h,hle,hv=>by
    simp only [conv] at h
    split at h
    · split at h
      · rename_i hc
        cases h
        obtain ⟨vs,h1,h2⟩:=hv
        exact ⟨vs,h1,convs_rel hh hk hc hle h2⟩
      · cases h
    · cases h
  | .fn f ps,sv,sv',m,m',ds,v,h,hle,hv=>by
    simp only [conv] at h
    split at h
    · rename_i f' cs
      cases hb:Nat.beq f f' <;>rw [hb] at h
      · cases h
      · simp only [cond_true] at h
        split at h
        · rename_i hc
          cases h
          cases aA.1 hb
          obtain ⟨vs,h1,h2⟩:=hv
          exact ⟨vs,h1,convs_rel hh hk hc hle h2⟩
        · cases h
    · cases h
  | .fb f ps,sv,sv',m,m',ds,v,h,hle,hv=>by
    simp only [conv] at h
    split at h
    · rename_i f' cs
      cases hb:Nat.beq f f' <;>rw [hb] at h
      · cases h
      · simp only [cond_true] at h
        split at h
        · rename_i hc
          cases h
          cases aA.1 hb
          obtain ⟨vs,h1,h2⟩:=hv
          exact ⟨vs,h1,convs_rel hh hk hc hle h2⟩
        · cases h
    · cases h
  | .nili,sv,sv',m,m',ds,v,h,hle,hv=>by
    simp only [conv] at h
    split at h <;>cases h
    exact hv
  | .iface t p,sv,sv',m,m',ds,v,h,hle,hv=>by
    simp only [conv] at h
    split at h
    · rename_i t' u
      cases hb:Nat.beq t t' <;>rw [hb] at h
      · cases h
      · simp only [cond_true] at h
        split at h
        · rename_i hc
          cases h
          cases aA.1 hb
          obtain ⟨v',h1,h2⟩:=hv
          exact ⟨v',h1,oH hh hk hc hle h2⟩
        · cases h
    · cases h
theorem convs_rel (hh:HV Im ι w hp) (hk:mf.Ok D):∀ {ps:List Pat} {svs svs':List SV} {m m':MS} {ds:List Dat} {vs:List Value},convs hp ps svs m=some (svs',ds,m')→m'.le mf→VRels Im ι w svs vs→VRels (fC Im ι hp mf) (ιW ι mf) w svs' vs
  | [],svs,svs',m,m',ds,vs,h,hle,hv=>by
    simp only [convs] at h
    split at h <;>cases h
    exact hv
  | p::ps,svs,svs',m,m',ds,vs,h,hle,hv=>by
    simp only [convs] at h
    split at h
    · split at h
      · rename_i h1
        split at h
        · rename_i h2
          cases h
          obtain ⟨v,vs',rfl,k1,k2⟩:=hv
          exact ⟨v,vs',rfl,oH hh hk h1 ((convs_le (D:=D) h2).1.trans hle) k1,convs_rel hh hk h2 hle k2⟩
        · cases h
      · cases h
    · cases h
theorem convs_cells (hh:HV Im ι w hp) (hk:mf.Ok D):∀ {ps:List Pat} {svs svs':List SV} {m m':MS} {ds:List Dat} {vs:List Value},convs hp ps svs m=some (svs',ds,m')→m'.le mf→CellsRel Im ι w svs vs→CellsRel (fC Im ι hp mf) (ιW ι mf) w svs' vs
  | [],svs,svs',m,m',ds,vs,h,hle,hv=>by
    simp only [convs] at h
    split at h <;>cases h
    exact hv
  | p::ps,svs,svs',m,m',ds,vs,h,hle,hv=>by
    simp only [convs] at h
    split at h
    · rename_i sv svs0
      split at h
      · rename_i sv1 d m1 h1
        split at h
        · rename_i svs2 ds2 m2 h2
          cases h
          have ih:=fun vs=>convs_cells (vs:=vs) hh hk h2 hle
          have ih1:=fun v=>oH (v:=v) hh hk h1 ((convs_le (D:=D) h2).1.trans hle)
          cases ha:sv.isArr with
          | false=>
            obtain ⟨v,vs',rfl,k1,k2,k3⟩:=(dR ha).1 hv
            exact (dR (Gc ha h1)).2 ⟨v,vs',rfl,ih1 v k1,k2,ih vs' k3⟩
          | true=>
            cases sv <;>first | cases ha | skip
            · cases I4 h1
              obtain ⟨k1,vs',rfl,k2⟩:=aJ hv
              exact cM k1 (ih vs' k2)
            · cases I6 h1
              obtain ⟨k1,vs',rfl,k2⟩:=cu hv
              exact dZ k1 (ih vs' k2)
        · cases h
      · cases h
    · cases h
end
theorem pF (hh:HV Im ι w hp) (hk:mf.Ok D) {get:Nat→SV} :∀ {ps:List Pat} {t:Nat} {svs':List SV} {m m':MS} {ds:List Dat},fp hp get ps t m=some (svs',ds,m')→m'.le mf→∀ {val:Nat→Value},(∀ j,t≤j→j<t+ps.length→VRel Im ι w (get j) (val j))→
    svs'.length=ps.length∧∀ j,VRel (fC Im ι hp mf) (ιW ι mf) w (aD svs' j) (val (t+j))
  | [],t,svs',m,m',ds,h,hle,val,hv=>by
    simp only [fp] at h
    cases h
    exact ⟨rfl,fun j=>trivial⟩
  | p::ps,t,svs',m,m',ds,h,hle,val,hv=>by
    have gen:(match conv hp p (get t) m with
        | some (sv,d,m)=>(match fp hp get ps (t+1) m with | some (svs,ds,m)=>some (sv::svs,d++ds,m) | none=>none)
        | none=>none)=some (svs',ds,m')→svs'.length=(p::ps).length∧∀ j,VRel (fC Im ι hp mf) (ιW ι mf) w (aD svs' j) (val (t+j)):=fun h=>by
      split at h
      · rename_i h1
        split at h
        · rename_i h2
          cases h
          obtain ⟨k1,k2⟩:=pF hh hk h2 hle (val:=val) fun j a b=>hv j (by omega) (by simp;omega)
          refine ⟨by simp [k1],fun j=> ?_⟩
          cases j with
          | zero=>exact oH hh hk h1 ((lR (D:=D) h2).1.trans hle) (hv t (Nat.le_refl _) (by simp))
          | succ j=>have:=k2 j;rw [show t+1+j=t+(j+1) from by omega] at this;exact this
        · cases h
      · cases h
    cases p with
    | skip=>
      simp only [fp] at h
      split at h
      · rename_i h2
        cases h
        obtain ⟨k1,k2⟩:=pF hh hk h2 hle (val:=val) fun j a b=>hv j (by omega) (by simp;omega)
        refine ⟨by simp [k1],fun j=> ?_⟩
        cases j with
        | zero=>trivial
        | succ j=>have:=k2 j;rw [show t+1+j=t+(j+1) from by omega] at this;exact this
      · cases h
    | _=>exact gen h
theorem II (hh:HV Im ι w hp) (hk:mf.Ok D) {i:Nat} {m m':MS} {p:BPat} {x:Blk} {ds:List Dat} (h:mh hp i m p=some (x,ds,m')) (hle:m'.le mf):∀ v,ιW ι mf i=some v→BRel (fC Im ι hp mf) (ιW ι mf) w x v∧(aH x=true→(∃ b,cf mf.ρ i=some b∧ι b=some v∧aH (hp.getD b .none)=true)∨v= .slice none 0 0):=by
  intro v hv
  have hm:=(r6 (D:=D) h).1.trans hle
  unfold mh at h
  split at h
  · rename_i b hb
    have hρ:=hm.rho _ _ hb
    have hv':ι b=some v:=by unfold ιW at hv;rw [hρ] at hv;exact hv
    have hB:=hh b v hv'
    cases p with
    | none=>cases h;exact ⟨trivial,fun e=>by cases e⟩
    | cells T ps=>
      simp only at h
      split at h
      · rename_i T' cs hblk
        cases hT:Nat.beq T' T <;>rw [hT] at h
        · cases h
        · simp only [cond_true] at h
          split at h
          · rename_i hc
            cases h
            cases aA.1 hT
            rw [hblk] at hB
            obtain ⟨r,vs,rfl,h1,h2⟩:=hB
            exact ⟨⟨r,vs,rfl,h1,convs_cells hh hk hc hle h2⟩,fun _=> .inl ⟨b,hρ,hv',by rw [hblk];rfl⟩⟩
          · cases h
      · cases h
    | own T e=>
      simp only at h
      split at h
      · rename_i T' e' l hblk
        cases hT:Nat.beq T' T <;>rw [hT] at h
        · cases h
        · simp only [cond_true] at h
          cases hb2:CSh.beqs e e' <;>rw [hb2] at h <;>cases h
          cases aA.1 hT
          cases CSh.beqs_eq _ _ hb2
          rw [hblk] at hB
          obtain ⟨xs,h1,h2⟩:=hB
          exact ⟨⟨xs,h1,h2.mono (fun _=> .inl) fun _ _=>rfl⟩,fun _=> .inl ⟨b,hρ,hv',by rw [hblk];rfl⟩⟩
      · cases h
  · cases p with
    | none=>cases h;exact ⟨trivial,fun e=>by cases e⟩
    | cells T ps=>cases h
    | own T e=>
      simp only at h
      cases hb:bA m.nw i <;>rw [hb] at h <;>cases h
      have:=ιW_new (ι:=ι) hk (hm.nw _ hb)
      rw [this] at hv
      cases hv
      exact ⟨⟨[],⟨by simp,.inl ⟨none,rfl,rfl⟩⟩,.nil _⟩,fun _=> .inr rfl⟩
theorem kT (hh:HV Im ι w hp) (hk:mf.Ok D):∀ {ps:List BPat} {i:Nat} {m m':MS} {xs:List Blk} {ds:List Dat},dp hp ps i m=some (xs,ds,m')→m'.le mf→∀ j v,ιW ι mf (i+j)=some v→BRel (fC Im ι hp mf) (ιW ι mf) w (xs.getD j .none) v∧(aH (xs.getD j .none)=true→(∃ b,cf mf.ρ (i+j)=some b∧ι b=some v∧aH (hp.getD b .none)=true)∨v= .slice none 0 0)
  | [],i,m,m',xs,ds,h,hle,j,v,hv=>by
    simp only [dp] at h
    cases h
    exact ⟨trivial,fun e=>by cases e⟩
  | p::ps,i,m,m',xs,ds,h,hle,j,v,hv=>by
    simp only [dp] at h
    split at h
    · rename_i h1
      split at h
      · rename_i h2
        cases h
        cases j with
        | zero=>exact II hh hk h1 ((gF (D:=D) h2).1.trans hle) v hv
        | succ j=>
          rw [show i+(j+1)=i+1+j from by omega] at hv ⊢
          exact kT hh hk h2 hle j v hv
      · cases h
    · cases h
theorem oI:maxLen≤9223372036854775807:=by decide
theorem LN {Im:Nat→Prop} {w:World} {e:List CSh} {l:List (List CD)} {v:Value} (h:CRel Im w (.sl e) (.sl l) v):l.length≤9223372036854775807:=by
  obtain ⟨a,cap,_,h2,h3,_⟩:=CRel.slice h
  have:=oI
  omega
mutual
theorem sd {Im:Nat→Prop} {ι:Nat→Option Value} {w:World} :∀ (p:Pat) (ds:List Dat) (v:Value) (K:List Dat→Prop),VRel Im ι w (br p ds).1 v→GQ p ds K→K (br p ds).2
  | .skip,ds,v,K,hv,h=>by cases ds <;>exact h
  | .int k,ds,v,K,hv,h=>by
    cases ds with
    | nil=>exact h
    | cons d ds=>cases d <;>exact h
  | .bool,ds,v,K,hv,h=>by
    cases ds with
    | nil=>exact h
    | cons d ds=>cases d <;>exact h
  | .str,ds,v,K,hv,h=>by
    cases ds with
    | nil=>exact h
    | cons d ds=>
      cases d <;>first | exact h | skip
      exact h (Nat.le_trans hv.2 oI)
  | .rd e,ds,v,K,hv,h=>by
    cases ds with
    | nil=>exact h
    | cons d ds=>
      cases d <;>first | exact h | skip
      exact h (LN hv)
  | .own i,ds,v,K,hv,h=>by cases ds <;>exact h
  | .ptr i c,ds,v,K,hv,h=>by cases ds <;>exact h
  | .nilp,ds,v,K,hv,h=>by cases ds <;>exact h
  | .nilf,ds,v,K,hv,h=>by cases ds <;>exact h
  | .nils,ds,v,K,hv,h=>by cases ds <;>exact h
  | .agg ps,ds,v,K,hv,h=>by
    obtain ⟨vs,_,k⟩:=hv
    have h':impPs ps ds K:=by cases ds <;>exact h
    exact imps_cells ps ds vs K k h'
  | .arrI n k,ds,v,K,hv,h=>by
    cases ds with
    | nil=>exact h
    | cons d ds=>
      cases d <;>first | exact h | exact hv.elim
  | .arrB n,ds,v,K,hv,h=>by
    cases ds with
    | nil=>exact h
    | cons d ds=>
      cases d <;>first | exact h | exact hv.elim
  | .tup ps,ds,v,K,hv,h=>by
    obtain ⟨vs,_,k⟩:=hv
    have h':impPs ps ds K:=by cases ds <;>exact h
    exact imps_elim ps ds vs K k h'
  | .fn f ps,ds,v,K,hv,h=>by
    obtain ⟨vs,_,k⟩:=hv
    have h':impPs ps ds K:=by cases ds <;>exact h
    exact imps_elim ps ds vs K k h'
  | .fb f ps,ds,v,K,hv,h=>by
    obtain ⟨vs,_,k⟩:=hv
    have h':impPs ps ds K:=by cases ds <;>exact h
    exact imps_elim ps ds vs K k h'
  | .nili,ds,v,K,hv,h=>by cases ds <;>exact h
  | .iface t p,ds,v,K,hv,h=>by
    obtain ⟨v',_,k⟩:=hv
    have h':GQ p ds K:=by cases ds <;>exact h
    exact sd p ds v' K k h'
theorem imps_elim {Im:Nat→Prop} {ι:Nat→Option Value} {w:World} :∀ (ps:List Pat) (ds:List Dat) (vs:List Value) (K:List Dat→Prop),VRels Im ι w (instPs ps ds).1 vs→impPs ps ds K→K (instPs ps ds).2
  | [],ds,vs,K,hv,h=>h
  | p::ps,ds,vs,K,hv,h=>by
    obtain ⟨v,vs',rfl,k1,k2⟩:=hv
    exact imps_elim ps _ vs' K k2 (sd p ds v _ k1 h)
theorem imps_cells {Im:Nat→Prop} {ι:Nat→Option Value} {w:World} :∀ (ps:List Pat) (ds:List Dat) (vs:List Value) (K:List Dat→Prop),CellsRel Im ι w (instPs ps ds).1 vs→impPs ps ds K→K (instPs ps ds).2
  | [],ds,vs,K,hv,h=>h
  | p::ps,ds,vs,K,hv,h=>by
    have hv':CellsRel Im ι w ((br p ds).1::(instPs ps (br p ds).2).1) vs:=hv
    have ih:=fun v=>sd (Im:=Im) (ι:=ι) (w:=w) p ds v (fun ds=>impPs ps ds K)
    have ih2:=fun vs'=>imps_cells (Im:=Im) (ι:=ι) (w:=w) ps (br p ds).2 vs' K
    show K (instPs ps (br p ds).2).2
    cases ha:(br p ds).1.isArr with
    | false=>
      obtain ⟨v,vs',rfl,k1,k2,k3⟩:=(dR ha).1 hv'
      exact ih2 vs' k3 (ih v k1 h)
    | true=>
      have hk:impPs ps (br p ds).2 K:=by
        cases p with
        | arrI n k=>
          cases ds with
          | nil=>exact h
          | cons d ds=>
            cases d <;>first | exact h | skip
            exact h (aJ hv').1
        | arrB n=>
          cases ds with
          | nil=>exact h
          | cons d ds=>
            cases d <;>first | exact h | skip
            exact h (cu hv').1
        | _=>
          rw [sJ _ ds (by intro n k e;cases e) (by intro n e;cases e)] at ha
          cases ha
      obtain ⟨va,vb,rfl,_,_,k2⟩:=aY hv'
      exact ih2 vb k2 hk
end
theorem IJ {Im:Nat→Prop} {ι:Nat→Option Value} {w:World} (p:BPat) (ds:List Dat) (v:Value) (K:List Dat→Prop) (hv:BRel Im ι w (kM p ds).1 v) (h:UG p ds K):K (kM p ds).2:=by
  cases p with
  | none=>cases ds <;>exact h
  | cells T ps=>
    obtain ⟨r,vs,_,_,k⟩:=hv
    have h':impPs ps ds K:=by cases ds <;>exact h
    exact imps_cells ps ds vs K k h'
  | own T e=>
    cases ds with
    | nil=>exact h
    | cons d ds=>
      cases d <;>first | exact h | skip
      rename_i l
      refine h ?_
      obtain ⟨xs,hO,_⟩:=hv
      obtain ⟨a,cap,_,h2,h3,_⟩:=OwnV.slice hO
      have:=oI
      omega
mutual
theorem uP {Im:Nat→Prop} {ι:Nat→Option Value} {w:World} :∀ (s:SV) (v:Value),VRel Im ι w s v→∀ b∈s.hs,∃ u,ι b=some u
  | .agg cs,v,h,b,hb=>by obtain ⟨vs,_,k⟩:=h;exact hs_cells cs vs k b hb
  | .fn f cs,v,h,b,hb=>by obtain ⟨vs,_,k⟩:=h;exact hs_vrels cs vs k b hb
  | .fb f cs,v,h,b,hb=>by obtain ⟨vs,_,k⟩:=h;exact hs_vrels cs vs k b hb
  | .tup cs,v,h,b,hb=>by obtain ⟨vs,_,k⟩:=h;exact hs_vrels cs vs k b hb
  | .sls cs,v,h,b,hb=>by obtain ⟨_,vs,_,_,_,k,_⟩:=h;exact hs_vrels cs vs k b hb
  | .iface t s,v,h,b,hb=>by obtain ⟨v',_,k⟩:=h;exact uP s v' k b hb
  | .ptr c _,v,h,b,hb=>by
    obtain ⟨r,k,_⟩:=h
    have hb':b∈ [c] :=hb
    simp only [List.mem_singleton] at hb'
    subst hb';exact ⟨_,k⟩
  | .aptr c _ _,v,h,b,hb=>by
    obtain ⟨r,k,_⟩:=h
    have hb':b∈ [c] :=hb
    simp only [List.mem_singleton] at hb'
    subst hb';exact ⟨_,k⟩
  | .own c,v,h,b,hb=>by
    have hb':b∈ [c] :=hb
    simp only [List.mem_singleton] at hb'
    subst hb';exact ⟨_,h.1⟩
  | .win c _ _ _ _,v,h,b,hb=>by
    obtain ⟨r,cap,k,_⟩:=h
    have hb':b∈ [c] :=hb
    simp only [List.mem_singleton] at hb'
    subst hb';exact ⟨_,k⟩
  | .optr c _ _ _,v,h,b,hb=>by
    obtain ⟨r,n,cap,k,_⟩:=h
    have hb':b∈ [c] :=hb
    simp only [List.mem_singleton] at hb'
    subst hb';exact ⟨_,k⟩
  | .ow c _ _ _,v,h,b,hb=>by
    obtain ⟨r,m,cap,cap',k,_⟩:=h
    have hb':b∈ [c] :=hb
    simp only [List.mem_singleton] at hb'
    subst hb';exact ⟨_,k⟩
  | .dead,_,_,b,hb | .int ..,_,_,b,hb | .bool _,_,_,b,hb | .str _,_,_,b,hb | .nilp,_,_,b,hb | .nilf,_,_,b,hb | .rd ..,_,_,b,hb | .e0,_,_,b,hb | .nils,_,_,b,hb | .eptr ..,_,_,b,hb | .nili,_,_,b,hb | .val _,_,_,b,hb=>by
    cases (show b∈ [] from hb)
  | .arrI ..,v,h,b,hb=>h.elim
  | .arrB ..,v,h,b,hb=>h.elim
theorem hs_vrels {Im:Nat→Prop} {ι:Nat→Option Value} {w:World} :∀ (cs:List SV) (vs:List Value),VRels Im ι w cs vs→∀ b∈hsL cs,∃ u,ι b=some u
  | [],vs,h,b,hb=>by cases hb
  | s::cs,vs,h,b,hb=>by
    obtain ⟨v,vs',rfl,k1,k2⟩:=h
    rcases List.mem_append.1 (show b∈s.hs++hsL cs from hb) with hb | hb
    · exact uP s v k1 b hb
    · exact hs_vrels cs vs' k2 b hb
theorem hs_cells {Im:Nat→Prop} {ι:Nat→Option Value} {w:World} :∀ (cs:List SV) (vs:List Value),CellsRel Im ι w cs vs→∀ b∈hsL cs,∃ u,ι b=some u
  | [],vs,h,b,hb=>by cases hb
  | s::cs,vs,h,b,hb=>by
    have ih:=fun v=>uP (Im:=Im) (ι:=ι) (w:=w) s v
    have ih2:=fun vs'=>hs_cells (Im:=Im) (ι:=ι) (w:=w) cs vs'
    rcases List.mem_append.1 (show b∈s.hs++hsL cs from hb) with hb | hb
    · cases ha:s.isArr with
      | false=>
        obtain ⟨v,vs',rfl,k1,_,_⟩:=(dR ha).1 h
        exact ih v k1 b hb
      | true=>
        cases s <;>first | cases ha | skip
        · cases (show b∈ [] from hb)
        · cases (show b∈ [] from hb)
    · obtain ⟨va,vb,rfl,_,_,k⟩:=aY h
      exact ih2 vb k b hb
end
theorem n6 {Im:Nat→Prop} {ι:Nat→Option Value} {w:World} {hs:List Nat} (hk:∀ b∈hs,∃ u,ι b=some u):∀ (ps:List BPat) (i:Nat) (ds:List Dat) (K:List Dat→Prop),(∀ j v,ι (i+j)=some v→BRel Im ι w ((gd ps ds).1.getD j .none) v)→oM hs i ps ds K→K (gd ps ds).2
  | [],i,ds,K,hB,h=>h
  | p::ps,i,ds,K,hB,h=>by
    have ih:=n6 hk ps (i+1) (kM p ds).2 K fun j v hj=>hB (j+1) v (by rw [← hj];congr 1;omega)
    unfold oM at h
    cases hc:hs.contains i with
    | false=>rw [hc] at h;exact ih h
    | true=>
      rw [hc] at h
      obtain ⟨u,hu⟩:=hk i (by simpa using hc)
      exact ih (IJ p ds u _ (hB 0 u hu) h)
theorem oS {Im:Nat→Prop} {ι:Nat→Option Value} {w:World} :∀ (svs:List SV) (val:Nat→Value),(∀ j,VRel Im ι w (aD svs j) (val j))→∃ vs,VRels Im ι w svs vs
  | [],val,h=>⟨[],rfl⟩
  | s::svs,val,h=>by
    obtain ⟨vs,k⟩:=oS svs (fun j=>val (j+1)) fun j=>h (j+1)
    exact ⟨val 0::vs,val 0,vs,rfl,h 0,k⟩
theorem zR:∀ n i,cf (gJ n) i=if i<n then some i else none
  | 0,i=>by simp [gJ,cf]
  | n+1,i=>by
    show (bif Nat.beq n i then some n else cf (gJ n) i)=_
    cases h:Nat.beq n i with
    | true=>cases aA.1 h;simp
    | false=>
      rw [cond_false,zR n i]
      have:=dw.1 h
      by_cases h2:i<n
      · rw [if_pos h2,if_pos (by omega)]
      · rw [if_neg h2,if_neg (by omega)]
def ee:List BPat→Nat→Prop
  | [],_=>True
  | p::_,0=>p= .none
  | _::ps,i+1=>ee ps i
theorem BM:∀ (n i:Nat) (bps:List BPat) (j:Nat),j<n→ee bps j∨dW (pk i n bps) (i+j)=some (i+j)
  | 0,i,bps,j,h=>by omega
  | n+1,i,[],j,h=> .inl (by cases j <;>trivial)
  | n+1,i,p::ps,0,h=>by
    cases p with
    | none=>exact .inl rfl
    | _=>
      right
      show (bif Nat.beq i (i+0) then some i else _)=some (i+0)
      rw [Nat.add_zero,Nat.beq_refl];rfl
  | n+1,i,p::ps,j+1,h=>by
    have ih:=BM n (i+1) ps j (by omega)
    rcases ih with ih | ih
    · exact .inl ih
    · right
      have e:i+1+j=i+(j+1):=by omega
      rw [e] at ih
      cases p with
      | none=>exact ih
      | _=>
        show (bif Nat.beq i (i+(j+1)) then some i else dW (pk (i+1) n ps) (i+(j+1)))=_
        rw [dw.2 (by omega:i≠i+(j+1))]
        exact ih
theorem Ks (n:Nat) (bps:List BPat):(⟨gJ n,pk 0 n bps,[],[]⟩:MS).Ok (ee bps):=by
  refine ⟨fun i h=>(by cases h),fun i b h=> ?_⟩
  have h':cf (gJ n) i=some b:=h
  rw [zR] at h'
  split at h'
  · rename_i hlt
    cases h'
    have:=BM n 0 bps i hlt
    rwa [Nat.zero_add] at this
  · cases h'
theorem j4 {hp:List Blk} :∀ {ps:List BPat} {i:Nat} {m m':MS} {xs:List Blk} {ds:List Dat},dp hp ps i m=some (xs,ds,m')→∀ j,ee ps j→xs.getD j .none= .none
  | [],i,m,m',xs,ds,h,j,hj=>by simp only [dp] at h;cases h;rfl
  | p::ps,i,m,m',xs,ds,h,j,hj=>by
    simp only [dp] at h
    split at h
    · rename_i x d m1 h1
      split at h
      · rename_i h2
        cases h
        cases j with
        | zero=>
          cases (show p= .none from hj)
          unfold mh at h1
          split at h1 <;>cases h1 <;>rfl
        | succ j=>exact j4 h2 j hj
      · cases h
    · cases h
theorem sA:∀ {l:List Nat} {ρ:List (Nat×Nat)},apart l ρ=true→∀ b,bA l b=true→dW ρ b=none
  | [],_,_,b,h=>by cases h
  | a::l,ρ,h,b,hb=>by
    simp only [apart] at h
    split at h
    · rename_i h1
      have hb':(bif Nat.beq a b then true else bA l b)=true:=hb
      cases hab:Nat.beq a b with
      | true=>cases aA.1 hab;exact h1
      | false=>rw [hab] at hb';exact sA h b hb'
    · cases h
theorem qW {n:Nat} {m:MS} :∀ {ρ:List (Nat×Nat)},tK n m ρ=true→∀ i b,cf ρ i=some b→i<n
  | [],_,i,b,h=>by cases h
  | (b0,i0)::ρ,h,i,b,hi=>by
    simp only [tK,Bool.and_eq_true] at h
    have hi':(bif Nat.beq i0 i then some b0 else cf ρ i)=some b:=hi
    cases hab:Nat.beq i0 i with
    | true=>cases aA.1 hab;exact iq.1 h.1
    | false=>rw [hab] at hi';exact qW h.2 i b hi'
theorem sN {n:Nat} :∀ {l:List Nat},jZ n l=true→∀ i,bA l i=true→i<n
  | [],_,i,h=>by cases h
  | a::l,h,i,hi=>by
    simp only [jZ,Bool.and_eq_true] at h
    have hi':(bif Nat.beq a i then true else bA l i)=true:=hi
    cases hab:Nat.beq a i with
    | true=>cases aA.1 hab;exact iq.1 h.1
    | false=>rw [hab] at hi';exact sN h.2 i hi'
structure Fine (D:Nat→Prop) (n0 n:Nat) (m:MS):Prop where
  ok:m.Ok D
  id:∀ i,i<n0→cf m.ρ i=some i
  apart:∀ b,bA m.fz b=true→dW m.β b=none
  last:∀ i b,cf m.ρ i=some b→i<n
  nw:∀ i,bA m.nw i=true→i<n
  le:n0≤n
theorem uI {n0 n:Nat} {bps:List BPat} {m m1:MS} (h1:(⟨gJ n0,pk 0 n0 bps,[],[]⟩:MS).le m1∧((⟨gJ n0,pk 0 n0 bps,[],[]⟩:MS).Ok (ee bps)→m1.Ok (ee bps))) (h2:m1.le m∧(m1.Ok (ee bps)→m.Ok (ee bps))) (hn:n0≤n) (hf:m.fine n=true):Fine (ee bps) n0 n m:=by
  unfold MS.fine at hf
  simp only [Bool.and_eq_true] at hf
  exact ⟨h2.2 (h1.2 (Ks n0 bps)),fun i hi=>h2.1.rho _ _ (h1.1.rho _ _ (by show cf (gJ n0) i=_;rw [zR,if_pos hi])),fun b hb=>sA hf.1 b hb,fun i b h=>qW hf.2.1 i b h,fun i h=>sN hf.2.2 i h,hn⟩
theorem ιW_lt {n0 n:Nat} {m:MS} (hf:Fine D n0 n m) {i:Nat} (h:n≤i):ιW ι m i=none:=by
  unfold ιW
  cases hr:cf m.ρ i with
  | some b=>have:=hf.last i b hr;omega
  | none=>
    cases hn:bA m.nw i with
    | true=>have:=hf.nw i hn;omega
    | false=>rfl
theorem ιW_id {n0 n:Nat} {m:MS} (hf:Fine D n0 n m) {i:Nat} (h:i<n0):ιW ι m i=ι i:=by
  unfold ιW
  rw [hf.id i h]
theorem rC {C:Ctx} {E:Ent} {hp':List Blk} {n0 n:Nat} (hm:Mem C E hp Im ι w) (hf:Fine D n0 n mf) (hlen:hp'.length=n)
    (hB:∀ j v,ιW ι mf j=some v→BRel (fC Im ι hp mf) (ιW ι mf) w (hp'.getD j .none) v∧(aH (hp'.getD j .none)=true→(∃ b,cf mf.ρ j=some b∧ι b=some v∧aH (hp.getD b .none)=true)∨v= .slice none 0 0))
    (hD:∀ j,D j→hp'.getD j .none= .none) (hE:∀ b,n0≤b→E.ι b=none) (hg:∀ g sv,C.glob g=some sv→∃ e l i c,sv= .eptr e l i c):Mem C E hp' (fC Im ι hp mf) (ιW ι mf) w:=by
  have hlt:∀ b v r,aH (hp.getD b .none)=true→ι b=some v→aC v=some r→r<w.heap.size:=fun b v r h1 h2 h3=>by
    have hb:=hm.hv b v h2
    cases hblk:hp.getD b .none with
    | none=>rw [hblk] at h1;cases h1
    | ro e l=>rw [hblk] at h1;cases h1
    | cells T cs=>
      rw [hblk] at hb
      obtain ⟨r',vs,rfl,h4,_⟩:=hb
      cases h3
      exact (Array.getElem?_eq_some_iff.1 h4).1
    | own T e l=>
      rw [hblk] at hb
      obtain ⟨xs,⟨_,h2⟩,_⟩:=hb
      rcases h2 with ⟨a,rfl,_⟩ | ⟨g,cap,cur,rfl,h4,_,h6,_⟩
      · exfalso
        revert h3
        cases a <;>simp [aC]
      · simp [aC] at h3
        obtain ⟨_,rfl⟩:=h3
        exact (Array.getElem?_eq_some_iff.1 h4).1
  have hinj:∀ j b,aH (hp'.getD j .none)=true→cf mf.ρ j=some b→dW mf.β b=some j:=fun j b h1 h2=>by
    rcases hf.ok.inj j b h2 with h | h
    · rw [hD j h] at h1;cases h1
    · exact h
  have hnil:aC (.slice none 0 0)=none:=rfl
  have hsrc:∀ j v r,aH (hp'.getD j .none)=true→ιW ι mf j=some v→aC v=some r→∃ b,cf mf.ρ j=some b∧ι b=some v∧aH (hp.getD b .none)=true:=fun j v r h1 h2 h3=>by
    rcases (hB j v h2).2 h1 with h | h
    · exact h
    · subst h;rw [hnil] at h3;cases h3
  refine ⟨fun j v hj=>(hB j v hj).1,⟨fun r hr=> ?_,fun j v r h1 h2 h3=> ?_,fun j j' v v' r h1 h2 h3 h4 h5 h6=> ?_,fun j v r h1 h2 h3=> ?_⟩,⟨hm.since.os,hm.since.tape,hm.since.output,hm.since.size,hm.since.block,fun b v hb=> ?_,fun i hi=> .inl (hm.since.im i hi),fun i hi=> ?_⟩,fun g sv hs=> ?_⟩
  · rcases hr with hr | ⟨b,v,h1,h2,h3,h4⟩
    · exact hm.mr.imlt r hr
    · exact hlt b v r h3 h2 h4
  · obtain ⟨b,g1,g2,g3⟩:=hsrc j v r h1 h2 h3
    rintro (hr | ⟨b',v',k1,k2,k3,k4⟩)
    · exact hm.mr.imm b v r g3 g2 h3 hr
    · have:=hm.mr.sep b b' v v' r g3 k3 g2 k2 h3 k4
      subst this
      have:=hinj j b h1 g1
      rw [hf.apart b k1] at this
      cases this
  · obtain ⟨b,g1,g2,g3⟩:=hsrc j v r h1 h3 h5
    obtain ⟨b',k1,k2,k3⟩:=hsrc j' v' r h2 h4 h6
    have:=hm.mr.sep b b' v v' r g3 k3 g2 k2 h5 h6
    subst this
    have e1:=hinj j b h1 g1
    have e2:=hinj j' b h2 k1
    rw [e1] at e2
    cases e2;rfl
  · obtain ⟨b,g1,g2,g3⟩:=hsrc j v r h1 h2 h3
    exact hm.mr.mine b v r g3 g2 h3
  · rcases Nat.lt_or_ge b n0 with h | h
    · rw [ιW_id hf h];exact hm.since.hd b v hb
    · rw [hE b h] at hb;cases hb
  · rcases hi with hi | ⟨b,v,h1,h2,h3,h4⟩
    · exact hm.since.imnew i hi
    · exact .inr (hm.mr.mine b v i h3 h2 h4)
  · obtain ⟨e,l,i,c,rfl⟩:=hg g sv hs
    have:=hm.glob g _ hs
    obtain ⟨ad,xs,k1,k2,k3,k4⟩:=this
    exact ⟨ad,xs,k1,.inl k2,k3.mono (fun _=> .inl) fun _ _=>rfl,k4⟩
end
end Go.Avc
namespace Go.Avc
set_option linter.unusedVariables false
set_option linter.unusedSimpArgs false
structure LA where
  n:Nat
  ps:List Pat
  bs:List BPat
  R:List Dat→Prop
  m:List Dat→Nat
structure Ann where
  cut:List (Nat×List LA)
  loop:List (Nat×List LA)
  nest:List (Nat×List LA×(List Dat→List LA)):= []
def LC:List (Nat×List LA)→Nat→Option (List LA)
  | [],_=>none
  | (k,A)::l,i=>bif Nat.beq k i then some A else LC l i
def Ip:List (Nat×List LA×(List Dat→List LA))→Nat→Option (List LA×(List Dat→List LA))
  | [],_=>none
  | (k,A)::l,i=>bif Nat.beq k i then some A else Ip l i
def nQ:Code→Nat
  | .region id _ _=>id
  | .seq x _=>nQ x
  | .block _ c=>nQ c
  | .loop c=>nQ c
  | .cond _ x _=>nQ x
  | .scope c=>nQ c
  | _=>1000000
inductive Miss:Nat→ES→Prop
def pl:Nat→Nat→List (Nat×Pat)→List Pat
  | 0,_,_=> []
  | k+1,t,l=>(match plAt l t with | some p=>p | none=> .skip)::pl k (t+1) l
where plAt:List (Nat×Pat)→Nat→Option Pat
  | [],_=>none
  | (d,p)::l,t=>bif Nat.beq d t then some p else plAt l t
def jh (n0:Nat) (s:ES) (K:LA→List Dat→Prop):List LA→Prop
  | [] =>Miss 0 s
  | A::l=>(match s with
    | ⟨n,ov,tm,hp,G⟩=>bif Nat.beq A.ps.length A.n&&Nat.beq n A.n then (match Fb n0 hp (lj ov tm) A.ps A.bs with | some (_,_,ds,_)=>K A ds | none=>jh n0 s K l) else jh n0 s K l)
def vo (A:LA) (K:ES→List Dat→Prop):Prop:=allPs A.ps fun tm ds=>uh A.bs fun hp ds'=>impPs A.ps ds fun _=>oM (hsL tm) 0 A.bs ds' fun _=>K ⟨A.n,[],tm,hp,[]⟩ (ds++ds')
def uC (K:LA→ES→List Dat→Prop):List LA→Prop
  | [] =>True
  | [A] =>vo A (K A)
  | A::l=>vo A (K A)∧uC K l
def qT (K:ES→Prop) (Q:Exit→ES→Prop):Exit→ES→Prop
  | .normal,s=>K s
  | e,s=>Q e s
def BA (id:Nat) (Q:Exit→ES→Prop):Exit→ES→Prop
  | .exit id',s=>bif Nat.beq id' id then Q .normal s else Q (.exit id') s
  | e,s=>Q e s
def ES.clr (s:ES) (K:ES→Prop):Prop:=match s with | ⟨n,ov,tm,hp,_⟩=>K ⟨n,ov,tm,hp,[]⟩
section
variable (C:Ctx) (n0:Nat) (ann:Ann)
def gY:Code→ES→(Exit→ES→Prop)→Prop
  | .skip,s,Q=>Q .normal s
  | .label _,s,Q=>Q .normal s
  | .region _ ops draw,s,Q=>(match draw with | true=>M1 C ops s (fun s=>s.clr (Q .normal)) | false=>jP C ops ops.toList s (fun s=>s.clr (Q .normal)))
  | .seq x y,s,Q=>(match LC ann.cut (nQ y) with
    | none=>gY x s (qT (fun s=>gY y s Q) Q)
    | some l=>gY x s (qT (fun s=>jh n0 s (fun A ds=>A.R ds∧True) l) Q)∧uC (fun A s ds=>A.R ds→gY y s Q) l)
  | .cond c x y,s,Q=>(match s.ev C.glob c with | .bool b=>bif b then gY x s Q else gY y s Q | _=>Miss 1 s)
  | .block id c,s,Q=>gY c s (BA id Q)
  | .loop c,s,Q=>(match LC ann.loop (nQ c) with
    | some l=>jh n0 s (fun A ds=>A.R ds∧True) l∧uC (fun A s ds=>A.R ds→gY c s (qT (fun s=>jh n0 s (fun A' ds'=>A'.R ds'∧A'.m ds'<A.m ds) l) Q)) l
    | none=>(match Ip ann.nest (nQ c) with
      | some (l0,g)=>jh n0 s (fun _ ds0=>jh n0 s (fun A ds=>A.R ds∧True) (g ds0)∧uC (fun A s ds=>A.R ds→gY c s (qT (fun s=>jh n0 s (fun A' ds'=>A'.R ds'∧A'.m ds'<A.m ds) (g ds0)) Q)) (g ds0)) l0
      | none=>Miss (nQ c) s))
  | .exit id,s,Q=>Q (.exit id) s
  | .goto l,s,Q=>Q (.goto l) s
  | .ret,s,Q=>Q .ret s
  | _,_,_=>False
end
section
variable {C:Ctx} {E B:Ent} {n0:Nat}
theorem Ax {s:ES} (hs:s.Ok) {K:ES→Prop} (h:s.clr K):∃ s':ES,s'.Ok∧s'.as=s.as∧K s':=by
  obtain ⟨n,ov,tm,hp,G⟩:=s
  exact ⟨⟨n,ov,tm,hp,[]⟩,⟨hs.len,hs.ov,(fun g hg=>by cases hg),fun g hg=>by cases hg⟩,rfl,h⟩
theorem ss {K:LA→ES→List Dat→Prop} :∀ {l:List LA},uC K l→∀ A∈l,vo A (K A)
  | [],_,A,h=>by cases h
  | [A0],h,A,hA=>by
    simp only [List.mem_singleton] at hA
    subst hA;exact h
  | A0::A1::l,h,A,hA=>by
    rcases List.mem_cons.1 hA with rfl | hA
    · exact h.1
    · exact ss h.2 A hA
theorem km (hC:C.Ok) (hE:∀ b,n0≤b→E.ι b=none) (hB:∀ b,n0≤b→B.ι b=none) (hF:∀ b,B.F b→b<n0) {s:ES} {K:LA→List Dat→Prop} {a:Act} {w:World} (hs:s.Ok) (hR:fF C E B s.as a w):∀ l:List LA,jh n0 s K l→
    ∃ A∈l,∃ (tm:List SV) (hp:List Blk) (ds:List Dat),fF C E B ⟨tm,hp⟩ a w∧K A ds∧tm.length=A.n∧∀ F,vo A F→F ⟨A.n,[],tm,hp,[]⟩ ds
  | [],h=>by cases h
  | A::l,h=>by
    have other:jh n0 s K l→∃ A'∈A::l,∃ (tm:List SV) (hp:List Blk) (ds:List Dat),fF C E B ⟨tm,hp⟩ a w∧K A' ds∧tm.length=A'.n∧∀ F,vo A' F→F ⟨A'.n,[],tm,hp,[]⟩ ds:=fun h=>by
      obtain ⟨A',h1,h2⟩:=km hC hE hB hF (K:=K) hs hR l h
      exact ⟨A',List.mem_cons_of_mem _ h1,h2⟩
    obtain ⟨n,ov,tm,hp,G⟩:=s
    simp only [jh] at h
    cases hn:(Nat.beq A.ps.length A.n&&Nat.beq n A.n) with
    | false=>rw [hn] at h;exact other h
    | true=>
      rw [hn] at h
      simp only [cond_true] at h
      simp only [Bool.and_eq_true] at hn
      have hn':=aA.1 hn.1
      have hn2:=aA.1 hn.2
      split at h
      · rename_i svs' hp' ds m hw
        obtain ⟨ds1,ds2,m1,rfl,h1,h2,h3,h4⟩:=IT hw
        obtain ⟨Im,ι,hRel,hFr,hA⟩:=hR
        have f1:=lR (D:=ee A.bs) h1
        have f2:=gF (D:=ee A.bs) h2
        have fine:=uI f1 f2 h3 h4
        have hlenB:hp'.length=A.bs.length:=(eS h2).2.2
        have hmem:Mem C E hp' (fC Im ι hp m) (ιW ι m) w:=rC hRel.mem fine hlenB (fun j v hj=>by
          have:=kT hRel.mem.hv fine.ok h2 (.refl _) j v (by rw [Nat.zero_add];exact hj)
          rwa [Nat.zero_add] at this) (fun j hj=>j4 h2 j hj) hE hC.globE
        obtain ⟨k1,k2⟩:=pF hRel.mem.hv fine.ok h1 f2.1 (val:=fun t=>a.tmps.getD t undef) fun j _ _=>by
          rw [iM _ _ hs.ov];exact hRel.tm j
        have hlen:svs'.length=A.n:=by rw [k1,hn']
        refine ⟨A,List.mem_cons_self,svs',hp',ds1++ds2,⟨fC Im ι hp m,ιW ι m,⟨hRel.defers,?_,fun t=> ?_,hmem⟩,fun b hb=>ιW_lt fine (by rw [← hlenB];exact hb),⟨⟨fun i hi=> .inl (hA.later.im i hi),fun b v hb=> ?_,hA.later.mem⟩,fun b hb=> ?_⟩⟩,h,hlen,fun F hF=> ?_⟩
        · rw [hRel.size]
          show (aM ov tm).length=svs'.length
          rw [c8,hlen,← hn2];exact hs.len.symm
        · have:=k2 t
          rwa [Nat.zero_add] at this
        · rcases Nat.lt_or_ge b n0 with hb0 | hb0
          · rw [ιW_id fine hb0];exact hA.later.hd b v hb
          · rw [hB b hb0] at hb;cases hb
        · have hb0:=hF b hb
          exact ⟨by rw [hlenB];exact Nat.lt_of_lt_of_le hb0 h3,by rw [ιW_id fine hb0];exact (hA.keep b hb).2⟩
        · have e1:=(eS h2).1 _ ((mw h1).1 _ hF)
          have i1:=(mw h1).2 []
          have i2:=(eS h2).2.1 []
          rw [List.append_nil] at i1 i2
          obtain ⟨vs,hvs⟩:=oS (Im:=fC Im ι hp m) (ι:=ιW ι m) (w:=w) svs' (fun t=>a.tmps.getD t undef) fun j=>by have:=k2 j;rwa [Nat.zero_add] at this
          have e2:=imps_elim A.ps ds1 vs _ (by rw [i1];exact hvs) e1
          exact n6 (hs_vrels svs' vs hvs) A.bs 0 ds2 _ (fun j v hj=>by rw [i2];exact hmem.hv j v (by rw [← hj];congr 1;omega)) e2
      · exact other h
theorem xJ {n:Nat} {tm:List SV} {hp:List Blk} (h:tm.length=n):(⟨n,[],tm,hp,[]⟩:ES).Ok:=⟨h.symm,(fun p hp=>by cases hp),(fun g hg=>by cases hg),fun g hg=>by cases hg⟩
theorem dn (hC:C.Ok) (ann:Ann) (hE:∀ b,n0≤b→E.ι b=none) (hB:∀ b,n0≤b→B.ι b=none) (hF:∀ b,B.F b→b<n0):∀ (c:Code) (s:ES) (Q':Exit→ES→Prop) (Q:Exit→Act→World→Prop) (a:Act) (w:World),s.Ok→fF C E B s.as a w→gY C n0 ann c s Q'→
    (∀ e s a w,Q' e s→s.Ok→fF C E B s.as a w→Q e a w)→c.wp C.P Q a w
  | .skip,s,Q',Q,a,w,hs,hR,h,hQ=>wp_skip (hQ _ _ _ _ h hs hR)
  | .label _,s,Q',Q,a,w,hs,hR,h,hQ=>wp_label (hQ _ _ _ _ h hs hR)
  | .region id ops draw,s,Q',Q,a,w,hs,hR,h,hQ=>by
    cases draw with
    | true=>
      refine Eo hC hC.mixed (K:=Next fun s=>s.clr (Q' .normal)) (fun s a w k r=> ?_) hR (IQ hs h)
      obtain ⟨s',h1,h2,h3⟩:=k
      obtain ⟨s'',k1,k2,k3⟩:=Ax h1 h3
      exact hQ _ _ _ _ k3 k1 (by rw [k2,h2];exact r)
    | false=>
      refine zH hC (K:=Next fun s=>s.clr (Q' .normal)) (fun s a w k r=> ?_) hR (rM _ _ hs h)
      obtain ⟨s',h1,h2,h3⟩:=k
      obtain ⟨s'',k1,k2,k3⟩:=Ax h1 h3
      exact hQ _ _ _ _ k3 k1 (by rw [k2,h2];exact r)
  | .seq x y,s,Q',Q,a,w,hs,hR,h,hQ=>by
    simp only [gY] at h
    split at h
    · refine wp_seq (dn hC ann hE hB hF x s _ _ a w hs hR h fun e s a w k hs r=> ?_)
      cases e with
      | normal=>exact dn hC ann hE hB hF y s Q' Q a w hs r k hQ
      | exit id=>exact hQ _ _ _ _ k hs r
      | goto l=>exact hQ _ _ _ _ k hs r
      | ret=>exact hQ _ _ _ _ k hs r
      | panic c=>exact hQ _ _ _ _ k hs r
      | outgrown=>exact hQ _ _ _ _ k hs r
    · rename_i l hl
      refine wp_seq (dn hC ann hE hB hF x s _ _ a w hs hR h.1 fun e s' a w k hs' r=> ?_)
      cases e with
      | normal=>
        obtain ⟨A,hA,tm,hp,ds,k1,k2,k3,k4⟩:=km hC hE hB hF hs' r l k
        exact dn hC ann hE hB hF y ⟨A.n,[],tm,hp,[]⟩ Q' Q a w (xJ k3) k1 (k4 (fun s ds=>A.R ds→gY C n0 ann y s Q') (ss h.2 A hA) k2.1) hQ
      | exit id=>exact hQ _ _ _ _ k hs' r
      | goto l=>exact hQ _ _ _ _ k hs' r
      | ret=>exact hQ _ _ _ _ k hs' r
      | panic c=>exact hQ _ _ _ _ k hs' r
      | outgrown=>exact hQ _ _ _ _ k hs' r
  | .cond c x y,s,Q',Q,a,w,hs,hR,h,hQ=>by
    simp only [gY] at h
    split at h
    · rename_i b hb
      obtain ⟨Im,ι,hR',hFr,hA⟩:=hR
      have hv:=sL (hp:=s.as.hp) hR'.tm hR'.mem.glob c
      have e1:AS.ev C.glob ⟨s.as.tm,s.as.hp⟩ c=s.as.ev C.glob c:=rfl
      rw [e1,← s.ev_eq hs C.glob,hb] at hv
      have hv':a.eval c= .bool b:=hv
      refine wp_cond_split hv' (fun ht=> ?_) (fun hf=> ?_)
      · subst ht;exact dn hC ann hE hB hF x s Q' Q a w hs ⟨Im,ι,hR',hFr,hA⟩ h hQ
      · subst hf;exact dn hC ann hE hB hF y s Q' Q a w hs ⟨Im,ι,hR',hFr,hA⟩ h hQ
    · cases h
  | .block id c,s,Q',Q,a,w,hs,hR,h,hQ=>by
    refine wp_block (dn hC ann hE hB hF c s _ _ a w hs hR h fun e s a w k hs r=> ?_)
    cases e with
    | exit id'=>
      simp only [BA] at k
      simp only [Exit.inBlock]
      cases hid:Nat.beq id' id with
      | true=>rw [hid] at k;rw [if_pos (aA.1 hid)];exact hQ _ _ _ _ k hs r
      | false=>rw [hid] at k;rw [if_neg (dw.1 hid)];exact hQ _ _ _ _ k hs r
    | normal=>exact hQ _ _ _ _ k hs r
    | goto l=>exact hQ _ _ _ _ k hs r
    | ret=>exact hQ _ _ _ _ k hs r
    | panic c=>exact hQ _ _ _ _ k hs r
    | outgrown=>exact hQ _ _ _ _ k hs r
  | .loop c,s,Q',Q,a,w,hs,hR,h,hQ=>by
    simp only [gY] at h
    have key:∀ l:List LA,jh n0 s (fun A ds=>A.R ds∧True) l→uC (fun A s ds=>A.R ds→gY C n0 ann c s (qT (fun s=>jh n0 s (fun A' ds'=>A'.R ds'∧A'.m ds'<A.m ds) l) Q')) l→Code.wp C.P (.loop c) Q a w:=fun l h0 hround=>by
      let J:Nat→Act→World→Prop:=fun n a w=>∃ A∈l,∃ (tm:List SV) (hp:List Blk) (ds:List Dat),fF C E B ⟨tm,hp⟩ a w∧A.R ds∧tm.length=A.n∧(∀ F,vo A F→F ⟨A.n,[],tm,hp,[]⟩ ds)∧A.m ds=n
      obtain ⟨A0,hA0,tm,hp,ds,k1,k2,k3,k4⟩:=km hC hE hB hF hs hR l h0
      refine wp_loop (fun a w=>∃ n,J n a w) (fun a w=>qF fun n=>J n a w) ⟨_,A0,hA0,tm,hp,ds,k1,k2.1,k3,k4,rfl⟩ fun a w hI=> ?_
      obtain ⟨n,hn⟩:=hI
      obtain ⟨⟨A,hA,tm,hp,ds,k1,k2,k3,k4,k5⟩,hmin⟩:=pm (p:=fun n=>J n a w) hn
      refine dn hC ann hE hB hF c ⟨A.n,[],tm,hp,[]⟩ _ _ a w (xJ k3) k1 (k4 (fun s ds=>A.R ds→gY C n0 ann c s (qT (fun s=>jh n0 s (fun A' ds'=>A'.R ds'∧A'.m ds'<A.m ds) l) Q')) (ss hround A hA) k2) fun e s a' w' k hs' r=> ?_
      cases e with
      | normal=>
        obtain ⟨A',hA',tm',hp',ds',g1,g2,g3,g4⟩:=km hC hE hB hF hs' r l k
        have hJ:J (A'.m ds') a' w':=⟨A',hA',tm',hp',ds',g1,g2.1,g3,g4,rfl⟩
        refine ⟨⟨_,hJ⟩,Nat.lt_of_le_of_lt ((pm (p:=fun n=>J n a' w') hJ).2 _ hJ) ?_⟩
        rw [← k5];exact g2.2
      | exit id=>exact hQ _ _ _ _ k hs' r
      | goto l=>exact hQ _ _ _ _ k hs' r
      | ret=>exact hQ _ _ _ _ k hs' r
      | panic c=>exact hQ _ _ _ _ k hs' r
      | outgrown=>exact hQ _ _ _ _ k hs' r
    split at h
    · rename_i l hl
      exact key l h.1 h.2
    · split at h
      · rename_i l0 g hg
        obtain ⟨_,_,_,_,ds0,_,k2,_,_⟩:=km hC hE hB hF hs hR l0 h
        exact key (g ds0) k2.1 k2.2
      · cases h
  | .exit id,s,Q',Q,a,w,hs,hR,h,hQ=>wp_exit (hQ _ _ _ _ h hs hR)
  | .goto l,s,Q',Q,a,w,hs,hR,h,hQ=>wp_goto (hQ _ _ _ _ h hs hR)
  | .ret,s,Q',Q,a,w,hs,hR,h,hQ=>wp_ret (hQ _ _ _ _ h hs hR)
  | .rangeFunc ..,_,_,_,_,_,_,_,h,_=>h.elim
  | .scope _,_,_,_,_,_,_,_,h,_=>h.elim
def Ho (P:Program) (s:ES):ResultVar→Option SV
  | .tmp t=>some (lj s.ov s.tm t)
  | .cell a T=>(match lj s.ov s.tm a with
    | .ptr b c=>(match pC P s.hp T (.ptr b c) with | .val sv=>some sv | _=>none)
    | _=>none)
def xN (P:Program) (s:ES):List ResultVar→Option (List SV)
  | [] =>some []
  | r::rs=>(match Ho P s r,xN P s rs with | some x,some xs=>some (x::xs) | _,_=>none)
def m8 (P:Program) (s:ES) (rs:List ResultVar):Option SV:=
  match xN P s rs with | some [x] =>some x | some xs=>some (.tup xs) | none=>none
theorem N3 {P:Program} {s:ES} (hs:s.Ok) (r:ResultVar):Ho P s r=mc P s.as r:=by
  cases r with
  | tmp t=>simp only [Ho,mc];rw [iM _ _ hs.ov];rfl
  | cell a T=>simp only [Ho,mc];rw [iM _ _ hs.ov];rfl
theorem Bf {P:Program} {s:ES} (hs:s.Ok):∀ rs:List ResultVar,xN P s rs=ig P s.as rs
  | [] =>rfl
  | r::rs=>by
    simp only [xN,ig,N3 hs,Bf hs rs]
    cases mc P s.as r <;>cases ig P s.as rs <;>rfl
theorem wo {P:Program} {s:ES} (hs:s.Ok) (rs:List ResultVar):m8 P s rs=xY P s.as rs:=by
  unfold m8 xY;rw [Bf hs]
  cases ig P s.as rs with
  | none=>rfl
  | some l=>cases l with
    | nil=>rfl
    | cons a l=>cases l <;>rfl
def rZ (P:Program) (rs:List ResultVar) (K:SV→List Blk→Prop):Exit→ES→Prop
  | .normal,s=>(match m8 P s rs with | some sv=>bE sv fun sv=>K sv s.hp | none=>Miss 3 s)
  | .ret,s=>(match m8 P s rs with | some sv=>bE sv fun sv=>K sv s.hp | none=>Miss 3 s)
  | _,_=>False
inductive Res where
  | ite (b:Bool) (r1 r2:Res)
  | ret (rp:Pat) (rb:List BPat) (ds:List Dat)
def MJ:Dat→Dat→Prop
  | .i a,.i b=>a=b
  | .b a,.b b=>a=b
  | .s a,.s b=>a=b
  | .r a,.r b=>a=b
  | .li a,.li b=>a=b
  | .lb a,.lb b=>a=b
  | _,_=>False
def vE:List Dat→List Dat→Prop
  | [],[] =>True
  | [a],[b] =>MJ a b
  | a::l,b::m=>MJ a b∧vE l m
  | _,_=>False
theorem HR {a b:Dat} (h:MJ a b):a=b:=by
  cases a <;>cases b <;>simp only [MJ] at h <;>first | (subst h;rfl) | exact h.elim
theorem Cu:∀ {l m:List Dat},vE l m→l=m
  | [],[],_=>rfl
  | [a],[b],h=>by rw [HR h]
  | a::a'::l,b::b'::m,h=>by
    obtain ⟨h1,h2⟩:=h
    rw [HR h1,Cu h2]
  | [],_::_,h=>h.elim
  | _::_,[],h=>by simp [vE] at h
  | [a],b::b'::m,h=>by
    obtain ⟨_,h2⟩:=h
    simp [vE] at h2
  | a::a'::l,[b],h=>by
    obtain ⟨_,h2⟩:=h
    simp [vE] at h2
def Res.ok (n0:Nat):Res→SV→List Blk→Prop
  | .ite b r1 r2,sv,hp=>bif b then r1.ok n0 sv hp else r2.ok n0 sv hp
  | .ret rp rb ds,sv,hp=>(match sY n0 hp [rp] [sv] rb with | some (_,_,ds',_)=>vE ds' ds | none=>Miss 2 ⟨0,[],[sv],hp,[]⟩)
def Res.leaf:Res→Pat×List BPat×List Dat
  | .ite b r1 r2=>bif b then r1.leaf else r2.leaf
  | .ret rp rb ds=>(rp,rb,ds)
def dz (C:Ctx) (E:Ent) (Im:Nat→Prop) (ι:Nat→Option Value) (w:World) (n0:Nat) (r:Res):Ending→World→Prop:=fun e w'=>
  ∃ v Im' ι' hp' ds1,e= .returned v∧br r.leaf.1 r.leaf.2.2=((br r.leaf.1 r.leaf.2.2).1,ds1)∧hp'=(gd r.leaf.2.1 ds1).1∧VRel Im' ι' w' (br r.leaf.1 r.leaf.2.2).1 v∧Mem C E hp' Im' ι' w'∧hp'.length=r.leaf.2.1.length∧
    (∀ b,r.leaf.2.1.length≤b→ι' b=none)∧Later Im ι w Im' ι' w'∧n0≤r.leaf.2.1.length∧∀ b,b<n0→ι' b=ι b
theorem ma (hC:C.Ok) (hE:∀ b,n0≤b→E.ι b=none) {Im Im':Nat→Prop} {ι ι':Nat→Option Value} {w w':World} {hp:List Blk} {v:Value} {sv:SV} (hl:Later Im ι w Im' ι' w') (hι:∀ b,n0≤b→ι b=none) (hk:∀ b,b<n0→ι' b=ι b) (hm:Mem C E hp Im' ι' w') (hv:VRel Im' ι' w' sv v):
    ∀ r:Res,r.ok n0 sv hp→dz C E Im ι w n0 r (.returned v) w'
  | .ite true r1 r2,h=>ma hC hE hl hι hk hm hv r1 h
  | .ite false r1 r2,h=>ma hC hE hl hι hk hm hv r2 h
  | .ret rp rb ds,h=>by
    simp only [Res.ok] at h
    split at h
    · rename_i svs' hp' ds' m hw
      cases Cu h
      obtain ⟨ds1,ds2,m1,rfl,h1,h2,h3,h4⟩:=wq hw
      have f1:=convs_le (D:=ee rb) h1
      have f2:=gF (D:=ee rb) h2
      have fine:=uI f1 f2 h3 h4
      have hB:=eS h2
      have hP:=(convs_all h1).2 ds2
      have hrel:=convs_rel (vs:= [v]) hm.hv fine.ok h1 f2.1 ⟨v,[],rfl,hv,rfl⟩
      have hP':instPs [rp] (ds1++ds2)=([(br rp (ds1++ds2)).1],(br rp (ds1++ds2)).2):=by simp [instPs]
      rw [hP'] at hP
      injection hP with hP1 hP2
      have hmem:Mem C E hp' (fC Im' ι' hp m) (ιW ι' m) w':=rC hm fine hB.2.2 (fun j v hj=>by
        have:=kT hm.hv fine.ok h2 (.refl _) j v (by rw [Nat.zero_add];exact hj)
        rwa [Nat.zero_add] at this) (fun j hj=>j4 h2 j hj) hE hC.globE
      refine ⟨v,fC Im' ι' hp m,ιW ι' m,hp',ds2,rfl,?_,?_,?_,hmem,hB.2.2,fun b hb=>ιW_lt fine hb,⟨fun i hi=> .inl (hl.im i hi),fun b u hb=> ?_,hl.mem⟩,h3,fun b hb=>(ιW_id fine hb).trans (hk b hb)⟩
      · exact Prod.ext rfl hP2
      · have:=hB.2.1 []
        rw [List.append_nil] at this
        show hp'=(gd rb ds2).1
        rw [this]
      · show VRel _ _ _ (br rp (ds1++ds2)).1 v
        rw [← hP1] at hrel
        obtain ⟨v',vs',e,k1,_⟩:=hrel
        injection e with e1 e2
        subst e1
        exact k1
      · rcases Nat.lt_or_ge b n0 with hb0 | hb0
        · rw [ιW_id fine hb0];exact hl.hd b u hb
        · rw [hι b hb0] at hb;cases hb
    · cases h
theorem B7 (hC:C.Ok) {f:FuncId} {fn:Func} {c:Code} (hf:C.P.funcs[f]? =some fn) (hb:fn.body=some c) (ann:Ann) {svs:List SV} {hp:List Blk} {r:Res} {k:Nat} (hn:fn.ntmps-svs.length=k) (hn2:svs.length+k=fn.ntmps)
    {Im:Nat→Prop} {ι:Nat→Option Value} {w:World} (hE:∀ b,hp.length≤b→E.ι b=none)
    (h:gY C hp.length ann c ⟨fn.ntmps,[],svs++List.replicate k .dead,hp,[]⟩ (rZ C.P fn.results.toList fun sv hp'=>r.ok hp.length sv hp')) {vs:List Value} (hD:E.dfr= []) (hm:Mem C E hp Im ι w) (hF:kH hp.length ι) (hv:VRels Im ι w svs vs):
    Calls C.P f vs.toArray w (dz C E Im ι w hp.length r):=by
  refine calls_of_wp hf hb ?_
  have hlen:=gi hv
  refine dn (E:=E) (B:=⟨w,Im,ι,fun b=>b<hp.length,[]⟩) (n0:=hp.length) hC ann hE hF (fun b hb=>hb) c _ _ _ _ _ (xJ (by simp [hn2])) ⟨Im,ι,⟨hD.symm,?_,fun t=> ?_,hm⟩,hF,⟨Later.refl _ _ _,fun b hb=>⟨hb,rfl⟩⟩⟩ h fun e s a w' kk hs rr=> ?_
  · show _=(aM [] (svs++List.replicate k .dead)).length
    simp [hlen,hn,aM]
  · show VRel Im ι w (aD (svs++List.replicate k .dead) t) _
    rw [mH]
    split
    · rename_i ht
      obtain ⟨v,h1,h2⟩:=nS hv t ht
      have:(vs.toArray++Array.replicate (fn.ntmps-vs.toArray.size) undef).getD t undef=v:=by
        rw [Array.getD_eq_getD_getElem?,Array.getElem?_append_left (by simp;omega)]
        simp [h1]
      rw [this]
      exact h2
    · rw [nJ]
      split <;>trivial
  · obtain ⟨Im',ι',hR,hF',hA⟩:=rr
    have key:(match m8 C.P s fn.results.toList with | some sv=>bE sv fun sv=>Res.ok hp.length r sv s.hp | none=>Miss 3 s)→bodyPost C.P fn (dz C E Im ι w hp.length r) .normal a w':=fun kk=>by
      rw [wo hs] at kk
      split at kk
      · rename_i sv hsv
        rw [aS] at kk
        obtain ⟨v,h1,h2⟩:=v9 hR hsv
        exact ⟨hR.defers.trans hD,v,h1,ma hC hE hA.later hF (fun b hb=>(hA.keep b hb).2) hR.mem h2 _ kk⟩
      · cases kk
    cases e with
    | normal=>exact key kk
    | ret=>exact key kk
    | exit id=>exact kk.elim
    | goto l=>exact kk.elim
    | panic ch=>exact kk.elim
    | outgrown=>exact kk.elim
end
end Go.Avc
namespace Go.Avc
set_option linter.unusedVariables false
set_option linter.unusedSimpArgs false
structure Ct where
  ps:List Pat
  bs:List BPat
  pre:List Dat→Prop
  res:List Dat→Res
def bX (σ:List Nat) (n i:Nat):Nat:=bif Nat.blt i σ.length then σ.getD i 0 else n+(i-σ.length)
def qt (hp:List Blk) (ρ:List (Nat×Nat)):Nat→Nat→Option (List Nat)
  | 0,_=>some []
  | k+1,i=>(match cf ρ i with
    | some b=>bif aH (hp.getD b .none) then (match qt hp ρ k (i+1) with | some l=>some (b::l) | none=>none) else none
    | none=>none)
def ci (f:Nat→Nat):List Nat→List Blk→List (Nat×Blk)
  | b::σ,x::xs=>(b,x.ren f)::ci f σ xs
  | _,_=> []
def oF (f:Nat→Nat):List Blk→List Blk
  | [] => []
  | x::xs=>x.ren f::oF f xs
def eN (f:Nat→Nat):Nat→List Blk→List Blk
  | 0,xs=>oF f xs
  | k+1,_::xs=>eN f k xs
  | _+1,[] => []
def TM:CSh→Bool
  | .sl _=>false
  | _=>true
def tS:List CSh→Bool
  | [] =>true
  | s::e=>TM s&&tS e
mutual
def mq:Pat→Bool
  | .rd _=>false
  | .agg ps=>flatPs ps
  | .tup ps=>flatPs ps
  | .fn _ ps=>flatPs ps
  | .fb _ ps=>flatPs ps
  | .iface _ p=>mq p
  | _=>true
def flatPs:List Pat→Bool
  | [] =>true
  | p::ps=>mq p&&flatPs ps
end
def L5:BPat→Bool
  | .none=>true
  | .cells _ ps=>flatPs ps
  | .own _ e=>tS e
def i5:List BPat→Bool
  | [] =>true
  | p::ps=>L5 p&&i5 ps
def Cp:List Blk→List Nat
  | [] => []
  | x::xs=>x.hs++Cp xs
def qE:List Nat→Bool | [] =>true | _=>false
def eh:List Nat→List (Nat×Blk)
  | [] => []
  | b::l=>(b,.none)::eh l
def BN (σ:List Nat) (n:Nat) (fz:List Nat):Res→CR
  | .ite b r1 r2=> .ite b (BN σ n fz r1) (BN σ n fz r2)
  | .ret rp rb ds=>(match br rp ds with
    | (sv,ds1)=>(match gd rb ds1 with
      | (xs,_)=>bif Nat.ble σ.length rb.length&&jZ rb.length (sv.hs++Cp xs) then
          (bif qE fz||(mq rp&&i5 rb) then .ret (sv.ren (bX σ n)) (ci (bX σ n) σ xs) (eN (bX σ n) σ.length xs)
          else .ret (sv.ren (bX σ n)) (ci (bX σ n) σ xs++eh fz) (eN (bX σ n) σ.length xs)) else .bad))
def ag (ct:Ct) (svs:List SV) (hp:List Blk):CR:=
  match sY 0 hp ct.ps svs ct.bs with
  | some (_,_,ds,m)=>(match qt hp m.ρ ct.bs.length 0 with
    | some σ=> .need (ct.pre ds) (BN σ hp.length m.fz (ct.res ds))
    | none=> .bad)
  | none=> .bad
def Ct.VC (C:Ctx) (ct:Ct) (rs:List ResultVar) (nt k:Nat) (c:Code) (ann:List Dat→Ann):Prop:=
  allPs ct.ps fun svs ds=>uh ct.bs fun hp ds'=>impPs ct.ps ds fun _=>oM (hsL svs) 0 ct.bs ds' fun _=>ct.pre (ds++ds')→gY C ct.bs.length (ann (ds++ds')) c ⟨nt,[],svs++List.replicate k .dead,hp,[]⟩ (rZ C.P rs fun sv hp'=>(ct.res (ds++ds')).ok ct.bs.length sv hp')
def Ct.VCG (ct:Ct) (G:List SV→List Blk→List Dat→Prop):Prop:=
  allPs ct.ps fun svs ds=>uh ct.bs fun hp ds'=>impPs ct.ps ds fun _=>oM (hsL svs) 0 ct.bs ds' fun _=>ct.pre (ds++ds')→G svs hp (ds++ds')
def oB (ct:Ct) (F:List SV→List Blk→CR) (svs:List SV) (hp:List Blk):CR:=
  match sY 0 hp ct.ps svs ct.bs with
  | some _=>ag ct svs hp
  | none=>F svs hp
theorem lh {C:Ctx} {f:FuncId} {ct:Ct} {F:List SV→List Blk→CR} (h1:af C f (ag ct)) (h2:af C f F):af C f (oB ct F):=by
  intro svs hp K R h
  unfold oB at h
  split at h
  · exact h1 svs hp K R h
  · exact h2 svs hp K R h
theorem Ky {Im Im':Nat→Prop} {w:World} :∀ {e:List CSh} {row:List CD} {vs:List Value},tS e=true→RowRel Im w e row vs→RowRel Im' w e row vs:=by
  intro e
  induction e with
  | nil=>intro row vs h hr;cases hr;exact .nil
  | cons sh e ih=>
    intro row vs h hr
    simp only [tS,Bool.and_eq_true] at h
    cases hr with
    | cons _ cd v _ row vs h1 h2=>
      refine .cons sh cd v e row vs ?_ (ih h.2 h2)
      cases h1 with
      | int k n=>exact .int k n
      | bool b=>exact .bool b
      | str l h'=>exact .str l h'
      | sl0=>cases h.1
      | sl=>cases h.1
theorem vU {Im Im':Nat→Prop} {w:World} {e:List CSh} (h:tS e=true):∀ {l:List (List CD)} {xs:List Value},FlatRel Im w e l xs→FlatRel Im' w e l xs
  | _,_,.nil _=> .nil _
  | _,_,.cons _ row vs l xs h1 h2=> .cons _ row vs l xs (Ky h h1) (vU h h2)
mutual
theorem od {Im Im':Nat→Prop} {ι:Nat→Option Value} {w:World} :∀ (p:Pat) (ds:List Dat) (v:Value),mq p=true→VRel Im ι w (br p ds).1 v→VRel Im' ι w (br p ds).1 v
  | .skip,ds,v,h,hv=>by cases ds <;>exact hv
  | .int k,ds,v,h,hv=>by
    cases ds with
    | nil=>exact hv
    | cons d ds=>cases d <;>exact hv
  | .bool,ds,v,h,hv=>by
    cases ds with
    | nil=>exact hv
    | cons d ds=>cases d <;>exact hv
  | .str,ds,v,h,hv=>by
    cases ds with
    | nil=>exact hv
    | cons d ds=>cases d <;>exact hv
  | .rd e,ds,v,h,hv=>by cases h
  | .own i,ds,v,h,hv=>by cases ds <;>exact hv
  | .ptr i c,ds,v,h,hv=>by cases ds <;>exact hv
  | .nilp,ds,v,h,hv=>by cases ds <;>exact hv
  | .nilf,ds,v,h,hv=>by cases ds <;>exact hv
  | .nils,ds,v,h,hv=>by cases ds <;>exact hv
  | .agg ps,ds,v,h,hv=>by
    obtain ⟨vs,h1,k⟩:=hv
    exact ⟨vs,h1,flat_cells ps ds vs h k⟩
  | .arrI n k,ds,v,h,hv=>by
    cases ds with
    | nil=>exact hv
    | cons d ds=>cases d <;>exact hv
  | .arrB n,ds,v,h,hv=>by
    cases ds with
    | nil=>exact hv
    | cons d ds=>cases d <;>exact hv
  | .tup ps,ds,v,h,hv=>by
    obtain ⟨vs,h1,k⟩:=hv
    exact ⟨vs,h1,flat_rels ps ds vs h k⟩
  | .fn f ps,ds,v,h,hv=>by
    obtain ⟨vs,h1,k⟩:=hv
    exact ⟨vs,h1,flat_rels ps ds vs h k⟩
  | .fb f ps,ds,v,h,hv=>by
    obtain ⟨vs,h1,k⟩:=hv
    exact ⟨vs,h1,flat_rels ps ds vs h k⟩
  | .nili,ds,v,h,hv=>by cases ds <;>exact hv
  | .iface t p,ds,v,h,hv=>by
    obtain ⟨v',h1,k⟩:=hv
    exact ⟨v',h1,od p ds v' h k⟩
theorem flat_rels {Im Im':Nat→Prop} {ι:Nat→Option Value} {w:World} :∀ (ps:List Pat) (ds:List Dat) (vs:List Value),flatPs ps=true→VRels Im ι w (instPs ps ds).1 vs→VRels Im' ι w (instPs ps ds).1 vs
  | [],ds,vs,h,hv=>hv
  | p::ps,ds,vs,h,hv=>by
    simp only [flatPs,Bool.and_eq_true] at h
    obtain ⟨v,vs',rfl,k1,k2⟩:=hv
    exact ⟨v,vs',rfl,od p ds v h.1 k1,flat_rels ps _ vs' h.2 k2⟩
theorem flat_cells {Im Im':Nat→Prop} {ι:Nat→Option Value} {w:World} :∀ (ps:List Pat) (ds:List Dat) (vs:List Value),flatPs ps=true→CellsRel Im ι w (instPs ps ds).1 vs→CellsRel Im' ι w (instPs ps ds).1 vs
  | [],ds,vs,h,hv=>hv
  | p::ps,ds,vs,h,hv=>by
    simp only [flatPs,Bool.and_eq_true] at h
    have hv':CellsRel Im ι w ((br p ds).1::(instPs ps (br p ds).2).1) vs:=hv
    show CellsRel Im' ι w ((br p ds).1::(instPs ps (br p ds).2).1) vs
    have ih:=fun v=>od (Im:=Im) (Im':=Im') (ι:=ι) (w:=w) p ds v h.1
    have ih2:=fun vs'=>flat_cells (Im:=Im) (Im':=Im') (ι:=ι) (w:=w) ps (br p ds).2 vs' h.2
    cases ha:(br p ds).1.isArr with
    | false=>
      obtain ⟨v,vs',rfl,k1,k2,k3⟩:=(dR ha).1 hv'
      exact (dR ha).2 ⟨v,vs',rfl,ih v k1,k2,ih2 vs' k3⟩
    | true=>
      cases hs:(br p ds).1 <;>rw [hs] at ha hv' <;>first | cases ha | skip
      · obtain ⟨k1,vs',rfl,k2⟩:=aJ hv'
        exact cM k1 (ih2 vs' k2)
      · obtain ⟨k1,vs',rfl,k2⟩:=cu hv'
        exact dZ k1 (ih2 vs' k2)
end
theorem KI {Im Im':Nat→Prop} {ι:Nat→Option Value} {w:World} (p:BPat) (ds:List Dat) (v:Value) (h:L5 p=true) (hv:BRel Im ι w (kM p ds).1 v):BRel Im' ι w (kM p ds).1 v:=by
  cases p with
  | none=>cases ds <;>trivial
  | cells T ps=>
    obtain ⟨r,vs,h1,h2,k⟩:=hv
    exact ⟨r,vs,h1,h2,flat_cells ps ds vs h k⟩
  | own T e=>
    cases ds with
    | nil=>trivial
    | cons d ds=>
      cases d <;>first | trivial | skip
      obtain ⟨xs,h1,h2⟩:=hv
      exact ⟨xs,h1,vU h h2⟩
theorem vV {Im Im':Nat→Prop} {ι:Nat→Option Value} {w:World} :∀ (ps:List BPat) (ds:List Dat) (j:Nat) (v:Value),i5 ps=true→BRel Im ι w ((gd ps ds).1.getD j .none) v→BRel Im' ι w ((gd ps ds).1.getD j .none) v
  | [],ds,j,v,h,hv=>trivial
  | p::ps,ds,0,v,h,hv=>by
    simp only [i5,Bool.and_eq_true] at h
    exact KI p ds v h.1 hv
  | p::ps,ds,j+1,v,h,hv=>by
    simp only [i5,Bool.and_eq_true] at h
    exact vV ps _ j v h.2 hv
theorem tD {hp:List Blk} {ρ:List (Nat×Nat)} :∀ {k i:Nat} {σ:List Nat},qt hp ρ k i=some σ→σ.length=k∧∀ j,j<k→cf ρ (i+j)=some (σ.getD j 0)∧aH (hp.getD (σ.getD j 0) .none)=true
  | 0,i,σ,h=>by cases h;exact ⟨rfl,fun j hj=>by omega⟩
  | k+1,i,σ,h=>by
    simp only [qt] at h
    split at h
    · rename_i b hb
      cases hl:aH (hp.getD b .none) with
      | false=>rw [hl] at h;cases h
      | true=>
        rw [hl] at h
        simp only [cond_true] at h
        split at h
        · rename_i l hs
          cases h
          obtain ⟨h1,h2⟩:=tD hs
          refine ⟨by simp [h1],fun j hj=> ?_⟩
          cases j with
          | zero=>exact ⟨hb,hl⟩
          | succ j=>
            have:=h2 j (by omega)
            rw [show i+(j+1)=i+1+j from by omega]
            exact this
        · cases h
    · cases h
theorem uc {f:Nat→Nat} :∀ {σ:List Nat} {xs:List Blk},σ.Nodup→σ.length≤xs.length→∀ j,j<σ.length→cb (ci f σ xs) (σ.getD j 0)=some ((xs.getD j .none).ren f)
  | [],xs,hn,hl,j,hj=>by simp at hj
  | b::σ,[],hn,hl,j,hj=>by simp at hl
  | b::σ,x::xs,hn,hl,j,hj=>by
    have hn':=List.nodup_cons.1 hn
    have ih:=uc (f:=f) (σ:=σ) (xs:=xs) hn'.2 (by simpa using hl)
    simp only [ci,cb]
    cases j with
    | zero=>
      have:cb (ci f σ xs) b=none:=by
        have:∀ {σ:List Nat} {xs:List Blk},b∉σ→cb (ci f σ xs) b=none:=by
          intro σ
          induction σ with
          | nil=>intro xs _;rfl
          | cons c σ ih=>
            intro xs hb
            cases xs with
            | nil=>rfl
            | cons x xs=>
              simp only [ci,cb,ih (fun h=>hb (List.mem_cons_of_mem _ h))]
              rw [if_neg (fun h=>hb (by rw [h];exact List.mem_cons_self))]
        exact this hn'.1
      simp [this]
    | succ j=>
      have:=ih j (by simpa using hj)
      simp only [List.getD_cons_succ]
      rw [this]
theorem vO {f:Nat→Nat} :∀ {σ:List Nat} {xs:List Blk} {b:Nat},b∉σ→cb (ci f σ xs) b=none
  | [],xs,b,_=>rfl
  | c::σ,[],b,_=>rfl
  | c::σ,x::xs,b,hb=>by
    simp only [ci,cb,vO (f:=f) (σ:=σ) (xs:=xs) fun h=>hb (List.mem_cons_of_mem _ h)]
    rw [if_neg (fun h=>hb (by rw [h];exact List.mem_cons_self))]
theorem ph {f:Nat→Nat} :∀ xs:List Blk,(oF f xs).length=xs.length
  | [] =>rfl
  | x::xs=>by simp [oF,ph xs]
theorem wg {f:Nat→Nat} :∀ (xs:List Blk) (j:Nat),(oF f xs)[j]? =(xs[j]?).map (Blk.ren f)
  | [],j=>rfl
  | x::xs,0=>rfl
  | x::xs,j+1=>by simpa [oF] using wg xs j
theorem rW {f:Nat→Nat} :∀ (k:Nat) (xs:List Blk),eN f k xs=oF f (xs.drop k)
  | 0,xs=>rfl
  | k+1,[] =>rfl
  | k+1,x::xs=>by simpa [eN] using rW k xs
theorem Dp:∀ (xs:List Blk) (j:Nat) (b:Nat),b∈(xs.getD j .none).hs→b∈Cp xs
  | [],j,b,h=>by cases h
  | x::xs,0,b,h=>List.mem_append_left _ h
  | x::xs,j+1,b,h=>List.mem_append_right _ (Dp xs j b h)
theorem ww {n:Nat} :∀ {l:List Nat},jZ n l=true→∀ b∈l,b<n
  | [],_,b,h=>by cases h
  | a::l,h,b,hb=>by
    simp only [jZ,Bool.and_eq_true] at h
    rcases List.mem_cons.1 hb with rfl | hb
    · exact iq.1 h.1
    · exact ww h.2 b hb
theorem Kw {l:List Nat} :qE l=true→∀ b,bA l b=false:=by
  intro h b
  cases l with
  | nil=>rfl
  | cons a l=>cases h
theorem rD:∀ {l:List Nat} {b:Nat},bA l b=true↔b∈l
  | [],b=>by simp [bA]
  | a::l,b=>by
    simp only [bA,List.mem_cons]
    cases h:Nat.beq a b with
    | true=>simp [aA.1 h]
    | false=>
      have:=dw.1 h
      simp only [cond_false]
      rw [rD]
      exact ⟨.inr,fun k=>k.resolve_left fun e=>this e.symm⟩
theorem tp:∀ (g:List Nat) (b:Nat),cb (eh g) b=if b∈g then some .none else none
  | [],b=>by simp [eh,cb]
  | a::g,b=>by
    simp only [eh,cb,tp g b]
    by_cases h:b∈g
    · simp [h]
    · by_cases e:a=b
      · subst e;simp [h]
      · simp [h,e,Ne.symm e]
theorem me (g:List Nat) (b:Nat):∀ l:List (Nat×Blk),cb (l++eh g) b=if b∈g then some .none else cb l b
  | [] =>tp g b
  | (c,x)::l=>by
    show (match cb (l++eh g) b with | some y=>some y | none=>if c=b then some x else none)=_
    rw [me g b l]
    by_cases h:b∈g
    · simp [h]
    · simp only [h,if_false,cb]
      rfl
theorem pY {C:Ctx} (hC:C.Ok) {E:Ent} {hp:List Blk} {Im:Nat→Prop} {ι:Nat→Option Value} {w:World} {m:MS} {σ:List Nat} {n0:Nat} {K:SV→List Blk→Prop} {R:Nat→Prop} (hm:Mem C E hp Im ι w) (hok:∀ i b,i<n0→cf m.ρ i=some b→dW m.β b=some i) (hap:∀ b,bA m.fz b=true→dW m.β b=none)
    (hσ:∀ j,j<n0→cf m.ρ j=some (σ.getD j 0)∧aH (hp.getD (σ.getD j 0) .none)=true) (hσn:σ.length=n0) (hfine:∀ i,n0≤i→ιW ι m i=none) (hRn:∀ b,R b→ι b=none) {hpl:List Blk} {e:Ending} {w':World} :∀ r:Res,
    (BN σ hp.length m.fz r).wp hp (fun sv hp'=>K sv hp'∧∀ b,hp.length≤b→b<hp'.length→R b)→
    dz C ⟨w,fC Im ι hp m,ιW ι m,fun r=>∃ i v,i<n0∧ιW ι m i=some v∧aH (hpl.getD i .none)=true∧aC v=some r,[]⟩ (fC Im ι hp m) (ιW ι m) w n0 r e w'→(∀ i v,ιW ι m i=some v→aH (hpl.getD i .none)=true→i<n0→aH (hp.getD (σ.getD i 0) .none)=true)→nX C E Im ι w hp.length K e w'
  | .ite true r1 r2,h,hp0,hl=>pY hC hm hok hap hσ hσn hfine hRn r1 h hp0 hl
  | .ite false r1 r2,h,hp0,hl=>pY hC hm hok hap hσ hσn hfine hRn r2 h hp0 hl
  | .ret rp rb ds,h,hp0,hl=>by
    obtain ⟨v,Iml,ιl,hp1,ds1,rfl,hi,rfl,hres,hml,hlen,hFl,hll,hnl,hkeep⟩:=hp0
    simp only [Res.leaf] at hi hres hml hlen hFl hnl
    have hi':br rp ds=((br rp ds).1,ds1):=hi
    simp only [BN] at h
    generalize hsv:(br rp ds).1=sv at hi hres hi'
    rw [hi'] at h
    simp only at h
    generalize hxs:(gd rb ds1).1=xs at h hml hlen
    cases hc:(Nat.ble σ.length rb.length&&jZ rb.length (sv.hs++Cp xs)) with
    | false=>
      have h':CR.wp hp (fun sv hp'=>K sv hp'∧∀ b,hp.length≤b→b<hp'.length→R b) (bif (Nat.ble σ.length rb.length&&jZ rb.length (sv.hs++Cp xs)) then (bif qE m.fz||(mq rp&&i5 rb) then CR.ret (sv.ren (bX σ hp.length)) (ci (bX σ hp.length) σ xs) (eN (bX σ hp.length) σ.length xs) else CR.ret (sv.ren (bX σ hp.length)) (ci (bX σ hp.length) σ xs++eh m.fz) (eN (bX σ hp.length) σ.length xs)) else CR.bad):=h
      rw [hc] at h'
      exact h'.elim
    | true=>
      have h':CR.wp hp (fun sv hp'=>K sv hp'∧∀ b,hp.length≤b→b<hp'.length→R b) (bif (Nat.ble σ.length rb.length&&jZ rb.length (sv.hs++Cp xs)) then (bif qE m.fz||(mq rp&&i5 rb) then CR.ret (sv.ren (bX σ hp.length)) (ci (bX σ hp.length) σ xs) (eN (bX σ hp.length) σ.length xs) else CR.ret (sv.ren (bX σ hp.length)) (ci (bX σ hp.length) σ xs++eh m.fz) (eN (bX σ hp.length) σ.length xs)) else CR.bad):=h
      rw [hc] at h'
      have hg:∃ g:List Nat,(∀ b∈g,bA m.fz b=true)∧((∀ b,bA m.fz b=true→b∈g)∨(mq rp=true∧i5 rb=true))∧
          (K (sv.ren (bX σ hp.length)) (bc hp (ci (bX σ hp.length) σ xs++eh g)++eN (bX σ hp.length) σ.length xs)∧∀ b,hp.length≤b→b<(bc hp (ci (bX σ hp.length) σ xs++eh g)++eN (bX σ hp.length) σ.length xs).length→R b):=by
        cases hk:(qE m.fz||(mq rp&&i5 rb)) with
        | true=>
          rw [hk] at h'
          refine ⟨[],(fun b hb=>by cases hb),?_,?_⟩
          · cases hn:qE m.fz with
            | true=>exact .inl fun b hb=>by rw [Kw hn] at hb;cases hb
            | false=>
              rw [hn] at hk
              simp only [Bool.false_or,Bool.and_eq_true] at hk
              exact .inr hk
          · rw [show eh [] = [] from rfl,List.append_nil]
            exact h'
        | false=>
          rw [hk] at h'
          exact ⟨m.fz,fun b hb=>rD.2 hb,.inl fun b hb=>rD.1 hb,h'⟩
      obtain ⟨g,hgfz,hcase,hK,hR⟩:=hg
      simp only [Bool.and_eq_true,Nat.ble_eq] at hc
      obtain ⟨hc1,hc3⟩:=hc
      have hbelow:=ww hc3
      rw [hσn] at hc1
      let Bw:Nat→Prop:=fun r=>∃ b v,bA m.fz b=true∧b∉g∧ι b=some v∧aH (hp.getD b .none)=true∧aC v=some r
      have hBwIm:∀ r,Bw r→¬ Im r:=fun r ⟨b,v,h1,_,h2,h3,h4⟩=>hm.mr.imm b v r h3 h2 h4
      have hσmem:∀ j,j<n0→σ.getD j 0∈σ:=fun j hj=>by
        rw [List.getD_eq_getElem?_getD,List.getElem?_eq_getElem (by omega)]
        exact List.getElem_mem _
      have hσget:∀ b,b∈σ→∃ j,j<n0∧σ.getD j 0=b:=fun b hb=>by
        obtain ⟨j,hj,e⟩:=List.getElem_of_mem hb
        exact ⟨j,by omega,by rw [List.getD_eq_getElem?_getD,List.getElem?_eq_getElem hj];exact e⟩
      have hσinj:∀ i j,i<n0→j<n0→σ.getD i 0=σ.getD j 0→i=j:=fun i j hi hj e=>by
        have e1:=hok _ _ hi (hσ i hi).1
        have e2:=hok _ _ hj (hσ j hj).1
        rw [e,e2] at e1
        cases e1;rfl
      have hσnd:σ.Nodup:=by
        rw [List.nodup_iff_pairwise_ne,List.pairwise_iff_getElem]
        intro i j hi hj hij e
        have:=hσinj i j (by omega) (by omega) (by rw [List.getD_eq_getElem?_getD,List.getD_eq_getElem?_getD,List.getElem?_eq_getElem hi,List.getElem?_eq_getElem hj];exact e)
        omega
      have hσlt:∀ b∈σ,b<hp.length:=fun b hb=>by
        obtain ⟨j,hj,rfl⟩:=hσget b hb
        exact jH (hσ j hj).2
      have hιW:∀ j,j<n0→ιW ι m j=ι (σ.getD j 0):=fun j hj=>by unfold ιW;rw [(hσ j hj).1]
      have hσfz:∀ b∈σ,bA m.fz b=false:=fun b hb=>by
        obtain ⟨j,hj,rfl⟩:=hσget b hb
        cases hf:bA m.fz (σ.getD j 0) with
        | false=>rfl
        | true=>
          have:=hap _ hf
          rw [hok _ _ hj (hσ j hj).1] at this
          cases this
      have hσg:∀ b∈σ,b∉g:=fun b hb h=>by have:=hgfz b h;rw [hσfz b hb] at this;cases this
      have hxlen:xs.length=rb.length:=hlen
      let k2:=rb.length-n0
      have hrl:rb.length=n0+k2:=by show _=n0+(rb.length-n0);omega
      let Im':Nat→Prop:=fun r=>Iml r∧¬ Bw r
      let ι':Nat→Option Value:=fun b=>if hp.length≤b∧b<hp.length+k2 then ιl (n0+(b-hp.length)) else ι b
      have hι'old:∀ b,¬ (hp.length≤b∧b<hp.length+k2)→ι' b=ι b:=fun b h=>if_neg h
      have hι'new:∀ i,i<k2→ι' (hp.length+i)=ιl (n0+i):=fun i hi=>by
        show (if _ then _ else _)=_
        rw [if_pos ⟨Nat.le_add_right _ _,by omega⟩,Nat.add_sub_cancel_left]
      have hrm_lt:∀ i,i<n0→bX σ hp.length i=σ.getD i 0:=fun i hi=>by
        unfold bX
        rw [show Nat.blt i σ.length=true from iq.2 (by omega)];rfl
      have hrm_ge:∀ i,n0≤i→bX σ hp.length i=hp.length+(i-n0):=fun i hi=>by
        unfold bX
        cases hb:Nat.blt i σ.length with
        | true=>have:=iq.1 hb;omega
        | false=>rw [hσn];rfl
      have hagree:∀ i,i<rb.length→ι' (bX σ hp.length i)=ιl i:=fun i hi=>by
        rcases Nat.lt_or_ge i n0 with h | h
        · rw [hrm_lt i h,hι'old _ (by have:=hσlt _ (hσmem i h);omega),hkeep i h,hιW i h]
        · rw [hrm_ge i h,hι'new _ (by omega)]
          congr 1;omega
      have hhp'len:(bc hp (ci (bX σ hp.length) σ xs++eh g)++eN (bX σ hp.length) σ.length xs).length=hp.length+k2:=by
        rw [List.length_append,eH,rW,ph,List.length_drop,hxlen,hσn]
      have hnone:∀ b,hp.length≤b→b<hp.length+k2→ι b=none:=fun b h1 h2=>hRn b (hR b h1 (by rw [hhp'len];exact h2))
      have hget_old:∀ j,j<n0→(bc hp (ci (bX σ hp.length) σ xs++eh g)++eN (bX σ hp.length) σ.length xs).getD (σ.getD j 0) .none=(xs.getD j .none).ren (bX σ hp.length):=fun j hj=>by
        have:=hσlt _ (hσmem j hj)
        rw [jC,if_neg (by omega),me,if_neg (hσg _ (hσmem j hj)),uc hσnd (by omega) j (by omega)]
        rfl
      have hget_new:∀ i,i<k2→(bc hp (ci (bX σ hp.length) σ xs++eh g)++eN (bX σ hp.length) σ.length xs).getD (hp.length+i) .none=(xs.getD (n0+i) .none).ren (bX σ hp.length):=fun i hi=>by
        have hx:xs[n0+i]? =some xs[n0+i] :=List.getElem?_eq_getElem (by omega)
        rw [jC,if_pos (Nat.le_add_right _ _),rW,wg,Nat.add_sub_cancel_left,List.getElem?_drop,hσn,List.getD_eq_getElem?_getD (l:=xs),hx]
        rfl
      have hget_g:∀ b,b<hp.length→b∈g→(bc hp (ci (bX σ hp.length) σ xs++eh g)++eN (bX σ hp.length) σ.length xs).getD b .none= .none:=fun b h1 h2=>by
        rw [jC,if_neg (by omega),me,if_pos h2]
        rfl
      have hget_oth:∀ b,b<hp.length→b∉σ→b∉g→(bc hp (ci (bX σ hp.length) σ xs++eh g)++eN (bX σ hp.length) σ.length xs).getD b .none=hp.getD b .none:=fun b h1 h2 h3=>by
        rw [jC,if_neg (by omega),me,if_neg h3,vO h2]
        rfl
      generalize hhp':bc hp (ci (bX σ hp.length) σ xs++eh g)++eN (bX σ hp.length) σ.length xs=hp' at hK hR hhp'len hget_old hget_new hget_oth hget_g
      have hlaterIm:∀ r,Im r→Im' r:=fun r hr=>⟨hll.im r (.inl hr),fun hB=>hBwIm r hB hr⟩
      have hsame:(∀ b,bA m.fz b=true→b∈g)→Later Iml ιl w' Im' ιl w':=fun hf=>⟨fun r hr=>⟨hr,fun ⟨b,v,h1,h2,_⟩=>h2 (hf b h1)⟩,fun b v h=>h,fun _ _=>rfl⟩
      have hresI:VRel Im' ιl w' sv v:=by
        rcases hcase with hf | ⟨hf,_⟩
        · exact VRel.mono (hsame hf) sv v hres
        · rw [← hsv] at hres ⊢;exact od rp ds v hf hres
      have hblkI:∀ j u,ιl j=some u→BRel Im' ιl w' (xs.getD j .none) u:=fun j u hj=>by
        have hb:=hml.hv j u hj
        rcases hcase with hf | ⟨_,hf⟩
        · exact BRel.later (hsame hf) (fun _ _ _=>rfl) hb
        · rw [← hxs] at hb ⊢;exact vV rb ds1 j u hf hb
      let hpX:List Blk:=(List.range hp'.length).map fun b=>if σ.contains b=true∨hp.length≤b then hp'.getD b .none else .none
      have hpX_get:∀ b,hpX.getD b .none=if b<hp'.length then (if σ.contains b=true∨hp.length≤b then hp'.getD b .none else .none) else .none:=fun b=>nz
      have hsrc:∀ b u,ι' b=some u→hpX.getD b .none= .none∨∃ i,i<rb.length∧b=bX σ hp.length i∧ιl i=some u∧hpX.getD b .none=(xs.getD i .none).ren (bX σ hp.length):=fun b u hb=>by
        by_cases h1:hp.length≤b∧b<hp.length+k2
        · right
          refine ⟨n0+(b-hp.length),by omega,?_,?_,?_⟩
          · rw [hrm_ge _ (Nat.le_add_right _ _)];omega
          · rw [← hι'new (b-hp.length) (by omega),show hp.length+(b-hp.length)=b from by omega];exact hb
          · rw [hpX_get,if_pos (by rw [hhp'len];exact h1.2),if_pos (.inr h1.1),← hget_new _ (by omega),show hp.length+(b-hp.length)=b from by omega]
        · by_cases h2:b∈σ
          · obtain ⟨j,hj,rfl⟩:=hσget b h2
            have hlt':=hσlt _ h2
            right
            refine ⟨j,by omega,(hrm_lt j hj).symm,?_,?_⟩
            · rw [← hagree j (by omega),hrm_lt j hj];exact hb
            · rw [hpX_get,if_pos (by rw [hhp'len];omega),if_pos (.inl (by simpa using h2)),hget_old j hj]
          · left
            rw [hpX_get]
            split
            · rename_i h3
              rw [hhp'len] at h3
              rw [if_neg]
              rintro (h4 | h4)
              · exact h2 (by simpa using h4)
              · exact h1 ⟨h4,h3⟩
            · rfl
      have hMg:∀ b,(ba (σ++g) 0 hp).getD b .none=if (σ++g).contains b then hp.getD b .none else .none:=fun b=>by
        rw [i9,Nat.zero_add]
      have hrminj:∀ i j,i<rb.length→j<rb.length→i=j→bX σ hp.length i=bX σ hp.length j:=fun i j _ _ h=>by rw [h]
      have hσc:∀ b∈σ,(σ++g).contains b=true:=fun b hb=>by simp [hb]
      have hX:Mem C (mZ w Im ι (σ++g) (ba (σ++g) 0 hp)) hpX Im' ι' w':=by
        have hFF:∀ r,(∃ i v,i<n0∧ιW ι m i=some v∧aH (hpl.getD i .none)=true∧aC v=some r)→(mZ w Im ι (σ++g) (ba (σ++g) 0 hp)).F r:=by
          rintro r ⟨i,u,h1,h2,h3,h4⟩
          refine ⟨σ.getD i 0,u,hσc _ (hσmem i h1),by rw [← hιW i h1];exact h2,?_,h4⟩
          rw [hMg,if_pos (hσc _ (hσmem i h1))]
          exact (hσ i h1).2
        have hll':Later Im ι w Im' ι' w':=⟨hlaterIm,fun b u hb=>by
          rw [hι'old b fun h=>by rw [hnone b h.1 h.2] at hb;cases hb]
          exact hb,fun i hi=>hll.mem i (.inl hi)⟩
        refine ⟨fun b u hb=> ?_,⟨fun r hr=>hml.mr.imlt r hr.1,fun b u r h1 h2 h3=> ?_,fun b b' u u' r h1 h2 h3 h4 h5 h6=> ?_,fun b u r h1 h2 h3=> ?_⟩,⟨hml.since.os,hml.since.tape,hml.since.output,hml.since.size,fun k h1 h2=>hml.since.block k h1 fun h=>h2 (hFF k h),hll'.hd,hlaterIm,fun i h=> ?_⟩,hm.glob.later hll'⟩
        · rcases hsrc b u hb with h | ⟨i,h1,rfl,h2,h3⟩
          · rw [h];trivial
          · rw [h3]
            exact (BRel.ren fun c hc=>hagree c (hbelow c (List.mem_append_right _ (Dp xs i c hc)))).2 (hblkI i u h2)
        · rcases hsrc b u h2 with h | ⟨i,g1,rfl,g2,g3⟩
          · rw [h] at h1;cases h1
          · rw [g3,oh] at h1
            exact fun hr=>hml.mr.imm i u r h1 g2 h3 hr.1
        · rcases hsrc b u h3 with h | ⟨i,g1,rfl,g2,g3⟩
          · rw [h] at h1;cases h1
          · rcases hsrc b' u' h4 with h | ⟨j,k1,rfl,k2',k3⟩
            · rw [h] at h2;cases h2
            · rw [g3,oh] at h1
              rw [k3,oh] at h2
              exact hrminj i j g1 k1 (hml.mr.sep i j u u' r h1 h2 g2 k2' h5 h6)
        · rcases hsrc b u h2 with h | ⟨i,g1,rfl,g2,g3⟩
          · rw [h] at h1;cases h1
          · rw [g3,oh] at h1
            exact (hml.mr.mine i u r h1 g2 h3).imp id (hFF r)
        · rcases hml.since.imnew i h.1 with h1 | h1 | h1
          · rcases h1 with h1 | ⟨b,v,k1,k2,k3,k4⟩
            · exact .inl h1
            · by_cases hbg:b∈g
              · exact .inr (.inr ⟨b,v,by simp [hbg],k2,by rw [hMg,if_pos (by simp [hbg])];exact k3,k4⟩)
              · exact absurd ⟨b,v,k1,hbg,k2,k3,k4⟩ h.2
          · exact .inr (.inl h1)
          · exact .inr (.inr (hFF i h1))
      have hF:Mem C E hp' Im' ι' w':=Mem.frame (hpM:=ba (σ++g) 0 hp) (n:=hp.length) (k:=k2) hm hMg hX hι'old (fun b h1 h2=>hnone b h1 h2)
        (fun b hb=>by
          rw [hpX_get]
          rcases hb with h | h
          · rcases List.mem_append.1 (by simpa using h) with h | h
            · rw [if_pos (by rw [hhp'len];have:=hσlt b h;omega),if_pos (.inl (by simpa using h))]
            · by_cases h3:b<hp.length
              · rw [if_pos (by rw [hhp'len];omega),if_neg (by rintro (h4 | h4);exact hσg b (by simpa using h4) h;omega),hget_g b h3 h]
              · by_cases h4:b<hp'.length
                · rw [if_pos h4,if_pos (.inr (by omega))]
                · rw [if_neg h4,List.getD_eq_getElem?_getD,List.getElem?_eq_none (by omega)];rfl
          · rw [if_pos (by rw [hhp'len];exact h.2),if_pos (.inr h.1)])
        (fun b h1 h2=>by
          have h1':b∉σ∧b∉g:=by
            have:¬ b∈σ++g:=by simpa using h1
            exact ⟨fun h=>this (List.mem_append_left _ h),fun h=>this (List.mem_append_right _ h)⟩
          by_cases h3:b<hp.length
          · exact hget_oth b h3 h1'.1 h1'.2
          · rw [List.getD_eq_getElem?_getD,List.getD_eq_getElem?_getD,List.getElem?_eq_none (by rw [hhp'len];omega),List.getElem?_eq_none (by omega)])
      refine ⟨v,_,hp',Im',ι',rfl,hK,(VRel.ren sv v fun b hb=>hagree b (hbelow b (List.mem_append_left _ hb))).2 hresI,hF,by rw [hhp'len];omega,fun b hb=>hι'old b (by rw [← hhp'len];exact hb),⟨hlaterIm,fun b u hb=> ?_,fun i hi=>hll.mem i (.inl hi)⟩⟩
      rw [hι'old b fun h=>by rw [hnone b h.1 h.2] at hb;cases hb]
      exact hb
theorem r7 {C:Ctx} (hC:C.Ok) {f:FuncId} {ct:Ct} (G:List SV→List Blk→List Dat→Prop)
    (hrun:∀ (svs:List SV) (hp:List Blk) (ds:List Dat) (E:Ent) (Im:Nat→Prop) (ι:Nat→Option Value) (w:World) (vs:List Value),G svs hp ds→svs.length=ct.ps.length→hp.length=ct.bs.length→E.dfr= [] →(∀ b,hp.length≤b→E.ι b=none)→Mem C E hp Im ι w→kH hp.length ι→VRels Im ι w svs vs→Calls C.P f vs.toArray w (dz C E Im ι w hp.length (ct.res ds)))
    (hcall:∀ vs:Array Value,∀ w,vs.size=ct.ps.length→(callFunc f vs).run C.P w= .ok (.enter f vs) w) (hvc:ct.VCG G):af C f (ag ct):=by
  intro svs hp K R h E Im ι w vs hm hRn hv
  unfold ag at h
  split at h
  · rename_i svs' hpl ds m hw
    split at h
    · rename_i σ hσ
      obtain ⟨hpre,h⟩:=h
      obtain ⟨ds1,ds2,m1,rfl,h1,h2,h3,h4⟩:=wq hw
      have f1:=convs_le (D:=ee ct.bs) h1
      have f2:=gF (D:=ee ct.bs) h2
      have fine:=uI f1 f2 h3 h4
      have hlenB:hpl.length=ct.bs.length:=(eS h2).2.2
      obtain ⟨hσl,hσs⟩:=tD hσ
      have hvl:=convs_rel hm.hv fine.ok h1 f2.1 hv
      have hm0:Mem C ⟨w,Im,fun _=>none,fun r=>∃ b v,ι b=some v∧aH (hp.getD b .none)=true∧aC v=some r,[]⟩ hp Im ι w:=
        ⟨hm.hv,⟨hm.mr.imlt,hm.mr.imm,hm.mr.sep,fun b v r a1 a2 a3=> .inr ⟨b,v,a2,a1,a3⟩⟩,⟨rfl,rfl,rfl,Nat.le_refl _,fun _ _ _=>rfl,(fun b v h=>by cases h),fun _ h=>h,fun _ h=> .inl h⟩,hm.glob⟩
      have hm1:=rC hm0 fine hlenB (fun j v hj=>by
        have:=kT hm.hv fine.ok h2 (.refl _) j v (by rw [Nat.zero_add];exact hj)
        rwa [Nat.zero_add] at this) (fun j hj=>j4 h2 j hj) (fun _ _=>rfl) hC.globE
      have hfine:∀ i,ct.bs.length≤i→ιW ι m i=none:=fun i hi=>ιW_lt fine hi
      have hml:Mem C ⟨w,fC Im ι hp m,ιW ι m,fun r=>∃ i v,i<ct.bs.length∧ιW ι m i=some v∧aH (hpl.getD i .none)=true∧aC v=some r,[]⟩ hpl (fC Im ι hp m) (ιW ι m) w:=by
        refine ⟨hm1.hv,⟨hm1.mr.imlt,hm1.mr.imm,hm1.mr.sep,fun b v r a1 a2 a3=> .inr ⟨b,v,?_,a2,a1,a3⟩⟩,⟨rfl,rfl,rfl,Nat.le_refl _,fun _ _ _=>rfl,fun _ _ h=>h,fun _ h=>h,fun _ h=> .inl h⟩,hm1.glob⟩
        rcases Nat.lt_or_ge b ct.bs.length with hlt | hge
        · exact hlt
        · rw [hfine b hge] at a2;cases a2
      have e1:=(eS h2).1 _ ((convs_all h1).1 _ hvc)
      have i1:=(convs_all h1).2 []
      have i2:=(eS h2).2.1 []
      rw [List.append_nil] at i1 i2
      have e2:=imps_elim ct.ps ds1 vs _ (by rw [i1];exact hvl) e1
      have e3:=n6 (hs_vrels svs' vs hvl) ct.bs 0 ds2 _ (fun j v hj=>by rw [i2];exact hm1.hv j v (by rw [← hj];congr 1;omega)) e2
      have e4:=e3 hpre
      have hlsv:svs'.length=ct.ps.length:=by
        have:∀ (ps:List Pat) (ds:List Dat),(instPs ps ds).1.length=ps.length:=by
          intro ps
          induction ps with
          | nil=>intro ds;rfl
          | cons p ps ih=>intro ds;simp [instPs,ih]
        have:=this ct.ps ds1
        rwa [i1] at this
      have hbody:=hrun svs' hpl (ds1++ds2) ⟨w,fC Im ι hp m,ιW ι m,fun r=>∃ i v,i<ct.bs.length∧ιW ι m i=some v∧aH (hpl.getD i .none)=true∧aC v=some r,[]⟩ _ _ w vs e4 hlsv hlenB rfl (fun b hb=>hfine b (by rw [← hlenB];exact hb)) hml (fun b hb=>hfine b (by rw [← hlenB];exact hb)) hvl
      rw [hlenB] at hbody
      have ok0:m.Ok (fun _=>False):=(gF h2).2 ((convs_le h1).2 ⟨fun i h=>(by cases h),fun i b h=>(by cases h)⟩)
      have hinj:∀ i b,i<ct.bs.length→cf m.ρ i=some b→dW m.β b=some i:=fun i b _ hb=>(ok0.inj i b hb).resolve_left id
      refine .inl ⟨hcall _ _ ?_,Calls.mono hbody fun e w' hp0=> ?_⟩
      · have:=gi hvl
        simp;omega
      · exact pY hC hm hinj fine.apart (fun j hj=>by have:=hσs j hj;rwa [Nat.zero_add] at this) hσl hfine hRn _ h hp0 fun i v a1 a2 a3=>by
          have:=(hσs i a3).2
          exact this
    · exact h.elim
  · exact h.elim
theorem N1 {C:Ctx} (hC:C.Ok) {f:FuncId} {fn:Func} {c:Code} (hf:C.P.funcs[f]? =some fn) (hb:fn.body=some c) (ann:List Dat→Ann) {ct:Ct} {k:Nat} (hlenps:ct.ps.length+k=fn.ntmps) (hcall:∀ vs:Array Value,∀ w,vs.size=ct.ps.length→(callFunc f vs).run C.P w= .ok (.enter f vs) w)
    (hvc:ct.VC C fn.results.toList fn.ntmps k c ann):af C f (ag ct):=by
  refine r7 hC (fun svs hp ds=>gY C ct.bs.length (ann ds) c ⟨fn.ntmps,[],svs++List.replicate k SV.dead,hp,[]⟩ (rZ C.P fn.results.toList fun sv hp'=>(ct.res ds).ok ct.bs.length sv hp')) (fun svs hp ds E Im ι w vs h h1 h2 hD hE hm hF hv=> ?_) hcall hvc
  rw [← h2] at h
  exact B7 hC hf hb (ann ds) (k:=k) (by omega) (by omega) hE h hD hm hF hv
end Go.Avc
namespace Go.Avc
set_option linter.unusedVariables false
set_option linter.unusedSimpArgs false
def zf (k:IntKind):List Int→List Value→Option (List Value)
  | [],vs=>some vs
  | n::l,.int k' n'::vs=>if k'=k then (if n'=n then zf k l vs else none) else none
  | _,_=>none
def xO:List Bool→List Value→Option (List Value)
  | [],vs=>some vs
  | b::l,.bool b'::vs=>if b'=b then xO l vs else none
  | _,_=>none
def FX:SV→Value→Bool
  | .int k n,.int k' n'=>decide (k'=k)&&decide (n'=n)
  | .bool b,.bool b'=>decide (b'=b)
  | .str [],.string s=>decide (s.data.toList= [])
  | .nilp,.pointer none=>true
  | .nilf,.nilFunc=>true
  | .nils,.slice none 0 0=>true
  | .nili,.nilIface=>true
  | _,_=>false
def pn:List SV→List Value→Bool
  | [],vs=>(match vs with | [] =>true | _=>false)
  | .arrI n k l::cs,vs=>decide (l.length=n)&&(match zf k l vs with | some vs=>pn cs vs | none=>false)
  | .arrB n l::cs,vs=>decide (l.length=n)&&(match xO l vs with | some vs=>pn cs vs | none=>false)
  | s::cs,vs=>(match vs with | v::vs=>FX s v&&pn cs vs | [] =>false)
theorem zF {k:IntKind} :∀ {l:List Int} {vs vs':List Value},zf k l vs=some vs'→vs=l.map (Value.int k)++vs'
  | [],vs,vs',h=>by cases h;rfl
  | n::l,vs,vs',h=>by
    cases vs with
    | nil=>cases h
    | cons v vs=>
      cases v <;>simp only [zf] at h <;>try cases h
      split at h
      · split at h
        · rename_i h1 h2
          subst h1;subst h2
          rw [zF h];rfl
        · cases h
      · cases h
theorem zW:∀ {l:List Bool} {vs vs':List Value},xO l vs=some vs'→vs=l.map Value.bool++vs'
  | [],vs,vs',h=>by cases h;rfl
  | n::l,vs,vs',h=>by
    cases vs with
    | nil=>cases h
    | cons v vs=>
      cases v <;>simp only [xO] at h <;>try cases h
      split at h
      · rename_i h1
        subst h1
        rw [zW h];rfl
      · cases h
theorem Lb {s:SV} {v:Value} (h:FX s v=true) (Im:Nat→Prop) (ι:Nat→Option Value) (w:World):CellsRel Im ι w [s] [v] :=by
  unfold FX at h
  split at h
  · simp only [Bool.and_eq_true,decide_eq_true_eq] at h
    obtain ⟨rfl,rfl⟩:=h
    exact cJ rfl rfl
  · simp only [decide_eq_true_eq] at h
    subst h
    exact cJ rfl rfl
  · rename_i s
    simp only [decide_eq_true_eq] at h
    obtain ⟨⟨l⟩⟩:=s
    have:l= [] :=h
    subst this
    exact cJ rfl ⟨rfl,Nat.zero_le _⟩
  · exact cJ rfl rfl
  · exact cJ rfl rfl
  · exact cJ rfl rfl
  · exact cJ rfl rfl
  · cases h
theorem oK:∀ {cs:List SV} {vs:List Value},pn cs vs=true→∀ (Im:Nat→Prop) (ι:Nat→Option Value) (w:World),CellsRel Im ι w cs vs
  | [],vs,h,Im,ι,w=>by
    cases vs with
    | nil=>rfl
    | cons=>cases h
  | s::cs,vs,h,Im,ι,w=>by
    have gen:∀ v vs',vs=v::vs'→(FX s v&&pn cs vs')=true→CellsRel Im ι w (s::cs) vs:=fun v vs' e k=>by
      subst e
      rw [Bool.and_eq_true] at k
      exact db (Lb k.1 Im ι w) (oK k.2 Im ι w)
    cases s with
    | arrI n k l=>
      simp only [pn,Bool.and_eq_true,decide_eq_true_eq] at h
      obtain ⟨h1,h2⟩:=h
      split at h2
      · rename_i vs' ht
        rw [zF ht]
        exact cM h1 (oK h2 Im ι w)
      · cases h2
    | arrB n l=>
      simp only [pn,Bool.and_eq_true,decide_eq_true_eq] at h
      obtain ⟨h1,h2⟩:=h
      split at h2
      · rename_i vs' ht
        rw [zW ht]
        exact dZ h1 (oK h2 Im ι w)
      · cases h2
    | _=>
      cases vs with
      | nil=>cases h
      | cons v vs=>exact gen v vs rfl h
def yc:List (TypeId×List SV)→TypeId→Option (List SV)
  | [],_=>none
  | (t,cs)::l,T=>bif Nat.beq t T then some cs else yc l T
def D0 (P:Program):List (TypeId×List SV)→Bool
  | [] =>true
  | (t,cs)::l=>(match P.info? t with
    | some i=>(match i.zero with
      | some z=>decide (z.cells.size=i.size)&&pn cs z.cells.toList
      | none=>false)
    | none=>false)&&D0 P l
theorem Ds {P:Program} :∀ {l:List (TypeId×List SV)},D0 P l=true→ii P (yc l)
  | [],_=>fun T cs h=>by cases h
  | (t,cs)::l,h=>by
    simp only [D0,Bool.and_eq_true] at h
    intro T cs' hT
    simp only [yc] at hT
    cases hb:Nat.beq t T with
    | true=>
      rw [hb] at hT
      cases hT
      cases aA.1 hb
      have h1:=h.1
      split at h1
      · rename_i i hi
        split at h1
        · rename_i z hz
          simp only [Bool.and_eq_true,decide_eq_true_eq] at h1
          exact ⟨i,z,hi,hz,h1.1,fun Im ι w=>oK h1.2 Im ι w⟩
        · cases h1
      · cases h1
    | false=>rw [hb] at hT;exact Ds h.2 T cs' hT
abbrev ai:=FuncId→List SV→List Blk→CR
def qN:ai:=fun _ _ _=> .bad
def al (sp:ai) (n:Nat) (F:List SV→List Blk→CR):ai:=fun f svs hp=>bif Nat.beq n f then F svs hp else sp f svs hp
def Ctx.with (C:Ctx) (sp:ai):Ctx:= {C with spec:=sp}
theorem B2 {C:Ctx} {sp sp':ai} {E:Ent} {hp:List Blk} {Im:Nat→Prop} {ι:Nat→Option Value} {w:World} (h:Mem (C.with sp) E hp Im ι w):Mem (C.with sp') E hp Im ι w:=⟨h.hv,h.mr,h.since,h.glob⟩
theorem re {C:Ctx} {sp sp':ai} {f:FuncId} {F:List SV→List Blk→CR} (h:af (C.with sp) f F):af (C.with sp') f F:=fun svs hp K R hw E Im ι w vs hm hR hv=>
  CallSem.mono (h svs hp K R hw E Im ι w vs (B2 hm) hR hv) fun e w' ⟨v,sv,hp',Im',ι',h1,h2,h3,h4,h5,h6,h7⟩=>⟨v,sv,hp',Im',ι',h1,h2,h3,B2 h4,h5,h6,h7⟩
theorem Lo {C:Ctx} (f:FuncId):af C f (qN f):=fun svs hp K R hw=>hw.elim
theorem ae {C:Ctx} {sp:ai} (h:(C.with sp).Ok) {n:Nat} {F:List SV→List Blk→CR} (hn:af (C.with sp) n F):(C.with (al sp n F)).Ok:=by
  refine ⟨h.zero,fun f=> ?_,h.mixed,h.globE⟩
  cases hb:Nat.beq n f with
  | true=>
    cases aA.1 hb
    have e:(C.with (al sp n F)).spec n=F:=by
      funext svs hp
      show (bif Nat.beq n n then F svs hp else sp n svs hp)=_
      rw [hb];rfl
    rw [e]
    exact re hn
  | false=>
    have e:(C.with (al sp n F)).spec f=sp f:=by
      funext svs hp
      show (bif Nat.beq n f then F svs hp else sp f svs hp)=_
      rw [hb];rfl
    rw [e]
    exact re (h.spec f)
end Go.Avc
namespace Go.Proofs.YteiecapbaeajdaaGreatDoor
open Go.Avc Go.Proofs
abbrev mo (n:Nat):SV:= .arrI n .u64 (List.replicate n 0)
def zt:List (TypeId×List SV):= [(3,[.int .i64 0]),(4,[.bool false]),(5,[.int .u8 0]),(9,[.str []]),(22,[.nils]),(24,[.nils]),(26,[.int .i64 0,.nils,.nils]),(27,[.int .i64 0]),(32,[.int .i64 0,.nils,.nils]),(36,[.nils]),(62,[.int .i64 0,.int .i64 0,.int .i64 0,.nils]),
  (65,[.int .i64 0,.int .i64 0,.int .i64 0,.str []]),(66,[.nils]),(73,[.int .u64 0]),(74,[mo 4]),(76,[mo 4]),(79,[.arrI 32 .u8 (List.replicate 32 0)]),(84,[.int .i64 0,.int .i64 0,.int .i64 0,.nils]),(86,[.int .i64 0,.nils]),(90,[.nils]),(116,[.int .i64 0,.int .i64 0,.int .i64 0,.str []]),
  (128,[.nilp,.arrI 32 .u8 (List.replicate 32 0),.nili]),(133,[.nilp]),(137,[.nilp]),(151,[.int .i64 0,.int .i64 0,.int .i64 0,.nils]),(162,[.nils]),(185,[.nils,.int .i64 0,.nilp]),(204,[.int .i64 0]),(211,[mo 25]),(212,[mo 25]),(214,[mo 25,.int .i64 0]),
  (253,[]),(259,[.nilp]),(278,[.arrI 200 .u8 (List.replicate 200 0)]),(295,[.nils,.bool false]),(298,[.nili,.nils,.int .i64 0,.int .i64 0,.int .i64 0]),(300,[.nili,.nils,.int .i64 0,.int .i64 0,.int .i64 0]),
  (88,[]),(265,[.int .i64 0,.nilf,.nils]),(313,[mo 12]),(316,[mo 36]),(318,[.int .u32 0,.int .i32 0,.int .u32 0,mo 780,mo 36]),(332,[.nils,.int .u64 0,.nils]),(337,[mo 5]),(341,[.arrB 64 (List.replicate 64 false)]),(342,[.arrB 320 (List.replicate 320 false)]),(344,[.arrB 1600 (List.replicate 1600 false)]),
  (208,[.nils]),(324,[mo 12]),(326,[mo 12]),(364,[mo 9]),(376,[.nilp]),
  (94,[.int .i64 0,.int .i64 0,.int .i64 0,.nils]),(96,[.nils]),(98,[.nils]),(100,[.nils,.nils]),(103,[.nils,.int .i64 0,.int .i64 0]),(105,[.nils,.int .i64 0,.int .i64 0,.int .i64 0]),(107,[.nils,.nils,.nils,.int .i64 0,.int .i64 0,.int .i64 0]),(109,[.int .i64 0,.nils,.int .i64 0,.int .i64 0,.nils,.nils,.int .i64 0,.int .i64 0,.int .i64 0,.nils,.nils,.nils,.int .i64 0,.int .i64 0,.int .i64 0]),
  (113,[.int .i64 0,.nils]),(158,[.arrB 80 (List.replicate 80 false)]),(366,[mo 81]),(372,[.nils,.nils,.nils,.nils,.nils,.nils,.nils,.nils,.nils]),(421,[.nilp]),(429,[.arrB 80 (List.replicate 80 false),.int .i64 0])]
set_option maxRecDepth 100000 in
theorem YF:D0 Tryz.prog zt=true:=by kernel_rfl
def CE:List Int:= [1,32898,9223372036854808714,9223372039002292224,32907,2147483649,9223372039002292353,9223372036854808585,138,136,2147516425,2147483658,2147516555,9223372036854775947,9223372036854808713,9223372036854808579,
  9223372036854808578,9223372036854775936,32778,9223372039002259466,9223372039002292353,9223372036854808704,2147483649,9223372039002292232]
def Pi:List (List CD):=CE.map fun n=> [.int n]
def gl:Nat→Option SV:=fun g=>bif Nat.beq g 0 then some (.eptr [.int .u64] Pi 0 0) else none
noncomputable def base:Ctx:=⟨Tryz.prog,yc zt,gl,qN⟩
theorem CV:(base.with qN).Ok:=⟨Ds YF,fun f=>Lo f,by kernel_rfl,fun g sv h=>by
  have h':gl g=some sv:=h
  unfold gl at h'
  cases hb:Nat.beq g 0 with
  | true=>rw [hb] at h';cases h';exact ⟨_,_,_,_,rfl⟩
  | false=>rw [hb] at h';cases h'⟩
noncomputable def Iq (fn:Func):Code:=match fn.body with | some c=>c | none=> .skip
def au:List Dat→Ann:=fun _=> {cut:= [],loop:= []}
noncomputable def av (s:ai) (f:Func) (c:Ct) (a:List Dat→Ann):Prop:=c.VC (base.with s) f.results.toList f.ntmps (f.ntmps-c.ps.length) (Iq f) a
theorem am {s:ai} {n:FuncId} {f:Func} {c:Ct} {a:List Dat→Ann} {p:Prop} (hc:(base.with s).Ok) (hf:Tryz.prog.funcs[n]? =some f) (h1:f.body=some (Iq f)) (h2:c.ps.length+(f.ntmps-c.ps.length)=f.ntmps) (hr:∀ (vs:Array Value) (w:World),(callFunc n vs).run Tryz.prog w=.ok (.enter n vs) w) (e:av s f c a=p) (v:p):af (base.with s) n (ag c):=N1 hc hf h1 a h2 (fun vs w _=>hr vs w) (by rw [show c.VC _ _ _ _ _ _=p from e];exact v)
end Go.Proofs.YteiecapbaeajdaaGreatDoor
namespace Go.Proofs.YteiecapbaeajdaaGreatDoor
open Go.Avc
set_option linter.unusedVariables false
def cH (a b c:Int) (l:List UInt8):Int:=
  if a<1∨3<a then 5
  else if (a=1∧(b<1∨4<b))∨(a=2∧b≠1∧b≠3)∨(a=3∧b≠0) then 6
  else if c<1∨1048576<c∨(a=3∧c≠1) then 7
  else if (255:Int)<l.length then 8 else 0
def mT (n:Int) (i:Nat):UInt8:=UInt8.ofNat (n / 256 ^ i%256).toNat
def fI (n:Int) (w:Nat):List UInt8:=(List.range w).map (mT n)
def zw (a b c:Int) (l:List UInt8):List UInt8:=fI a 1++fI b 1++fI c 4++fI l.length 2++l
def eQ (l:List (List CD)):List Int:=l.map fun r=>(r.getD 0 .d0).toInt
def jq:List Int→Int→Int
  | [],_=> -1
  | x::l,v=>if x=v then 0 else if jq l v<0 then -1 else jq l v+1
def dy (a:Int):List Int:=if a=1 then [1,2,3,4] else if a=2 then [1,3] else if a=3 then [0] else []
def ia (a:Int):Int:=if a=1∨a=2 then 1048576 else if a=3 then 1 else 0
def gL (l:List Int):List (List CD):=l.map fun n=> [.int n]
abbrev i64:Pat:= .int .i64
abbrev qw:Pat:= .agg [i64,i64,i64,.str]
abbrev iO:List CSh:= [.int .u8]
abbrev DQ:List CSh:= [.int .i64]
abbrev gH:List CSh:= [.int .i64,.int .i64,.int .i64,.str]
abbrev aj:Res:= .ret .skip [] []
def la (n:Nat) (slots:List (Nat×Pat)) (bs:List BPat) (R:List Dat→Prop) (m:List Dat→Nat):LA:=⟨n,pl n 0 slots,bs,R,m⟩
def Kf:Ct:= {ps:= [qw],bs:= [],pre:=fun _=>True,res:=fun | [.i a,.i b,.i c,.s l] => .ret i64 [] [.i (cH a b c l)] | _=>aj}
def E1:Ct:= {ps:= [.rd DQ,i64],bs:= [],pre:=fun _=>True,res:=fun | [.r l,.i v] => .ret i64 [] [.i (jq (eQ l) v)] | _=>aj}
def E4 (l:List (List CD)) (v:Int) (l':List (List CD)) (v' n i:Int):Prop:=l'=l∧v'=v∧n=l.length∧0≤i∧i≤l.length∧v∉(eQ l).take i.toNat
def Tr:List Dat→Ann
  | [.r l,.i v] => {cut:= [],loop:= [(2,[la 19 [(0,.rd DQ),(1,i64),(7,i64),(8,i64)] [] (fun | [.r l',.i v',.i n,.i i] =>E4 l v l' v' n i | _=>False) (fun | [_,_,.i n,.i i] =>(n-i).toNat | _=>0)])]}
  | _=> {cut:= [],loop:= []}
def GI:Ct:= {ps:= [.rd DQ,i64],bs:= [],pre:=fun _=>True,res:=fun | [.r l,.i v] => .ret .bool [] [.b (decide (v∈eQ l))] | _=>aj}
def Hm:Ct:= {ps:= [i64],bs:= [],pre:=fun _=>True,res:=fun | [.i a] => .ret (.tup [.own 0,i64]) [.own 3 DQ] [.i (ia a),.r (gL (dy a))] | _=>aj}
def K4:Ct:= {ps:= [qw],bs:= [],pre:=fun _=>True,res:=fun | [.i a,.i b,.i c,.s l] => .ret i64 [] [.i (cH a b c l)] | _=>aj}
def t6 (n w:Int) (l:List (List CD)):Prop:=0≤n∧0≤w∧w≤8∧l.length≤1000000
def Kh:Ct:= {ps:= [.own 0,i64,i64],bs:= [.own 5 iO],pre:=fun | [.i n,.i w,.r l] =>t6 n w l | _=>False,res:=fun | [.i n,.i w,.r l] => .ret (.own 1) [.none,.own 5 iO] [.r (l++ah (fI n w.toNat))] | _=>aj}
def MI (n w:Int) (l:List (List CD)) (n' w' i:Int) (out:List (List CD)):Prop:=n'=n∧w'=w∧0≤i∧i≤w∧out=l++ah (fI n i.toNat)
def ZL:List Dat→Ann
  | [.i n,.i w,.r l] => {cut:= [],loop:= [(2,[la 22 [(0,.own 1),(1,i64),(8,i64),(9,i64)] [.none,.own 5 iO] (fun | [.i n',.i w',.i i,.r out] =>MI n w l n' w' i out | _=>False) (fun | [_,.i w',.i i,_] =>(w'-i).toNat | _=>0)])]}
  | _=> {cut:= [],loop:= []}
def lG (a b c:Int) (l:List UInt8):List (List CD):=if cH a b c l=0 then ah (zw a b c l) else []
def KB:Ct:= {ps:= [qw],bs:= [],pre:=fun _=>True,res:=fun | [.i a,.i b,.i c,.s l] => .ret (.tup [.own 0,i64]) [.own 5 iO] [.i (cH a b c l),.r (lG a b c l)] | _=>aj}
end Go.Proofs.YteiecapbaeajdaaGreatDoor
namespace Go.Proofs.YteiecapbaeajdaaGreatDoor
open Go Go.Avc Go.Proofs
set_option linter.unusedVariables false
set_option maxRecDepth 100000
def P48:Prop:= ∀ (n n_1 n_2:Int) (l:List UInt8),
 l.length≤9223372036854775807→
 True→
 bif decide (n < 1) || decide (3 < n) then 5=cH n n_1 n_2 l
 else
 bif
 decide (n=1) && (decide (n_1 < 1) || decide (4 < n_1)) || decide (n=2) && decide (n_1≠1) && decide (n_1≠3) ||
 decide (n=3) && decide (n_1≠0) then
 6=cH n n_1 n_2 l
 else
 bif decide (n_2 < 1) || decide (1048576 < n_2) || decide (n=3) && decide (n_2≠1) then
 7=cH n n_1 n_2 l
 else
 l.length≤9223372036854775807→
 bif decide (255 < (↑l.length:Int)) then 8=cH n n_1 n_2 l
 else 0=cH n n_1 n_2 l
theorem e48:av qN Tryz.f48 Kf au=P48:=by kernel_rfl
noncomputable def Hn:ai:=al qN 48 (ag Kf)
def Rg:Prop:= ∀ (l:List (List CD)) (n:Int),
 l.length≤9223372036854775807→
 True→
 l.length≤9223372036854775807→
 (E4 l n l n ↑l.length 0∧True)∧
 ∀ (l_1:List (List CD)) (n_1 n_2 n_3:Int),
 l_1.length≤9223372036854775807→
 E4 l n l_1 n_1 n_2 n_3→
 bif decide (n_3 < n_2) then
 (0≤n_3∧n_3 < ↑l_1.length)∧
 n_3.toNat < l_1.length∧
 bif decide (n_1=((l_1.getD n_3.toNat []).getD 0 (CD.int 0)).toInt) then
 n_3=jq (eQ l) n
 else
 ((-9223372036854775808:Int)≤n_3+1∧n_3+1≤9223372036854775807)∧
 E4 l n l_1 n_1 n_2 (n_3+1)∧(n_2 - (n_3+1)).toNat < (n_2 - n_3).toNat
 else (-1:Int)=jq (eQ l) n
theorem aeC:av Hn Tryz.f168 E1 Tr=Rg:=by kernel_rfl
noncomputable def xk:ai:=al Hn 168 (ag E1)
def Ri:Prop:= ∀ (l:List (List CD)) (n:Int),
 l.length≤9223372036854775807→
 True→
 True∧
 decide (0≤jq (eQ l) n)=decide (n∈eQ l)
theorem afo:av xk Tryz.f128 GI au=Ri:=by kernel_rfl
noncomputable def yX:ai:=al xk 128 (ag GI)
def Tw:Prop:= ∀ (n:Int),
 True→
 bif decide (n=1) then
 1048576=ia n∧
 [[CD.int 1],[CD.int 2],[CD.int 3],[CD.int 4]] =
 gL (dy n)
 else
 bif decide (n=2) then
 1048576=ia n∧
 [[CD.int 1],[CD.int 3]] =gL (dy n)
 else
 bif decide (n=3) then
 1=ia n∧
 [[CD.int 0]] =gL (dy n)
 else 0=ia n∧ [] =gL (dy n)
theorem acy:av yX Tryz.f127 Hm au=Tw:=by kernel_rfl
noncomputable def xT:ai:=al yX 127 (ag Hm)
def P77:Prop:= ∀ (n n_1 n_2:Int) (l:List UInt8),
 l.length≤9223372036854775807→
 True→
 True∧
 ((gL (dy n)).length≤9223372036854775807→
 bif decide ((↑(gL (dy n)).length:Int)=0) then
 5=cH n n_1 n_2 l
 else
 True∧
 bif !decide (n_1∈eQ (gL (dy n))) then
 6=cH n n_1 n_2 l
 else
 bif decide (n_2 < 1) || decide (ia n < n_2) then 7=cH n n_1 n_2 l
 else
 l.length≤9223372036854775807→
 bif decide ((255:Int) < ↑l.length) then 8=cH n n_1 n_2 l
 else 0=cH n n_1 n_2 l)
theorem e77:av xT Tryz.f77 K4 au=P77:=by kernel_rfl
noncomputable def Gi:ai:=al xT 77 (ag K4)
def P78:Prop:= ∀ (n n_1:Int) (l:List (List CD)),
 l.length≤9223372036854775807→
 t6 n n_1 l→
 (MI n n_1 l n n_1 0 l∧True)∧
 ∀ (n_2 n_3 n_4:Int) (l_1:List (List CD)),
 l_1.length≤9223372036854775807→
 MI n n_1 l n_2 n_3 n_4 l_1→
 bif decide (n_4 < n_3) then
 ((-9223372036854775808:Int)≤8*n_4∧(8:Int)*n_4≤9223372036854775807)∧
 (0:Int)≤8*n_4∧
 ((l_1.length+1)*1≤140737488355328∧l_1.length+1≤9223372036854775807)∧
 ((-9223372036854775808:Int)≤n_4+1∧n_4+1≤9223372036854775807)∧
 MI n n_1 l n_2 n_3 (n_4+1)
 (l_1++ [[CD.int (IntKind.u8.wrap (aw IntKind.i64 n_2 ((8:Int)*n_4)))]])∧
 (n_3 - (n_4+1)).toNat < (n_3 - n_4).toNat
 else l_1=l++ah (fI n n_1.toNat)
theorem e78:av Gi Tryz.f78 Kh ZL=P78:=by kernel_rfl
noncomputable def GN:ai:=al Gi 78 (ag Kh)
def P40:Prop:= ∀ (n n_1 n_2:Int) (l:List UInt8),
 l.length≤9223372036854775807→
 True→
 True∧
 bif decide (cH n n_1 n_2 l≠0) then
 cH n n_1 n_2 l=cH n n_1 n_2 l∧ [] =lG n n_1 n_2 l
 else
 t6 n_2 4 [[CD.int (IntKind.u8.wrap n)],[CD.int (IntKind.u8.wrap n_1)]] ∧
 t6 ↑l.length 2
 ([[CD.int (IntKind.u8.wrap n)],[CD.int (IntKind.u8.wrap n_1)]] ++
 ah (fI n_2 4))∧
 (((8:Nat)+(ah l).length)*1≤140737488355328∧(8:Nat)+(ah l).length≤9223372036854775807)∧
 0=cH n n_1 n_2 l∧
 [[CD.int (IntKind.u8.wrap n)],[CD.int (IntKind.u8.wrap n_1)]] ++
 ah (fI n_2 4)++
 ah (fI ↑l.length 2)++
 ah l=
 lG n n_1 n_2 l
theorem e40:av GN Tryz.f40 KB au=P40:=by kernel_rfl
noncomputable def Fd:ai:=al GN 40 (ag KB)
end Go.Proofs.YteiecapbaeajdaaGreatDoor
namespace Go.Proofs.YteiecapbaeajdaaGreatDoor
open Go Go.Avc Go.Proofs
set_option linter.unusedVariables false
set_option linter.unusedSimpArgs false
set_option maxRecDepth 100000
theorem ab {b:Bool} {X Y:Prop} (h:b=true→X) (k:b=false→Y):bif b then X else Y:=by
  cases b with
  | true=>exact h rfl
  | false=>exact k rfl
theorem afh:P48:=by
  intro a b c l hl _
  unfold cH
  refine ab (fun h=> ?_) fun h1=>ab (fun h=> ?_) fun h2=>ab (fun h=> ?_) fun h3 hl=>ab (fun h=> ?_) fun h4=> ?_
  all_goals simp only [Bool.or_eq_true,Bool.and_eq_true,decide_eq_true_eq,Bool.or_eq_false_iff,Bool.and_eq_false_iff,decide_eq_false_iff_not,ne_eq,Classical.not_not] at *
  all_goals repeat' split
  all_goals omega
theorem acu:af (base.with qN) 48 (ag Kf):=am CV Tryz.func48 (by kernel_rfl) (by kernel_rfl) Tryz.call48 e48 afh
theorem c48:(base.with Hn).Ok:=ae CV acu
theorem v6:∀ {l:List Int} {v:Int},v∉l→jq l v= -1
  | [],_,_=>rfl
  | x::l,v,h=>by
    have h1:x≠v:=fun e=>h (by simp [e])
    have h2:=v6 (l:=l) (v:=v) fun e=>h (by simp [e])
    simp [jq,h1,h2]
theorem vW:∀ {l:List Int} {v:Int} {i:Nat},v∉l.take i→l[i]? =some v→jq l v=i
  | [],_,_,_,h=>by simp at h
  | x::l,v,0,_,h=>by simp at h;simp [jq,h]
  | x::l,v,i+1,h,h'=>by
    have h1:x≠v:=fun e=>h (by simp [e])
    have h2:=vW (l:=l) (v:=v) (i:=i) (fun e=>h (by simp [e])) (by simpa using h')
    simp only [jq,if_neg h1,h2]
    rw [if_neg (by omega)]
    omega
theorem NF {l:List Int} {v:Int} :0≤jq l v↔v∈l:=by
  induction l with
  | nil=>simp [jq]
  | cons x l ih=>
    simp only [jq,List.mem_cons]
    split
    · rename_i h;simp [h]
    · rename_i h
      have:v≠x:=fun e=>h e.symm
      rw [or_iff_right this,← ih]
      split <;>omega
theorem Ea {l:List (List CD)} {i:Nat} (h:i<l.length):(eQ l)[i]? =some ((l.getD i []).getD 0 .d0).toInt:=by
  simp [eQ,h]
theorem wN (l:List (List CD)):(eQ l).length=l.length:=by simp [eQ]
theorem WU:Rg:=by
  intro l v hl _ _
  refine ⟨⟨⟨rfl,rfl,rfl,by omega,by omega,by simp⟩,trivial⟩,?_⟩
  rintro l' v' n i hl' ⟨rfl,rfl,rfl,h0,h1,h2⟩
  refine ab (fun h=> ?_) fun h=> ?_
  · simp only [decide_eq_true_eq] at h
    have hlt:i.toNat<l'.length:=by omega
    have hg:=Ea hlt
    refine ⟨⟨h0,h⟩,hlt,ab (fun he=> ?_) fun he=>⟨by omega,⟨rfl,rfl,rfl,by omega,by omega,?_⟩,by omega⟩⟩
    · simp only [decide_eq_true_eq] at he
      rw [vW h2 (by rw [hg,he])]
      omega
    · simp only [decide_eq_false_iff_not] at he
      rw [show (i+1).toNat=i.toNat+1 from by omega,List.take_add_one,hg]
      simp only [Option.toList_some,List.mem_append,List.mem_singleton,not_or]
      exact ⟨h2,he⟩
  · simp only [decide_eq_false_iff_not] at h
    rw [v6]
    rw [List.take_of_length_le (by rw [wN];omega)] at h2
    exact h2
theorem Vx:af (base.with Hn) 168 (ag E1):=am c48 Tryz.func168 (by kernel_rfl) (by kernel_rfl) Tryz.call168 aeC WU
theorem Qs:(base.with xk).Ok:=ae c48 Vx
theorem Vh:Ri:=fun l n _ _=>⟨trivial,by rw [decide_eq_decide];exact NF⟩
theorem Yq:af (base.with xk) 128 (ag GI):=am Qs Tryz.func128 (by kernel_rfl) (by kernel_rfl) Tryz.call128 afo Vh
theorem PU:(base.with yX).Ok:=ae Qs Yq
theorem Z5:Tw:=by
  intro a _
  refine ab (fun h=> ?_) fun h1=>ab (fun h=> ?_) fun h2=>ab (fun h=> ?_) fun h3=> ?_
  all_goals simp only [decide_eq_true_eq,decide_eq_false_iff_not] at *
  all_goals simp [ia,dy,gL, *]
theorem Vf:af (base.with yX) 127 (ag Hm):=am PU Tryz.func127 (by kernel_rfl) (by kernel_rfl) Tryz.call127 acy Z5
theorem OA:(base.with xT).Ok:=ae PU Vf
theorem IL (l:List Int):eQ (gL l)=l:=by simp [eQ,gL,CD.toInt,Function.comp_def]
theorem BF (l:List Int):(gL l).length=l.length:=by simp [gL]
theorem ad6:P77:=by
  intro a b c l hl _
  refine ⟨trivial,fun _=> ?_⟩
  rw [IL,BF]
  have ht:a=1∨a=2∨a=3∨(a≠1∧a≠2∧a≠3):=by omega
  have e1:dy 1= [1,2,3,4] :=rfl
  have e2:dy 2= [1,3] :=rfl
  have e3:dy 3= [0] :=rfl
  have m1:ia 1=1048576:=rfl
  have m2:ia 2=1048576:=rfl
  have m3:ia 3=1:=rfl
  rcases ht with rfl | rfl | rfl | ⟨h1,h2,h3⟩
  · rw [e1,m1]
    refine ⟨trivial,ab (fun h=> ?_) fun h1=>ab (fun h=> ?_) fun h2 hl=>ab (fun h=> ?_) fun h3=> ?_⟩
    all_goals simp only [Bool.not_eq_true',Bool.not_eq_false',decide_eq_true_eq,decide_eq_false_iff_not,Bool.or_eq_true,Bool.or_eq_false_iff,List.mem_cons,List.not_mem_nil,or_false] at *
    all_goals unfold cH
    all_goals repeat' split
    all_goals omega
  · rw [e2,m2]
    refine ⟨trivial,ab (fun h=> ?_) fun h1=>ab (fun h=> ?_) fun h2 hl=>ab (fun h=> ?_) fun h3=> ?_⟩
    all_goals simp only [Bool.not_eq_true',Bool.not_eq_false',decide_eq_true_eq,decide_eq_false_iff_not,Bool.or_eq_true,Bool.or_eq_false_iff,List.mem_cons,List.not_mem_nil,or_false] at *
    all_goals unfold cH
    all_goals repeat' split
    all_goals omega
  · rw [e3,m3]
    refine ⟨trivial,ab (fun h=> ?_) fun h1=>ab (fun h=> ?_) fun h2 hl=>ab (fun h=> ?_) fun h3=> ?_⟩
    all_goals simp only [Bool.not_eq_true',Bool.not_eq_false',decide_eq_true_eq,decide_eq_false_iff_not,Bool.or_eq_true,Bool.or_eq_false_iff,List.mem_cons,List.not_mem_nil,or_false] at *
    all_goals unfold cH
    all_goals repeat' split
    all_goals omega
  · have e:dy a= [] :=by simp [dy,h1,h2,h3]
    rw [e]
    refine ab (fun h=> ?_) fun h=>by simp at h
    unfold cH
    rw [if_pos (by omega)]
theorem aeN:af (base.with xT) 77 (ag K4):=am OA Tryz.func77 (by kernel_rfl) (by kernel_rfl) Tryz.call77 e77 ad6
theorem c77:(base.with Gi).Ok:=ae OA aeN
theorem qu (m:Int):IntKind.u8.wrap m=m%256:=by
  simp [IntKind.wrap,IntKind.signed,IntKind.bits]
theorem lq (n:Int) (i:Nat):((mT n i).toNat:Int)=n / 256 ^ i%256:=by
  have h0:0≤n / 256 ^ i%256:=Int.emod_nonneg _ (by decide)
  have h1:n / 256 ^ i%256<256:=Int.emod_lt_of_pos _ (by decide)
  simp only [mT,UInt8.toNat_ofNat']
  omega
theorem Ly {n i:Int} (h0:0≤i) (h:i<8):IntKind.u8.wrap (aw .i64 n (8*i))=((mT n i.toNat).toNat:Int):=by
  rw [qu,lq]
  obtain ⟨k,rfl⟩:∃ k:Nat,i=k:=⟨i.toNat,by omega⟩
  unfold aw
  have e:min (8*(k:Int)).toNat (IntKind.bits .i64)=8*k:=by simp [IntKind.bits];omega
  rw [e,Int.fdiv_eq_ediv_of_nonneg _ (by exact Int.le_of_lt (Int.pow_pos (by decide))),Int.pow_mul,Int.toNat_natCast]
  rfl
theorem wz (n:Int) (i:Nat):fI n (i+1)=fI n i++ [mT n i] :=by simp [fI,List.range_succ]
theorem fg (a b:List UInt8):ah (a++b)=ah a++ah b:=by simp [ah]
theorem aZ (a:List UInt8):(ah a).length=a.length:=by simp [ah]
theorem jY (n:Int) (w:Nat):(fI n w).length=w:=by simp [fI]
theorem eL (a:List UInt8):aa (ah a)=a:=by
  simp only [aa,ah,List.map_map]
  refine (List.map_congr_left fun x _=> ?_).trans (List.map_id a)
  simp [CD.toInt]
theorem aci:P78:=by
  rintro n w l hl ⟨hn,hw0,hw8,hlen⟩
  refine ⟨⟨⟨rfl,rfl,by omega,hw0,by simp [fI,ah]⟩,trivial⟩,?_⟩
  rintro n' w' i out hout ⟨rfl,rfl,h0,h1,rfl⟩
  refine ab (fun h=> ?_) fun h=> ?_
  · simp only [decide_eq_true_eq] at h
    have hb:i.toNat≤8:=by omega
    simp only [List.length_append,aZ,jY,List.length_cons,List.length_nil] at *
    refine ⟨by omega,by omega,by omega,by omega,⟨rfl,rfl,by omega,by omega,?_⟩,by omega⟩
    rw [Ly h0 (by omega),show (i+1).toNat=i.toNat+1 from by omega,wz,fg,List.append_assoc]
    rfl
  · simp only [decide_eq_false_iff_not] at h
    rw [show i=w' from by omega]
theorem afp:af (base.with Gi) 78 (ag Kh):=am c77 Tryz.func78 (by kernel_rfl) (by kernel_rfl) Tryz.call78 e78 aci
theorem c78:(base.with GN).Ok:=ae c77 afp
theorem BE {a b c:Int} {l:List UInt8} (h:cH a b c l=0):1≤a∧a≤3∧0≤b∧b≤4∧1≤c∧c≤1048576∧(a=3→c=1)∧(a=1→1≤b)∧(a=2→b=1∨b=3)∧(a=3→b=0)∧l.length≤255:=by
  unfold cH at h
  repeat' split at h
  all_goals omega
theorem Bx {a:Int} (h0:0≤a) (h:a<256): [CD.int (IntKind.u8.wrap a)] = [CD.int ((mT a 0).toNat:Int)] :=by
  rw [qu,lq];simp
theorem aeD:P40:=by
  intro a b c l hl hpre
  refine ⟨trivial,ab (fun h=> ?_) fun h=> ?_⟩
  · simp only [ne_eq,decide_not,Bool.not_eq_true',decide_eq_false_iff_not] at h
    exact ⟨rfl,by rw [lG,if_neg h]⟩
  · simp only [ne_eq,decide_not,Bool.not_eq_false',decide_eq_true_eq] at h
    obtain ⟨h1,h2,h3,h4,h5,h6,_,_,_,_,h7⟩:=BE h
    simp only [List.length_append,aZ,jY,List.length_cons,List.length_nil,t6] at *
    refine ⟨⟨by omega,by omega,by omega,by omega⟩,⟨by omega,by omega,by omega,by omega⟩,⟨by omega,by omega⟩,h.symm,?_⟩
    rw [lG,if_pos h,zw,Bx (by omega) (by omega),Bx (by omega) (by omega)]
    simp only [fg]
    rfl
theorem ab3:af (base.with GN) 40 (ag KB):=am c78 Tryz.func40 (by kernel_rfl) (by kernel_rfl) Tryz.call40 e40 aeD
theorem c40:(base.with Fd).Ok:=ae c78 ab3
end Go.Proofs.YteiecapbaeajdaaGreatDoor
namespace Go.Proofs.YteiecapbaeajdaaGreatDoor
open Go.Avc
set_option linter.unusedVariables false
structure It where
  k:Int
  t:Int
  c:Int
  l:List UInt8
  deriving DecidableEq
def i7 (r:List CD):It:=⟨(r.getD 0 .d0).toInt,(r.getD 1 .d0).toInt,(r.getD 2 .d0).toInt,(r.getD 3 .d0).toStr⟩
def Zg (x:It):List CD:= [.int x.k,.int x.t,.int x.c,.str x.l]
def aE (l:List (List CD)):List It:=l.map i7
def aF (l:List It):List (List CD):=l.map Zg
def sM (a b c a' b' c':Int):Bool:=decide (a=a')&&(decide (b=b')&&decide (c=c'))
def cq:List UInt8→Nat
  | [] =>0
  | b::l=>b.toNat+256*cq l
def cI (l:List (List CD)):Prop:=l=ah (aa l)
def aeM:It:=⟨0,0,0,[]⟩
def rE (b:List UInt8):It:=⟨cq (b.take 1),cq ((b.drop 1).take 1),cq ((b.drop 2).take 4),(b.drop 8).take (cq ((b.drop 6).take 2))⟩
def ir (b:List UInt8):Int:=
  if b.length<8∨b.length<8+cq ((b.drop 6).take 2) then 2 else cH (rE b).k (rE b).t (rE b).c (rE b).l
def dM (b:List UInt8):It:=if ir b=0 then rE b else aeM
def lX (b:List UInt8):List UInt8:=if ir b=0 then b.drop (8+cq ((b.drop 6).take 2)) else []
def DZ:Ct:= {ps:= [qw,qw],bs:= [],pre:=fun _=>True,res:=fun | [.i a,.i b,.i c,_,.i a',.i b',.i c',_] => .ret .bool [] [.b (sM a b c a' b' c')] | _=>aj}
def W4 (n w:Int):Prop:=0≤n∧n≤1000000000∧0≤w∧w≤8
def Mr (n w n' w' i:Int) (out:List (List CD)):Prop:=n'=n / 256 ^ i.toNat∧w'=w∧0≤i∧i≤w∧out=ah (fI n i.toNat)
def agz:List Dat→Ann
  | [.i n,.i w] => {cut:= [],loop:= [(3,[la 22 [(0,i64),(1,i64),(5,.own 0),(6,i64)] [.own 5 iO] (fun | [.i n',.i w',.i i,.r out] =>Mr n w n' w' i out | _=>False) (fun | [_,.i w',.i i,_] =>(w'-i).toNat | _=>0)])]}
  | _=> {cut:= [],loop:= []}
def YN (l:List (List CD)):Prop:=cI l∧l.length≤7
def agA:Ct:= {ps:= [.rd iO],bs:= [],pre:=fun | [.r l] =>YN l | _=>False,res:=fun | [.r l] => .ret i64 [] [.i (cq (aa l))] | _=>aj}
def pQ (l:List (List CD)):Prop:=l.length≤100000000
def Fi:Ct:= {ps:= [.rd iO],bs:= [],pre:=fun | [.r l] =>pQ l | _=>False,res:=fun | [.r l] => .ret (.own 0) [.own 5 iO] [.r l] | _=>aj}
abbrev tJ:BPat:= .cells 295 [.rd iO,.bool]
def m9 (n:Int):Prop:=0≤n
def dO (l:List (List CD)) (n:Int):List (List CD):=if (l.length:Int)<n then [] else l.take n.toNat
def aW (l:List (List CD)) (n:Int):List (List CD):=if (l.length:Int)<n then l else l.drop n.toNat
def kF (l:List (List CD)) (n:Int) (sh:Bool):Bool:=decide ((l.length:Int)<n)||sh
def EH:Ct:= {ps:= [.ptr 0 0,i64],bs:= [tJ],pre:=fun | [.i n,_,_] =>m9 n | _=>False,res:=fun | [.i n,.r l,.b sh] => .ret (.rd iO) [tJ] [.r (dO l n),.r (aW l n),.b (kF l n sh)] | _=>aj}
def nu (w:Int) (l:List (List CD)):Prop:=0≤w∧w≤7∧cI l
def FE:Ct:= {ps:= [.ptr 0 0,i64],bs:= [tJ],pre:=fun | [.i w,.r l,_] =>nu w l | _=>False,res:=fun | [.i w,.r l,.b sh] => .ret i64 [tJ] [.i (cq (aa (dO l w))),.r (aW l w),.b (kF l w sh)] | _=>aj}
def EE (w:Int) (l:List (List CD)) (sh:Bool) (n:Int) (tk:List (List CD)) (m i:Int) (rest:List (List CD)) (sh':Bool):Prop:=tk=dO l w∧m=tk.length∧0≤i∧i≤m∧rest=aW l w∧sh'=kF l w sh∧n=cq ((aa tk).take i.toNat)
def UL:List Dat→Ann
  | [.i w,.r l,.b sh] => {cut:= [],loop:= [(3,[la 26 [(5,i64),(10,.rd iO),(11,i64),(12,i64)] [tJ] (fun | [.i n,.r tk,.i m,.i i,.r rest,.b sh'] =>EE w l sh n tk m i rest sh' | _=>False) (fun | [_,_,.i m,.i i,_,_] =>(m-i).toNat | _=>0)])]}
  | _=> {cut:= [],loop:= []}
def dY (l:List (List CD)):Prop:=cI l∧l.length≤100000000
def GO:Ct:= {ps:= [.rd iO],bs:= [],pre:=fun | [.r l] =>dY l | _=>False,res:=fun | [.r l] => .ret (.tup [qw,.own 0,i64]) [.own 5 iO] [.i (dM (aa l)).k,.i (dM (aa l)).t,.i (dM (aa l)).c,.s (dM (aa l)).l,.i (ir (aa l)),.r (ah (lX (aa l)))] | _=>aj}
end Go.Proofs.YteiecapbaeajdaaGreatDoor
