/-
 AVC, part ZD: a function that begins by deferring a closure which does nothing where nobody panics.
-/
import Derived.Test.YteiecapbaeajdaaGreatDoorJ4
import Derived.Recover
import Derived.Test.YteiecapbaeajdaaGreatDoorJ6
import Derived.Laws.Externs
import Derived.Laws.MathBits
namespace Go.Avc
set_option linter.unusedVariables false
set_option linter.unusedSimpArgs false
def JH (P:Program) (f:FuncId) (n:Nat):Prop:=∀ (vs:Array Value) (w:World),vs.size=n→(callFunc f vs).run P w= .ok (.enter f vs) w∧CallsD P f vs .returning w fun e u w'=>(∃ v,e= .returned v)∧u= .returning∧w'=w
section
variable (C:Ctx) (n0:Nat) (ann:Ann)
def evD (x:Code) (o1 o2:Oper) (t:Tmp) (fc nc:Nat) (z:Code) (s:ES) (Q:Exit→ES→Prop):Prop:=
 kx C n0 ann x s fun e s=>match e with
  | .normal=>iS C #[o1,o2] [o1] s fun s=>s.clr fun s=>(match s.ev C.glob (.tmp t) with
   | .fn f caps=>bif Nat.beq f fc&&Nat.beq caps.length nc then kx C n0 ann z s Q else Miss 5 eS
   | _=>Miss 5 eS)
  | _=>False
end
def Ct.VCD (C:Ctx) (ct:Ct) (rs:List ResultVar) (nt k:Nat) (x:Code) (o1 o2:Oper) (t:Tmp) (fc nc:Nat) (z:Code) (ann:List Dat→Ann):Prop:=
 ct.VCG fun svs hp ds=>evD C ct.bs.length (ann ds) x o1 o2 t fc nc z ⟨nt,[],svs++List.replicate k SV.dead,hp,[]⟩ (qR C.P rs fun sv hp'=>(ct.res ds).ok ct.bs.length sv hp')
theorem Mem.ent {C:Ctx} {E:Ent} {hp:List Blk} {Im:Nat→Prop} {ι:Nat→Option Value} {w:World} (m:Mem C E hp Im ι w) (D:List Deferred):Mem C {E with dfr:=D} hp Im ι w:=
 ⟨m.hv,⟨m.mr.imlt,m.mr.imm,m.mr.sep,m.mr.mine⟩,⟨m.since.os,m.since.tape,m.since.output,m.since.size,m.since.block,m.since.hd,m.since.im,m.since.imnew⟩,m.glob⟩
theorem Mem.ent' {C:Ctx} {E:Ent} {hp:List Blk} {Im:Nat→Prop} {ι:Nat→Option Value} {w:World} {D:List Deferred} (m:Mem C {E with dfr:=D} hp Im ι w):Mem C E hp Im ι w:=
 ⟨m.hv,⟨m.mr.imlt,m.mr.imm,m.mr.sep,m.mr.mine⟩,⟨m.since.os,m.since.tape,m.since.output,m.since.size,m.since.block,m.since.hd,m.since.im,m.since.imnew⟩,m.glob⟩
theorem KC {C:Ctx} (hC:C.Ok) {f:FuncId} {fn:Func} {x z:Code} {i1:Nat} {o1 o2:Oper} {t:Tmp} {fc nc:Nat} (hf:C.P.funcs[f]? =some fn) (hb:fn.body=some (.seq x (.seq (.region i1 #[o1,o2] false) z)))
  (ho2:o2.op= .defer ⟨.value (.tmp t),#[],#[]⟩) (hg2:o2.guard=none) (hd2:o2.dst=none) (hidle:JH C.P fc nc) (ann:Ann) {svs:List SV} {hp:List Blk} {r:Res} {k:Nat} (hn:fn.ntmps-svs.length=k) (hn2:svs.length+k=fn.ntmps)
  {E:Ent} {Im:Nat→Prop} {ι:Nat→Option Value} {w:World} (hE:∀ b,hp.length≤b→E.ι b=none)
  (h:evD C hp.length ann x o1 o2 t fc nc z ⟨fn.ntmps,[],svs++List.replicate k SV.dead,hp,[]⟩ (qR C.P fn.results.toList fun sv hp'=>r.ok hp.length sv hp')) {vs:List Value} (hD:E.dfr= []) (hm:Mem C E hp Im ι w) (hF:oQ hp.length ι) (hv:VRels Im ι w svs vs):
  Calls C.P f vs.toArray w (cq C E Im ι w hp.length r):=by
 refine calls_of_wp_defers hf hb ?_
 have hlen:=gj hv
 refine wp_seq (eJ (E:=E) (B:=⟨w,Im,ι,fun b=>b<hp.length,[]⟩) (n0:=hp.length) hC ann hE hF (fun b hb=>hb) x _ _ _ _ _ (sK (by simp [hn2])) ⟨Im,ι,⟨hD.symm,?_,fun t=> ?_,hm⟩,hF,⟨Later.refl _ _ _,fun b hb=>⟨hb,rfl⟩⟩⟩ h fun e s a w' kk hs rr=> ?_)
 ·show _=(aN [] (svs++List.replicate k SV.dead)).length
  simp [hlen,hn,aN]
 ·show VRel Im ι w (aM (svs++List.replicate k SV.dead) t) _
  rw [lJ]
  split
  ·rename_i ht
   obtain ⟨v,h1,h2⟩:=nI hv t ht
   have:(vs.toArray++Array.replicate (fn.ntmps-vs.toArray.size) undef).getD t undef=v:=by
    rw [Array.getD_eq_getD_getElem?,Array.getElem?_append_left (by simp;omega)]
    simp [h1]
   rw [this]
   exact h2
  ·rw [kY]
   split <;>trivial
 ·cases e with
  | normal=>
   have hops:=n5 [o1] s hs kk
   refine wp_seq (wp_region ?_)
   show wpOps C.P #[o1,o2] _ [0,1] a w'
   have second:∀ s' a1 w1,Next (fun s=>s.clr fun s=>(match s.ev C.glob (.tmp t) with
     | .fn f caps=>bif Nat.beq f fc&&Nat.beq caps.length nc then kx C hp.length ann z s (qR C.P fn.results.toList fun sv hp'=>r.ok hp.length sv hp') else Miss 5 eS
     | _=>Miss 5 eS)) s'→dH C E ⟨w,Im,ι,fun b=>b<hp.length,[]⟩ s' a1 w1→wpOps C.P #[o1,o2] (Exit.then (z.wp C.P (bodyPostD C.P fn (cq C E Im ι w hp.length r))) (bodyPostD C.P fn (cq C E Im ι w hp.length r))) [1] a1 w1:=by
    intro s' a1 w1 hnx hR1
    obtain ⟨s2,hs2,e2,k2⟩:=hnx
    obtain ⟨s3,hs3,e3,k3⟩:=rG hs2 k2
    obtain ⟨Im1,ι1,hRel,hFr,hA⟩:=hR1
    have hv3:VRel Im1 ι1 w1 (s'.ev C.glob (.tmp t)) (a1.eval (.tmp t)):=qL hRel.tm hRel.mem.glob (.tmp t)
    have hev:s3.ev C.glob (.tmp t)=s'.ev C.glob (.tmp t):=by rw [s3.ev_eq hs3,e3,e2]
    split at k3
    ·rename_i g caps hg
     cases hb2:(Nat.beq g fc&&Nat.beq caps.length nc) with
     | false=>rw [hb2] at k3;cases k3
     | true=>
      rw [hb2] at k3
      simp only [cond_true] at k3
      simp only [cV] at hb2
      cases aD.1 hb2.1
      have hcl:=aD.1 hb2.2
      rw [← hev,hg] at hv3
      obtain ⟨us,hu,hus⟩:=hv3
      have hul:us.toArray.size=nc:=by rw [List.size_toArray,gj hus];exact hcl
      show (if Region.wanted o2 (yielded #[o1,o2] a1.tmps)=true then _ else _)
      rw [if_pos (by simp [Region.wanted,hg2])]
      refine .inl ?_
      have hrun:(execOp a1.eval o2).run C.P w1= .ok (.defer ⟨.fn (.func fc) us.toArray,#[]⟩) w1:=by
       unfold execOp
       rw [ho2]
       simp [resolve,hu,Deferred.ofValue]
      show Oper.upon C.P o2 a1 _ _ ((execOp a1.eval o2).run C.P w1)
      rw [hrun,Oper.upon_defer,hd2]
      subst e2
      show z.wp C.P _ {a1 with defers:=⟨.fn (.func fc) us.toArray,#[]⟩::a1.defers} w1
      refine eJ (E:= {E with dfr:= [⟨.fn (.func fc) us.toArray,#[]⟩]}) (B:=⟨w,Im,ι,fun b=>b<hp.length,[]⟩) (n0:=hp.length) hC ann hE hF (fun b hb=>hb) z s3 _ _ _ w1 hs3 ⟨Im1,ι1,⟨?_,?_,?_,?_⟩,by rw [e3];exact hFr,by rw [e3];exact hA⟩ k3 fun e s4 a4 w4 kk4 hs4 rr4=> ?_
      ·show _::a1.defers=_
       rw [hRel.defers,hD]
      ·rw [e3];exact hRel.size
      ·rw [e3];exact hRel.tm
      ·rw [e3];exact hRel.mem.ent _
      ·obtain ⟨Im',ι',hR,hF',hA'⟩:=rr4
       have key:(match pz C.P s4 fn.results.toList with | some sv=>bN sv fun sv=>Res.ok hp.length r sv s4.hp | none=>Miss 3 eS)→Leaves C.P fn a4.tmps (cq C E Im ι w hp.length r) a4.defers .returning w4:=fun kk=>by
        rw [te hs4] at kk
        split at kk
        ·rename_i sv hsv
         rw [aX] at kk
         obtain ⟨v,h1,h2⟩:=sH hR hsv
         have hres:cq C E Im ι w hp.length r (.returned v) w4:=mw hC hE hA'.later hF (fun b hb=>(hA'.keep b hb).2) hR.mem.ent' h2 _ kk
         rw [hR.defers]
         have hid:=hidle us.toArray w4 hul
         refine leaves_cons (by simp) (f:=fc) (args:=us.toArray) ?_ (CallsD.mono hid.2 fun e u' w' h=> ?_)
         ·show (callFunc fc (#[] ++us.toArray)).run C.P w4=_
          rw [Array.empty_append];exact hid.1
         ·obtain ⟨⟨v0,rfl⟩,rfl,rfl⟩:=h
          exact ⟨v,h1,hres⟩
        ·cases kk
       cases e with
       | normal=>exact key kk4
       | ret=>exact key kk4
       | exit id=>exact kk4.elim
       | goto l=>exact kk4.elim
       | panic ch=>exact kk4.elim
       | outgrown=>exact kk4.elim
    ·cases k3
   show (if Region.wanted o1 (yielded #[o1,o2] a.tmps)=true then _ else _)
   rcases qq (Q:=Exit.then (z.wp C.P (bodyPostD C.P fn (cq C E Im ι w hp.length r))) (bodyPostD C.P fn (cq C E Im ι w hp.length r))) hC rr (mW hops) with ⟨h1,h2⟩ | ⟨h1,s',h2,h3⟩
   ·rw [if_pos h1]
    exact .inl (Oper.wp_mono (fun a w ⟨s',k,r⟩=>second s' a w k r) h2)
   ·rw [if_neg (by simp [h1])]
    exact second s' _ w' h2 h3
  | exit id=>exact kk.elim
  | goto l=>exact kk.elim
  | ret=>exact kk.elim
  | panic ch=>exact kk.elim
  | outgrown=>exact kk.elim
theorem Si {C:Ctx} (hC:C.Ok) {f:FuncId} {fn:Func} {x z:Code} {i1:Nat} {o1 o2:Oper} {t:Tmp} {fc nc:Nat} (hf:C.P.funcs[f]? =some fn) (hb:fn.body=some (.seq x (.seq (.region i1 #[o1,o2] false) z)))
  (ho2:o2.op= .defer ⟨.value (.tmp t),#[],#[]⟩) (hg2:o2.guard=none) (hd2:o2.dst=none) (hidle:JH C.P fc nc) (ann:List Dat→Ann) {ct:Ct} {k:Nat} (hlenps:ct.ps.length+k=fn.ntmps) (hcall:∀ vs:Array Value,∀ w,vs.size=ct.ps.length→(callFunc f vs).run C.P w= .ok (.enter f vs) w)
  (hvc:ct.VCD C fn.results.toList fn.ntmps k x o1 o2 t fc nc z ann):da C f (ap ct):=by
 refine u6 hC (fun svs hp ds=>evD C ct.bs.length (ann ds) x o1 o2 t fc nc z ⟨fn.ntmps,[],svs++List.replicate k SV.dead,hp,[]⟩ (qR C.P fn.results.toList fun sv hp'=>(ct.res ds).ok ct.bs.length sv hp')) (fun svs hp ds E Im ι w vs h h1 h2 hD hE hm hF hv=> ?_) hcall hvc
 rw [← h2] at h
 exact KC hC hf hb ho2 hg2 hd2 hidle (ann ds) (k:=k) (by omega) (by omega) hE h hD hm hF hv
end Go.Avc
namespace Go.Proofs.YteiecapbaeajdaaGreatDoor
open Go Go.Avc Go.Proofs
set_option linter.unusedVariables false
set_option maxRecDepth 100000
open Go.Avc
set_option linter.unusedSimpArgs false
open Go Go.Avc
noncomputable section
def di (x y c:Int):Int:=(x+y+c)%18446744073709551616
def dj (x y c:Int):Int:=(x+y+c) / 18446744073709551616
def iQ (x y c:Int):Int:=(x+18446744073709551616-y-c)%18446744073709551616
def bE (x y c:Int):Int:=if x<y+c then 1 else 0
def Sk:List SV→List Blk→CR:=fun svs hp=>match svs with
 | [.int .u64 x,.int .u64 y,.int .u64 c] => .need (al x∧al y∧0≤c∧c≤1) (.ret (.tup [.int .u64 (di x y c),.int .u64 (dj x y c)]) [] [])
 | _=> .bad
def Sh:List SV→List Blk→CR:=fun svs hp=>match svs with
 | [.int .u64 x,.int .u64 y,.int .u64 c] => .need (al x∧al y∧0≤c∧c≤1) (.ret (.tup [.int .u64 (iQ x y c),.int .u64 (bE x y c)]) [] [])
 | _=> .bad
def HB:Array Value→Sem Value:=fun args=>do
 let (x,y,b) ← Extern.MathBitsCarry.three "Sub64" args
 pure (Extern.MathBitsCarry.pair ((x+Extern.MathBitsCarry.m64-y-b)%Extern.MathBitsCarry.m64) (if x<y+b then 1 else 0))
theorem Iu {P:Program} (x y b:Nat) (hb:b≤1) (w:World):
  (HB #[.int .u64 x,.int .u64 y,.int .u64 b]).run P w= .ok (.tuple #[.int .u64 (((x+18446744073709551616-y-b)%18446744073709551616:Nat):Int),.int .u64 ((if x<y+b then 1 else 0:Nat):Int)]) w:=by
 have:b=0∨b=1:=by omega
 rcases this with rfl | rfl <;>rfl
theorem ahW {sp:af} :da (base.with sp) 190 Sk:=by
 intro svs hp K R h E Im ι w vs hm hRn hv
 unfold Sk at h
 split at h
 ·rename_i x y c
  obtain ⟨⟨hx,hy,h0,h1⟩,hK,_⟩:=h
  obtain ⟨_,_,rfl,rfl,_,_,rfl,rfl,_,_,rfl,rfl,rfl⟩:=hv
  refine .inr ⟨.tuple #[.int .u64 (di x y c),.int .u64 (dj x y c)],?_,_,SV.tup [.int .u64 (di x y c),.int .u64 (dj x y c)],hp,Im,ι,rfl,by rw [List.append_nil] at hK;exact hK,⟨_,rfl,_,_,rfl,rfl,_,_,rfl,rfl,rfl⟩,hm,Nat.le_refl _,fun _ _=>rfl,Later.refl _ _ _⟩
  show (callFunc 190 #[.int .u64 x,.int .u64 y,.int .u64 c]).run Tryz.prog w=_
  rw [run_callFunc_extern Tryz.func190 (by kernel_rfl) (by kernel_rfl) (by kernel_rfl) (e:=add64Entry) (by kernel_rfl),run_add64 x y c hx.1 hy.1 h0 h1]
  rfl
 ·exact h.elim
theorem aih {sp:af} :da (base.with sp) 230 Sh:=by
 intro svs hp K R h E Im ι w vs hm hRn hv
 unfold Sh at h
 split at h
 ·rename_i x y c
  obtain ⟨⟨hx,hy,h0,h1⟩,hK,_⟩:=h
  obtain ⟨_,_,rfl,rfl,_,_,rfl,rfl,_,_,rfl,rfl,rfl⟩:=hv
  refine .inr ⟨.tuple #[.int .u64 (iQ x y c),.int .u64 (bE x y c)],?_,_,SV.tup [.int .u64 (iQ x y c),.int .u64 (bE x y c)],hp,Im,ι,rfl,by rw [List.append_nil] at hK;exact hK,⟨_,rfl,_,_,rfl,rfl,_,_,rfl,rfl,rfl⟩,hm,Nat.le_refl _,fun _ _=>rfl,Later.refl _ _ _⟩
  show (callFunc 230 #[.int .u64 x,.int .u64 y,.int .u64 c]).run Tryz.prog w=_
  have hx':=hx;have hy':=hy
  unfold al at hx' hy'
  obtain ⟨a,rfl⟩:=Int.eq_ofNat_of_zero_le hx'.1
  obtain ⟨b,rfl⟩:=Int.eq_ofNat_of_zero_le hy'.1
  obtain ⟨d,rfl⟩:=Int.eq_ofNat_of_zero_le h0
  rw [run_callFunc_extern Tryz.func230 (by kernel_rfl) (by kernel_rfl) (by kernel_rfl) (e:=HB) (by kernel_rfl),Iu a b d (by omega)]
  have e1:(((a+18446744073709551616-b-d)%18446744073709551616:Nat):Int)=iQ a b d:=by unfold iQ;omega
  have e2:((if a<b+d then 1 else 0:Nat):Int)=bE a b d:=by
   unfold bE
   by_cases h:a<b+d
   ·rw [if_pos h,if_pos (by omega)];rfl
   ·rw [if_neg h,if_neg (by omega)];rfl
  rw [e1,e2]
  rfl
 ·exact h.elim
def Tt:af:=aj TR 190 Sk
theorem aq6:(base.with Tt).Ok:=ac ap0 ahW
def Ug:af:=aj Tt 230 Sh
theorem acL:(base.with Ug).Ok:=ac aq6 aih
abbrev a4:Pat:= .arrI 4 .u64
abbrev w4:Pat:= .agg [a4]
abbrev q4:BPat:= .cells 74 [a4]
def pW:List Int:= [4891460686036598785,2896914383306846353,13281191951274694749,3486998266802970665]
def gI (l:List Int) (i:Nat):Int:=l.getD i 0
def cB (a b:List Int):Nat→List Int×Int
 | 0=>([0,0,0,0],0)
 | i+1=>((cB a b i).1.set i (iQ (gI a i) (gI b i) (cB a b i).2),bE (gI a i) (gI b i) (cB a b i).2)
def fv (a b:List Int):Nat→List Int×Int
 | 0=>([0,0,0,0],0)
 | i+1=>((fv a b i).1.set i (di (gI a i) (gI b i) (fv a b i).2),dj (gI a i) (gI b i) (fv a b i).2)
def jn (a:List Int):List Int:=if (cB a pW 4).2=0 then (cB a pW 4).1 else a
def ee (a x y c:Int):Int:=(a+x*y+c)%18446744073709551616
def cY (a x y c:Int):Int:=(a+x*y+c) / 18446744073709551616
def Lw:Nat→Int
 | 0=>1
 | i+1=>IntKind.u64.wrap (Lw i*IntKind.u64.wrap (2-IntKind.u64.wrap (4891460686036598785*Lw i)))
def inv:Int:=14042775128853446655
def aiY:Ct:= {ps:= [],bs:= [],pre:=fun _=>True,res:=fun _=> .ret w4 [] [.li pW]}
def aj3:Ct:= {ps:= [w4,w4],bs:= [],pre:=fun | [.li a,.li b] =>aq a∧aq b | _=>False,res:=fun | [.li a,.li b] => .ret (.tup [w4,u64]) [] [.li (cB a b 4).1,.i (cB a b 4).2] | _=>ag}
def afx:List Dat→Ann
 | [.li a,.li b] => {cut:= [],loop:= [(2,[la 26 [(2,.ptr 0 0),(3,.ptr 1 0),(4,.ptr 2 0),(5,u64),(7,i64)] [q4,q4,q4] (fun | [.i c,.i i,.li a',.li b',.li o] =>a'=a∧b'=b∧0≤i∧i≤4∧o=(cB a b i.toNat).1∧c=(cB a b i.toNat).2 | _=>False) (fun | [_,.i i,_,_,_] =>(4-i).toNat | _=>0)])]}
 | _=> {cut:= [],loop:= []}
def akF:Ct:= {ps:= [w4,w4],bs:= [],pre:=fun | [.li a,.li b] =>aq a∧aq b | _=>False,res:=fun | [.li a,.li b] => .ret w4 [] [.li (fv a b 4).1] | _=>ag}
def acx:List Dat→Ann
 | [.li a,.li b] => {cut:= [],loop:= [(3,[la 25 [(2,.ptr 0 0),(3,.ptr 1 0),(4,.ptr 2 0),(5,u64),(7,i64)] [q4,q4,q4] (fun | [.i c,.i i,.li a',.li b',.li o] =>a'=a∧b'=b∧0≤i∧i≤4∧o=(fv a b i.toNat).1∧c=(fv a b i.toNat).2 | _=>False) (fun | [_,.i i,_,_,_] =>(4-i).toNat | _=>0)])]}
 | _=> {cut:= [],loop:= []}
def ajV:Ct:= {ps:= [w4],bs:= [],pre:=fun | [.li a] =>aq a | _=>False,res:=fun | [.li a] => .ret w4 [] [.li (jn a)] | _=>ag}
def ahh:Ct:= {ps:= [u64,u64],bs:= [],pre:=fun | [.i x,.i y] =>al x∧al y | _=>False,res:=fun | [.i x,.i y] => .ret (.tup [u64,u64]) [] [.i (x*y / 18446744073709551616),.i (x*y%18446744073709551616)] | _=>ag}
def aiC:Ct:= {ps:= [u64,u64,u64,u64],bs:= [],pre:=fun | [.i a,.i x,.i y,.i c] =>al a∧al x∧al y∧al c | _=>False,res:=fun | [.i a,.i x,.i y,.i c] => .ret (.tup [u64,u64]) [] [.i (ee a x y c),.i (cY a x y c)] | _=>ag}
def alr:Ct:= {ps:= [],bs:= [],pre:=fun _=>True,res:=fun _=> .ret u64 [] [.i inv]}
def aan:List Dat→Ann:=fun _=> {cut:= [],loop:= [(3,[la 16 [(1,u64),(2,u64),(5,i64)] [] (fun | [.i p,.i x,.i i] =>p=4891460686036598785∧0≤i∧i≤6∧x=Lw i.toNat | _=>False) (fun | [_,_,.i i] =>(6-i).toNat | _=>0)])]}
abbrev uV:List Int:=
 [4891460686036598785,2896914383306846353,13281191951274694749,3486998266802970665]
def adu:Prop:=
 True→uV=uV
def VI:af:=aj Ug 142 (ap aiY)
abbrev mY (a:List Int):Prop:=
 a.length=4
abbrev ni (a:Int)(b:List Int):Int:=
 b.getD (a.toNat*1) 0
def ac6:Prop:=
 ∀ (a b:List Int),
 mY a→
 mY b→
 aq a∧aq b→
 ((a=a∧
 b=b∧
 (0:Int)≤0∧
 (0:Int)≤4∧
 [0,0,0,0] =(cB a b 0).fst∧
 0=(cB a b 0).snd)∧
 True)∧
 ∀ (c d:Int) (e f g:List Int),
 mY e→
 mY f→
 mY g→
 e=a∧
 f=b∧
 0≤d∧
 d≤4∧g=(cB a b d.toNat).fst∧c=(cB a b d.toNat).snd→
 bif decide (d<(4:Int)) then
 (0≤d∧d<(↑(4:Nat):Int))∧
 d.toNat*1<(4:Nat)∧
 (0≤d∧d<(↑(4:Nat):Int))∧
 d.toNat*1<(4:Nat)∧
 (al (ni d e)∧
 al (ni d f)∧0≤c∧c≤1)∧
 (0≤d∧d<(↑(4:Nat):Int))∧
 d.toNat*1<(4:Nat)∧
 iR (d+1)∧
 (e=a∧
 f=b∧
 0≤d+1∧
 d+1≤4∧
 g.set (d.toNat*1)
 (iQ (ni d e)
 (ni d f) c)=
 (cB a b (d+1).toNat).fst∧
 bE (ni d e)
 (ni d f) c=
 (cB a b (d+1).toNat).snd)∧
 ((4:Int)-(d+1)).toNat<((4:Int)-d).toNat
 else g=(cB a b 4).fst∧c=(cB a b 4).snd
def S7:af:=aj VI 202 (ap aj3)
def afz:Prop:=
 ∀ (a b:List Int),
 mY a→
 mY b→
 aq a∧aq b→
 ((a=a∧
 b=b∧
 (0:Int)≤0∧
 (0:Int)≤4∧
 [0,0,0,0] =(fv a b 0).fst∧
 0=(fv a b 0).snd)∧
 True)∧
 ∀ (c d:Int) (e f g:List Int),
 mY e→
 mY f→
 mY g→
 e=a∧
 f=b∧
 0≤d∧
 d≤4∧g=(fv a b d.toNat).fst∧c=(fv a b d.toNat).snd→
 bif decide (d<(4:Int)) then
 (0≤d∧d<(↑(4:Nat):Int))∧
 d.toNat*1<(4:Nat)∧
 (0≤d∧d<(↑(4:Nat):Int))∧
 d.toNat*1<(4:Nat)∧
 (al (ni d e)∧
 al (ni d f)∧0≤c∧c≤1)∧
 (0≤d∧d<(↑(4:Nat):Int))∧
 d.toNat*1<(4:Nat)∧
 iR (d+1)∧
 (e=a∧
 f=b∧
 0≤d+1∧
 d+1≤4∧
 g.set (d.toNat*1)
 (di (ni d e)
 (ni d f) c)=
 (fv a b (d+1).toNat).fst∧
 dj (ni d e)
 (ni d f) c=
 (fv a b (d+1).toNat).snd)∧
 ((4:Int)-(d+1)).toNat<((4:Int)-d).toNat
 else g=(fv a b 4).fst
def U7:af:=aj S7 181 (ap akF)
def adF:Prop:=
 ∀ (a:List Int),
 mY a→
 aq a→
 True∧
 (aq a∧aq uV)∧
 bif decide ((cB a uV 4).snd=0) then
 (cB a uV 4).fst=jn a
 else a=jn a
def S8:af:=aj U7 180 (ap ajV)
abbrev Ij (a:Int):Int:=
 dN .u64 a 4294967295
abbrev RX (a b:Int):Int:=
 IntKind.u64.wrap
 (IntKind.u64.wrap (aW .u64 a 32*Ij b)+
 aW .u64 (IntKind.u64.wrap (Ij a*Ij b)) 32)
def aas:Prop:=
 ∀ (a b:Int),
 al a∧al b→
 (0:Int)≤32∧
 (0:Int)≤32∧
 (0:Int)≤32∧
 (0:Int)≤32∧
 (0:Int)≤32∧
 IntKind.u64.wrap
 (IntKind.u64.wrap
 (IntKind.u64.wrap (aW .u64 a 32*aW .u64 b 32)+
 aW .u64 (RX a b) 32)+
 aW .u64
 (IntKind.u64.wrap
 (dN .u64 (RX a b) 4294967295+
 IntKind.u64.wrap (Ij a*aW .u64 b 32)))
 32)=
 a*b / 18446744073709551616∧
 IntKind.u64.wrap (a*b)=a*b%(18446744073709551616:Int)
def Vk:af:=aj S8 215 (ap ahh)
def art:Prop:=
 ∀ (a b c d:Int),
 al a∧al b∧al c∧al d→
 (al b∧al c)∧
 (al (b*c%(18446744073709551616:Int))∧al a∧(0:Int)≤0∧(0:Int)≤1)∧
 (al (di (b*c%(18446744073709551616:Int)) a 0)∧
 al d∧(0:Int)≤0∧(0:Int)≤1)∧
 di (di (b*c%(18446744073709551616:Int)) a 0) d 0=
 ee a b c d∧
 IntKind.u64.wrap
 (IntKind.u64.wrap (b*c / 18446744073709551616+dj (b*c%(18446744073709551616:Int)) a 0)+
 dj (di (b*c%(18446744073709551616:Int)) a 0) d 0)=
 cY a b c d
def Up:af:=aj Vk 189 (ap aiC)
def aax:Prop:=
 True→
 True∧
 ((0:Int)≤0∧(0:Int)<(↑(4:Nat):Int)∧(0:Nat)<(4:Nat))∧
 ((uV.getD 0 0=4891460686036598785∧
 (0:Int)≤0∧(0:Int)≤6∧1=Lw 0)∧
 True)∧
 ∀ (a b c:Int),
 a=4891460686036598785∧0≤c∧c≤6∧b=Lw c.toNat→
 bif decide (c<(6:Int)) then
 iR (c+1)∧
 (a=4891460686036598785∧
 0≤c+1∧
 c+1≤6∧
 IntKind.u64.wrap (b*IntKind.u64.wrap ((2:Int)-IntKind.u64.wrap (a*b)))=Lw (c+1).toNat)∧
 ((6:Int)-(c+1)).toNat<((6:Int)-c).toNat
 else IntKind.u64.wrap ((0:Int)-b)=inv
def VY:af:=aj Up 188 (ap alr)
theorem wz (x y c:Int):al (di x y c):=by unfold al di;omega
theorem Tm (x y c:Int):al (iQ x y c):=by unfold al iQ;omega
theorem Gx {x y c:Int} (hx:al x) (hy:al y) (hc:0≤c∧c≤1):0≤dj x y c∧dj x y c≤1:=by unfold al at hx hy;unfold dj;omega
theorem C5 (x y c:Int):0≤bE x y c∧bE x y c≤1:=by unfold bE;split <;>omega
theorem gu {s:List Int} (h:aq s) {v:Int} (hv:al v) (i:Nat):aq (s.set i v):=fun j=>by
 rw [aw,List.getElem?_set]
 split
 ·split
  ·exact hv
  ·exact bh
 ·rw [← aw];exact h j
theorem Jg:aq [0,0,0,0] :=fun j=>by
 match j with
 | 0=>exact bh
 | 1=>exact bh
 | 2=>exact bh
 | 3=>exact bh
 | _+4=>exact bh
theorem mO:aq pW:=fun j=>by
 match j with
 | 0=>exact ⟨by decide,by decide⟩
 | 1=>exact ⟨by decide,by decide⟩
 | 2=>exact ⟨by decide,by decide⟩
 | 3=>exact ⟨by decide,by decide⟩
 | _+4=>exact bh
theorem Dh (a b:List Int):∀ i,aq (cB a b i).1∧0≤(cB a b i).2∧(cB a b i).2≤1
 | 0=>⟨Jg,by show (0:Int)≤0;omega,by show (0:Int)≤1;omega⟩
 | i+1=>⟨gu (Dh a b i).1 (Tm _ _ _) i,C5 _ _ _⟩
theorem ut {a b:List Int} (ha:aq a) (hb:aq b):∀ i,aq (fv a b i).1∧0≤(fv a b i).2∧(fv a b i).2≤1
 | 0=>⟨Jg,by show (0:Int)≤0;omega,by show (0:Int)≤1;omega⟩
 | i+1=>⟨gu (ut ha hb i).1 (wz _ _ _) i,Gx (ha i) (hb i) (ut ha hb i).2⟩
theorem qc (n:Int):IntKind.u64.wrap n=n%18446744073709551616:=IntKind.wrap_u64 n
theorem aku:adu:=by
 delta adu uV
 exact fun _=>rfl
theorem agj:(base.with VI).Ok:=ac acL (ai am acL Tryz.func142 (by kernel_rfl) Tryz.call142 (by kernel_rfl) aku)
theorem ahJ:ac6:=by
 delta ac6 iR mY ni
 rintro a b ha hb ⟨wa,wb⟩
 refine ⟨⟨⟨rfl,rfl,by omega,by omega,rfl,rfl⟩,trivial⟩,?_⟩
 rintro c n a' b' o _ _ _ ⟨rfl,rfl,h0,h1,rfl,rfl⟩
 obtain ⟨i,rfl⟩:=Int.eq_ofNat_of_zero_le h0
 rw [ax,Nat.mul_one]
 refine aa (fun h=> ?_) fun h=> ?_
 ·simp only [aK] at h
  have:=(Dh a' b' i).2
  refine ⟨⟨h0,h⟩,by omega,⟨h0,h⟩,by omega,⟨wa i,wb i,this⟩,⟨h0,h⟩,by omega,⟨by omega,by omega⟩,⟨rfl,rfl,by omega,by omega,?_,?_⟩,by omega⟩
  ·rw [show ((i:Int)+1).toNat=i+1 from by omega];rfl
  ·rw [show ((i:Int)+1).toNat=i+1 from by omega];rfl
 ·simp only [aT] at h
  rw [show i=4 from by omega]
  exact ⟨rfl,rfl⟩
theorem acJ:(base.with S7).Ok:=ac agj (ai afx agj Tryz.func202 (by kernel_rfl) Tryz.call202 (by kernel_rfl) ahJ)
theorem akW:afz:=by
 delta afz iR mY ni
 rintro a b ha hb ⟨wa,wb⟩
 refine ⟨⟨⟨rfl,rfl,by omega,by omega,rfl,rfl⟩,trivial⟩,?_⟩
 rintro c n a' b' o _ _ _ ⟨rfl,rfl,h0,h1,rfl,rfl⟩
 obtain ⟨i,rfl⟩:=Int.eq_ofNat_of_zero_le h0
 rw [ax,Nat.mul_one]
 refine aa (fun h=> ?_) fun h=> ?_
 ·simp only [aK] at h
  have:=(ut wa wb i).2
  refine ⟨⟨h0,h⟩,by omega,⟨h0,h⟩,by omega,⟨wa i,wb i,this⟩,⟨h0,h⟩,by omega,⟨by omega,by omega⟩,⟨rfl,rfl,by omega,by omega,?_,?_⟩,by omega⟩
  ·rw [show ((i:Int)+1).toNat=i+1 from by omega];rfl
  ·rw [show ((i:Int)+1).toNat=i+1 from by omega];rfl
 ·simp only [aT] at h
  rw [show i=4 from by omega]
theorem ac3:(base.with U7).Ok:=ac acJ (ai acx acJ Tryz.func181 (by kernel_rfl) Tryz.call181 (by kernel_rfl) akW)
theorem am9:adF:=by
 delta adF uV mY
 intro a ha wa
 refine ⟨trivial,⟨wa,mO⟩,aa (fun h=> ?_) fun h=> ?_⟩
 ·exact (if_pos (av h)).symm
 ·exact (if_neg (au h)).symm
theorem Z6:(base.with S8).Ok:=ac ac3 (ai am ac3 Tryz.func180 (by kernel_rfl) Tryz.call180 (by kernel_rfl) am9)
theorem ahP:aas:=by
 delta aas Ij RX
 rintro x y ⟨hx,hy⟩
 refine ⟨by omega,by omega,by omega,by omega,by omega,?_,qc _⟩
 have l32:∀ z,al z→dN .u64 z 4294967295=z%4294967296:=fun z hz=>and_low32 z hz.1 hz.2
 have s32:∀ z,aW .u64 z 32=z / 4294967296:=fun z=>by
  unfold aW
  exact Int.fdiv_eq_ediv_of_nonneg _ (by decide)
 have iw:∀ z:Int,al (z%18446744073709551616):=fun z=>by unfold al;omega
 simp only [s32,qc,l32 _ hx,l32 _ hy,l32 _ (iw _)]
 exact mul64_arith x y hx.1 hx.2 hy.1 hy.2
theorem ZJ:(base.with Vk).Ok:=ac Z6 (ai am Z6 Tryz.func215 (by kernel_rfl) Tryz.call215 (by kernel_rfl) ahP)
theorem DG {a x y c:Int} (ha:al a) (hx:al x) (hy:al y) (hc:al c):0≤a+x*y+c∧a+x*y+c<340282366920938463463374607431768211456:=by
 unfold al at *
 have h1:=Int.mul_nonneg hx.1 hy.1
 have h2:x*y≤18446744073709551615*18446744073709551615:=Int.mul_le_mul (by omega) (by omega) hy.1 (by omega)
 omega
theorem ama:art:=by
 rintro a x y c ⟨ha,hx,hy,hc⟩
 have iw:∀ z:Int,al (z%18446744073709551616):=fun z=>by unfold al;omega
 refine ⟨⟨hx,hy⟩,⟨iw _,ha,by omega,by omega⟩,⟨wz _ _ _,hc,by omega,by omega⟩,?_⟩
 have hb:=DG ha hx hy hc
 unfold al at ha hc
 have h1:0≤x*y:=Int.mul_nonneg hx.1 hy.1
 simp only [qc]
 unfold ee cY di dj
 generalize x*y=m at *
 refine ⟨by omega,by omega⟩
theorem ad8:(base.with Up).Ok:=ac ZJ (ai am ZJ Tryz.func189 (by kernel_rfl) Tryz.call189 (by kernel_rfl) ama)
theorem aki:aax:=by
 delta aax iR uV
 intro _
 refine ⟨trivial,⟨by decide,by decide,by decide⟩,⟨⟨rfl,by omega,by omega,rfl⟩,trivial⟩,?_⟩
 rintro p x n ⟨rfl,h0,h1,rfl⟩
 obtain ⟨i,rfl⟩:=Int.eq_ofNat_of_zero_le h0
 refine aa (fun h=> ?_) fun h=> ?_
 ·simp only [aK] at h
  refine ⟨⟨by omega,by omega⟩,⟨rfl,by omega,by omega,?_⟩,by omega⟩
  rw [show ((i:Int)+1).toNat=i+1 from by omega]
  rfl
 ·simp only [aT] at h
  rw [ax,show i=6 from by omega]
  decide
theorem aa1:(base.with VY).Ok:=ac ad8 (ai aan ad8 Tryz.func188 (by kernel_rfl) Tryz.call188 (by kernel_rfl) aki)
abbrev q5:BPat:= .cells 337 [.arrI 5 .u64]
abbrev qe:BPat:= .cells 76 [a4]
def gr (x:Int) (b t:List Int):Nat→List Int×Int
 | 0=>(t,0)
 | j+1=>((gr x b t j).1.set j (ee (gI (gr x b t j).1 j) x (gI b j) (gr x b t j).2),cY (gI (gr x b t j).1 j) x (gI b j) (gr x b t j).2)
def jy (k:Int) (t:List Int) (c:Int):Nat→List Int×Int
 | 0=>(t,c)
 | n+1=>((jy k t c n).1.set n (ee (gI (jy k t c n).1 (n+1)) k (gI pW (n+1)) (jy k t c n).2),cY (gI (jy k t c n).1 (n+1)) k (gI pW (n+1)) (jy k t c n).2)
def u1 (x:Int) (b t:List Int):List Int:=(gr x b t 4).1.set 4 (IntKind.u64.wrap (gI (gr x b t 4).1 4+(gr x b t 4).2))
def kW (t:List Int):Int:=IntKind.u64.wrap (gI t 0*inv)
def r1 (t:List Int):List Int×Int:=jy (kW t) t (cY (gI t 0) (kW t) (gI pW 0) 0) 3
def f5 (r:List Int×Int):List Int:=(r.1.set 3 (di (gI r.1 4) r.2 0)).set 4 (dj (gI r.1 4) r.2 0)
def Cz (x:Int) (b t:List Int):List Int:=f5 (r1 (u1 x b t))
def eh (a b:List Int):Nat→List Int
 | 0=> [0,0,0,0,0]
 | i+1=>Cz (gI a i) b (eh a b i)
def tM (a b:List Int):List Int:=jn ((eh a b 4).take 4)
def po:Nat→List Int
 | 0=> [1,0,0,0]
 | i+1=>jn (fv (po i) (po i) 4).1
def dG (a:List Int):List Int:=tM a (po 512)
def lp (a:List Int):List Int:=tM a [1,0,0,0]
def lw (a:List Int):List Int:=b9 (fun i=>gI (lp a) i) 4
def jV (l:LD):List Int:=ba l 32
def alk:Ct:= {ps:= [w4,w4],bs:= [],pre:=fun | [.li a,.li b] =>aq a∧aq b | _=>False,res:=fun | [.li a,.li b] => .ret w4 [] [.li (tM a b)] | _=>ag}
def BR:List (Nat×Pat):= [(2,.ptr 0 0),(3,.ptr 1 0),(4,.ptr 2 0),(5,.ptr 3 0),(6,u64),(7,.ptr 4 0),(17,w4),(18,i64)]
def YG:List Dat→Ann
 | [.li a,.li b] =>⟨[],[(4,[la 91 BR [q4,q4,q4,q4,q5] (fun | [.i v,.li a',.i i,.li _,.li b',.li _,.li p,.li t] =>v=inv∧a'=a∧0≤i∧i≤4∧b'=b∧p=pW∧t=eh a b i.toNat | _=>False) (fun | [_,_,.i i,_,_,_,_,_] =>(4-i).toNat | _=>0)])],
   [
    (8,[la 91 (BR++ [(9,u64),(10,u64),(21,w4),(22,i64)]) [q4,q4,q4,q4,q5] (fun _=>True) (fun _=>0)],fun
     | [.i v0,.i x0,.i c0,.li a0,.i i0,.li b0,.i j0,.li e0,.li f0,.li o0,.li p0,.li t0] => [la 91 (BR++ [(9,u64),(10,u64),(21,w4),(22,i64)]) [q4,q4,q4,q4,q5]
      (fun | [.i v,.i x,.i c,.li a,.i i,.li b,.i j,.li e,.li f,.li _,.li p,.li t] =>v=v0∧x=x0∧a=a0∧i=i0∧b=b0∧0≤j∧j≤4∧f=f0∧p=p0∧t=(gr x0 b0 t0 j.toNat).1∧c=(gr x0 b0 t0 j.toNat).2 | _=>False)
      (fun | [_,_,_,_,_,_,.i j,_,_,_,_,_] =>(4-j).toNat | _=>0)]
     | _=> []),
    (16,[la 91 (BR++ [(10,u64),(13,u64),(14,i64)]) [q4,q4,q4,q4,q5] (fun _=>True) (fun _=>0)],fun
     | [.i v0,.i c0,.i k0,.i j0,.li a0,.i i0,.li e0,.li f0,.li o0,.li p0,.li t0] => [la 91 (BR++ [(10,u64),(13,u64),(14,i64)]) [q4,q4,q4,q4,q5]
      (fun | [.i v,.i c,.i k,.i j,.li a,.i i,.li e,.li f,.li _,.li p,.li t] =>v=v0∧k=k0∧a=a0∧i=i0∧1≤j∧j≤4∧f=f0∧p=p0∧t=(jy k0 t0 c0 (j.toNat-1)).1∧c=(jy k0 t0 c0 (j.toNat-1)).2 | _=>False)
      (fun | [_,_,_,.i j,_,_,_,_,_,_,_] =>(4-j).toNat | _=>0)]
     | _=> [])]⟩
 | _=> {cut:= [],loop:= []}
def alb:Ct:= {ps:= [w4],bs:= [],pre:=fun | [.li a] =>aq a | _=>False,res:=fun | [.li a] => .ret w4 [] [.li (dG a)] | _=>ag}
def aaD:List Dat→Ann
 | [.li a] => {cut:= [],loop:= [(3,[la 16 [(1,.ptr 0 0),(2,.ptr 1 0),(3,.ptr 2 0),(5,i64)] [q4,qe,q4] (fun | [.i i,.li a',.li _,.li s] =>0≤i∧i≤512∧a'=a∧s=po i.toNat | _=>False) (fun | [.i i,_,_,_] =>(512-i).toNat | _=>0)])]}
 | _=> {cut:= [],loop:= []}
def ak9:Ct:= {ps:= [w4],bs:= [],pre:=fun | [.li a] =>aq a | _=>False,res:=fun | [.li a] => .ret w4 [] [.li (lp a)] | _=>ag}
def ara:Ct:= {ps:= [w4],bs:= [],pre:=fun | [.li a] =>aq a | _=>False,res:=fun | [.li a] => .ret Ab [] [.li (lw a)] | _=>ag}
def ahp:Ct:= {ps:= [rb],bs:= [],pre:=fun | [.r l] =>ar l | _=>False,res:=fun
 | [.r l] => .ite (decide (l.length≠32)) (.ret (.tup [w4,i64]) [] [.li [0,0,0,0],.i 1]) (.ite (decide ((cB (jV l) pW 4).2=0)) (.ret (.tup [w4,i64]) [] [.li [0,0,0,0],.i 4]) (.ret (.tup [w4,i64]) [] [.li (dG (jV l)),.i 0]))
 | _=>ag}
def iq (b:List Int):List Int:=b.set 31 (dN .u8 (gI b 31) 63)
def ajp:Ct:= {ps:= [Ab],bs:= [],pre:=fun _=>True,res:=fun | [.li b] => .ret Ab [] [.li (iq b)] | _=>ag}
abbrev eN (a:List Int):Prop:=
 a.length=4
abbrev wi:List Int:=
 [4891460686036598785,2896914383306846353,13281191951274694749,3486998266802970665]
abbrev mb:List Int:=
 [0,0,0,0]
abbrev gk (a:Int)(b:List Int):Int:=
 b.getD (a.toNat*1) 0
abbrev qz (a:Int)(b:List Int):List Int:=
 b.set 4 (IntKind.u64.wrap (b.getD 4 0+a))
abbrev oC (a b:Int)(c:List Int):Int:=
 IntKind.u64.wrap ((qz a c).getD 0 0*b)
abbrev xY (a b:Int)(c d:List Int):Int:=
 cY ((qz a c).getD 0 0) (oC a b c)
 (d.getD 0 0) 0
def agd:Prop:=
 ∀ (a b:List Int),
 eN a→
 eN b→
 aq a∧aq b→
 True∧
 True∧
 ((inv=inv∧
 a=a∧
 (0:Int)≤0∧
 (0:Int)≤4∧
 b=b∧
 wi=wi∧
 (0:Int)::mb=eh a b 0)∧
 True)∧
 ∀ (c:Int) (d:List Int) (e:Int) (f g h i j:List Int),
 eN d→
 eN f→
 eN g→
 eN h→
 eN i→
 j.length=5→
 c=inv∧
 d=a∧
 0≤e∧e≤4∧g=b∧i=wi∧j=eh a b e.toNat→
 bif decide (e<(4:Int)) then
 (0≤e∧e<(↑(4:Nat):Int)∧e.toNat*1<(4:Nat))∧
 ((c=c∧
 gk e d=gk e d∧
 d=d∧
 e=e∧
 g=g∧
 (0:Int)≤0∧
 (0:Int)≤4∧
 g=g∧
 i=i∧
 j=(gr (gk e d) g j 0).fst∧
 0=(gr (gk e d) g j 0).snd)∧
 True)∧
 ∀ (k m o:Int) (p:List Int) (q:Int) (r:List Int) (s:Int) (t u v w x:List Int),
 eN p→
 eN r→
 eN t→
 eN u→
 eN v→
 eN w→
 x.length=5→
 k=c∧
 m=gk e d∧
 p=d∧
 q=e∧
 r=g∧
 0≤s∧
 s≤4∧
 u=g∧
 w=i∧
 x=
 (gr (gk e d) g j
 s.toNat).fst∧
 o=
 (gr (gk e d) g j
 s.toNat).snd→
 bif decide (s<(4:Int)) then
 (0≤s∧s<(↑(4:Nat):Int)∧s.toNat*1<(4:Nat))∧
 (0≤s∧s<(↑(5:Nat):Int))∧
 s.toNat*1<(5:Nat)∧
 (al (gk s x)∧
 al m∧
 al (gk s r)∧
 al o)∧
 (0≤s∧s<(↑(5:Nat):Int))∧
 s.toNat*1<(5:Nat)∧
 iR (s+1)∧
 (k=c∧
 m=gk e d∧
 p=d∧
 q=e∧
 r=g∧
 0≤s+1∧
 s+1≤4∧
 u=g∧
 w=i∧
 x.set (s.toNat*1)
 (ee
 (gk s x) m
 (gk s r) o)=
 (gr
 (gk e d) g j (s+1).toNat).fst∧
 cY (gk s x) m
 (gk s r) o=
 (gr
 (gk e d) g j (s+1).toNat).snd)∧
 ((4:Int)-(s+1)).toNat<((4:Int)-s).toNat
 else
 ((0:Int)≤4∧(4:Int)<(↑(5:Nat):Int))∧
 (4:Nat)<(5:Nat)∧
 ((0:Int)≤4∧(4:Int)<(↑(5:Nat):Int))∧
 (4:Nat)<(5:Nat)∧
 ((0:Int)≤0∧(0:Int)<(↑(5:Nat):Int))∧
 (0:Nat)<(5:Nat)∧
 ((0:Int)≤0∧(0:Int)<(↑(5:Nat):Int))∧
 (0:Nat)<(5:Nat)∧
 ((0:Int)≤0∧(0:Int)<(↑(4:Nat):Int))∧
 (0:Nat)<(4:Nat)∧
 (al
 ((qz o x).getD 0 0)∧
 al (oC o k x)∧
 al (w.getD 0 0)∧
 al 0)∧
 ((k=k∧
 oC o k x=
 oC o k x∧
 p=p∧
 q=q∧
 (1:Int)≤1∧
 (1:Int)≤4∧
 u=u∧
 w=w∧
 qz o x=
 (jy
 (oC o k x)
 (qz o x)
 (xY o k x w) 0).fst∧
 xY o k x w=
 (jy
 (oC o k x)
 (qz o x)
 (xY o k x w) 0).snd)∧
 True)∧
 ∀ (y z A B:Int) (D:List Int) (F:Int) (G H I J K:List Int),
 eN D→
 eN G→
 eN H→
 eN I→
 eN J→
 K.length=5→
 y=k∧
 A=oC o k x∧
 D=p∧
 F=q∧
 1≤B∧
 B≤4∧
 H=u∧
 J=w∧
 K=
 (jy
 (oC o k x)
 (qz o x)
 (xY o k x w)
 (B.toNat-(1:Nat))).fst∧
 z=
 (jy
 (oC o k x)
 (qz o x)
 (xY o k x w)
 (B.toNat-(1:Nat))).snd→
 bif decide (B<(4:Int)) then
 iR (B-(1:Int))∧
 (0≤B∧B<(↑(5:Nat):Int))∧
 B.toNat*1<(5:Nat)∧
 (0≤B∧B<(↑(4:Nat):Int))∧
 B.toNat*1<(4:Nat)∧
 (al
 (gk B K)∧
 al A∧
 al
 (gk B J)∧
 al z)∧
 (0≤B-(1:Int)∧B-(1:Int)<(↑(5:Nat):Int))∧
 (B-(1:Int)).toNat*1<(5:Nat)∧
 iR (B+1)∧
 (y=k∧
 A=oC o k x∧
 D=p∧
 F=q∧
 1≤B+1∧
 B+1≤4∧
 H=u∧
 J=w∧
 K.set ((B-(1:Int)).toNat*1)
 (ee
 (gk
 B K)
 A
 (gk
 B J)
 z)=
 (jy
 (oC
 o k x)
 (qz
 o x)
 (xY
 o k x w)
 ((B+1).toNat -
 (1:Nat))).fst∧
 cY
 (gk
 B K)
 A
 (gk
 B J)
 z=
 (jy
 (oC
 o k x)
 (qz
 o x)
 (xY
 o k x w)
 ((B+1).toNat -
 (1:Nat))).snd)∧
 ((4:Int)-(B+1)).toNat<((4:Int)-B).toNat
 else
 ((0:Int)≤4∧(4:Int)<(↑(5:Nat):Int))∧
 (4:Nat)<(5:Nat)∧
 (al (K.getD 4 0)∧
 al z∧
 (0:Int)≤0∧(0:Int)≤1)∧
 ((0:Int)≤3∧(3:Int)<(↑(5:Nat):Int))∧
 (3:Nat)<(5:Nat)∧
 ((0:Int)≤4∧(4:Int)<(↑(5:Nat):Int))∧
 (4:Nat)<(5:Nat)∧
 iR (F+1)∧
 (y=inv∧
 D=a∧
 0≤F+1∧
 F+1≤4∧
 H=b∧
 J=wi∧
 (K.set 3
 (di
 (K.getD 4 0) z
 0)).set
 4
 (dj
 (K.getD 4 0) z 0)=
 eh a b
 (F+1).toNat)∧
 ((4:Int)-(F+1)).toNat<((4:Int)-e).toNat
 else
 ((0:Int)≤0∧(0:Int)≤4∧4≤(↑(5:Nat):Int)∧(0:Int)<(↑(5:Nat):Int))∧
 (4:Nat)≤4∧
 (4:Nat)≤5∧
 aq (List.take 4 (List.drop 0 j))∧
 jn (List.take 4 (List.drop 0 j))=tM a b
def U2:af:=aj VY 149 (ap alk)
def ago:Prop:=
 ∀ (a:List Int),
 eN a→
 aq a→
 (((0:Int)≤0∧(0:Int)≤512∧a=a∧ [(1:Int),0,0,0] = [(1:Int),0,0,0])∧True)∧
 ∀ (b:Int) (c d e:List Int),
 eN c→
 eN d→
 eN e→
 0≤b∧b≤512∧c=a∧e=po b.toNat→
 bif decide (b<(512:Int)) then
 (aq e∧aq e)∧
 aq (fv e e 4).fst∧
 iR (b+1)∧
 (0≤b+1∧
 b+1≤512∧
 c=a∧
 jn (fv e e 4).fst=
 po (b+1).toNat)∧
 ((512:Int)-(b+1)).toNat<((512:Int)-b).toNat
 else
 (aq c∧aq e)∧
 tM c e=dG a
def Wd:af:=aj U2 139 (ap alb)
def abj:Prop:=
 ∀ (a:List Int),
 eN a→
 aq a→
 (aq a∧aq [1,0,0,0])∧
 tM a [1,0,0,0] =lp a
def WC:af:=aj Wd 101 (ap ak9)
abbrev AY (a:List Int):LD:=
 List.map (fun b=> [.int b]) (List.take 4 (List.drop 0 (lp a)))
abbrev Q1 (a:List Int):Prop:=
 32≤
 (List.map ae
 (b9 (rv (AY a))
 (AY a).length)).length
def P63:Prop:=
 ∀ (a:List Int),
 eN a→
 aq a→
 aq a∧
 ((0:Int)≤0∧0≤(↑(4:Nat):Int)∧(↑(4:Nat):Int)≤(↑(4:Nat):Int)∧(0:Int)<(↑(4:Nat):Int))∧
 ((AY a).length≤1000∧cE (AY a))∧
 Q1 a∧
 Q1 a∧
 List.map (fun b=>(b.getD 0 (.int 0)).toInt)
 (List.take 32
 (List.drop 0
 (List.map ae
 (b9 (rv (AY a))
 (AY a).length))))=
 lw a
def aaO:af:=aj WC 63 (ap ara)
abbrev Nw (a:LD):Bool:=
 decide ((cB (jV a) wi 4).snd=0)
abbrev ww (a:LD):List Int:=
 List.map (fun b=>(b.getD 0 (.int 0)).toInt)
 (List.take 4 (List.drop 0 (List.map ae (ba a a.length))))
def agC:Prop:=
 ∀ (a:LD),
 lM a→
 ar a→
 lM a→
 bif decide ((↑a.length:Int)≠32) then
 bif decide (a.length≠32) then mb=mb∧(1:Int)=1
 else
 bif Nw a then mb=mb∧(1:Int)=4
 else mb=dG (jV a)∧(1:Int)=0
 else
 (a.length≤1000∧ar a)∧
 4≤(List.map ae (ba a a.length)).length∧
 4≤(List.map ae (ba a a.length)).length∧
 True∧
 (aq (ww a)∧
 aq wi)∧
 bif
 decide
 ((cB (ww a) wi 4).snd=
 (0:Int)) then
 bif decide (a.length≠32) then mb=mb∧(4:Int)=1
 else
 bif Nw a then
 mb=mb∧(4:Int)=4
 else mb=dG (jV a)∧(4:Int)=0
 else
 aq (ww a)∧
 bif decide (a.length≠32) then
 dG (ww a)=mb∧(0:Int)=1
 else
 bif Nw a then
 dG (ww a)=mb∧(0:Int)=4
 else
 dG (ww a)=
 dG (jV a)∧
 (0:Int)=0
def Tw:af:=aj aaO 177 (ap ahp)
def arJ:Prop:=
 ∀ (a:List Int),
 a.length=32→
 True→
 ((0:Int)≤31∧(31:Int)<(↑(32:Nat):Int))∧
 (31:Nat)<(32:Nat)∧
 ((0:Int)≤31∧(31:Int)<(↑(32:Nat):Int))∧
 (31:Nat)<(32:Nat)∧a.set 31 (dN .u8 (a.getD 31 0) 63)=iq a
def S1:af:=aj Tw 280 (ap ajp)
theorem Ud (a x y c:Int):al (ee a x y c):=by unfold al ee;omega
theorem GS {a x y c:Int} (ha:al a) (hx:al x) (hy:al y) (hc:al c):al (cY a x y c):=by
 have:=DG ha hx hy hc
 unfold al cY;omega
theorem Nz (n:Int):al (IntKind.u64.wrap n):=by rw [qc];unfold al;omega
theorem xl {x:Int} {b t:List Int} (hx:al x) (hb:aq b) (ht:aq t):∀ j,aq (gr x b t j).1∧al (gr x b t j).2
 | 0=>⟨ht,bh⟩
 | j+1=>⟨gu (xl hx hb ht j).1 (Ud _ _ _ _) j,GS ((xl hx hb ht j).1 j) hx (hb j) (xl hx hb ht j).2⟩
theorem xz {k c:Int} {t:List Int} (hk:al k) (hc:al c) (ht:aq t):∀ n,aq (jy k t c n).1∧al (jy k t c n).2
 | 0=>⟨ht,hc⟩
 | n+1=>⟨gu (xz hk hc ht n).1 (Ud _ _ _ _) n,GS ((xz hk hc ht n).1 (n+1)) hk (mO (n+1)) (xz hk hc ht n).2⟩
theorem Ue {x:Int} {b t:List Int} (hx:al x) (hb:aq b) (ht:aq t):aq (u1 x b t):=gu (xl hx hb ht 4).1 (Nz _) 4
theorem Wf {x y c:Int} (hx:al x) (hy:al y) (hc:0≤c∧c≤1):al (dj x y c):=by
 have:=Gx hx hy hc
 unfold al;omega
theorem akN {t:List Int} (ht:aq t):aq (r1 t).1∧al (r1 t).2:=xz (Nz _) (GS (ht 0) (Nz _) (mO 0) bh) ht 3
theorem Z2 {x:Int} {b t:List Int} (hx:al x) (hb:aq b) (ht:aq t):aq (Cz x b t):=by
 have h:=akN (Ue hx hb ht)
 exact gu (gu h.1 (wz _ _ _) 3) (Wf (h.1 4) h.2 ⟨by omega,by omega⟩) 4
theorem WX:aq [0,0,0,0,0] :=fun j=>by
 match j with
 | 0=>exact bh
 | 1=>exact bh
 | 2=>exact bh
 | 3=>exact bh
 | 4=>exact bh
 | _+5=>exact bh
theorem DE {a b:List Int} (ha:aq a) (hb:aq b):∀ i,aq (eh a b i)
 | 0=>WX
 | i+1=>Z2 (ha i) hb (DE ha hb i)
theorem Ft {s:List Int} (h:aq s) (n:Nat):aq (s.take n):=fun j=>by
 rw [aw,List.getElem?_take]
 split
 ·rw [← aw];exact h j
 ·exact bh
theorem Mh {a:List Int} (ha:aq a):aq (jn a):=by
 unfold jn
 split
 ·exact (Dh a pW 4).1
 ·exact ha
theorem Ki {a b:List Int} (ha:aq a) (hb:aq b):aq (tM a b):=Mh (Ft (DE ha hb 4) 4)
theorem HK:aq [1,0,0,0] :=fun j=>by
 match j with
 | 0=>exact ⟨by decide,by decide⟩
 | 1=>exact bh
 | 2=>exact bh
 | 3=>exact bh
 | _+4=>exact bh
theorem j7:∀ i,aq (po i)
 | 0=>HK
 | i+1=>Mh (ut (j7 i) (j7 i) 4).1
theorem aiH:agd:=by
 delta agd iR eN wi mb gk qz oC xY
 rintro a b _ _ ⟨wa,wb⟩
 refine ⟨trivial,trivial,⟨⟨rfl,rfl,by omega,by omega,rfl,rfl,rfl⟩,trivial⟩,?_⟩
 rintro v a' n e b' o p t _ _ _ _ _ hlt ⟨rfl,rfl,h0,h1,rfl,hp,rfl⟩
 have hp:p=pW:=hp
 obtain ⟨i,rfl⟩:=Int.eq_ofNat_of_zero_le h0
 rw [ax,Nat.mul_one]
 refine aa (fun h=> ?_) fun h=> ?_
 ·simp only [aK] at h
  have wt:=DE wa wb i
  refine ⟨⟨h0,h,by omega⟩,⟨⟨rfl,rfl,rfl,rfl,rfl,by omega,by omega,rfl,rfl,rfl,rfl⟩,trivial⟩,?_⟩
  rintro v2 x c a2 i2 b2 j e2 f2 o2 p2 t2 _ _ _ _ _ _ ht2 ⟨rfl,rfl,rfl,rfl,rfl,j0,j1,rfl,rfl,rfl,rfl⟩
  obtain ⟨j,rfl⟩:=Int.eq_ofNat_of_zero_le j0
  rw [ax,Nat.mul_one]
  have wm:=xl (wa i) wb wt
  refine aa (fun h2=> ?_) fun h2=> ?_
  ·simp only [aK] at h2
   refine ⟨⟨j0,h2,by omega⟩,⟨j0,by omega⟩,by omega,⟨(wm j).1 j,wa i,wb j,(wm j).2⟩,⟨j0,by omega⟩,by omega,⟨by omega,by omega⟩,⟨rfl,rfl,rfl,rfl,rfl,by omega,by omega,rfl,rfl,?_,?_⟩,by omega⟩
   ·rw [show ((j:Int)+1).toNat=j+1 from by omega];rfl
   ·rw [show ((j:Int)+1).toNat=j+1 from by omega];rfl
  ·simp only [aT] at h2
   have e4:j=4:=by omega
   subst e4
   have wU:aq (u1 (gI a2 i) f2 (eh a2 f2 i)):=Ue (wa i) wb wt
   have hst:eh a2 f2 (i+1)=f5 (r1 (u1 (gI a2 i) f2 (eh a2 f2 i))):=rfl
   rw [show (gr (a2.getD i 0) f2 (eh a2 f2 i) 4).1.set 4 (IntKind.u64.wrap ((gr (a2.getD i 0) f2 (eh a2 f2 i) 4).1.getD 4 0+(gr (a2.getD i 0) f2 (eh a2 f2 i) 4).2))=u1 (gI a2 i) f2 (eh a2 f2 i) from rfl]
   generalize u1 (gI a2 i) f2 (eh a2 f2 i)=U at *
   rw [show IntKind.u64.wrap (U.getD 0 0*inv)=kW U from rfl]
   have wk:al (kW U):=Nz _
   have wl:al (cY (U.getD 0 0) (kW U) (p2.getD 0 0) 0):=by rw [hp];exact GS (wU 0) wk (mO 0) bh
   refine ⟨⟨by omega,by omega⟩,by omega,⟨by omega,by omega⟩,by omega,⟨by omega,by omega⟩,by omega,⟨by omega,by omega⟩,by omega,⟨by omega,by omega⟩,by omega,⟨wU 0,wk,by rw [hp];exact mO 0,bh⟩,⟨⟨rfl,rfl,rfl,rfl,by omega,by omega,rfl,rfl,rfl,rfl⟩,trivial⟩,?_⟩
   rintro v3 c3 k3 j3 a3 i3 e3 f3 o3 p3 t3 _ _ _ _ _ ht3 ⟨rfl,rfl,rfl,rfl,g0,g1,rfl,rfl,rfl,rfl⟩
   obtain ⟨m,rfl⟩:∃ m:Nat,j3=m+1:=⟨(j3-1).toNat,by omega⟩
   have wr:=xz wk wl wU
   rw [show ((m:Int)+1).toNat=m+1 from by omega,Nat.mul_one,Nat.add_sub_cancel]
   refine aa (fun h3=> ?_) fun h3=> ?_
   ·simp only [aK] at h3
    have em:((m:Int)+1-1).toNat*1=m:=by omega
    refine ⟨⟨by omega,by omega⟩,⟨by omega,by omega⟩,by omega,⟨by omega,by omega⟩,by omega,⟨(wr m).1 (m+1),wk,by rw [hp];exact mO (m+1),(wr m).2⟩,⟨by omega,by omega⟩,by omega,⟨by omega,by omega⟩,⟨rfl,rfl,rfl,rfl,by omega,by omega,rfl,rfl,?_,?_⟩,by omega⟩
    ·rw [em,show ((m:Int)+1+1).toNat-1=m+1 from by omega,hp];rfl
    ·rw [show ((m:Int)+1+1).toNat-1=m+1 from by omega,hp];rfl
   ·simp only [aT] at h3
    have e3:m=3:=by omega
    subst e3
    refine ⟨⟨by omega,by omega⟩,by omega,⟨(wr 3).1 4,(wr 3).2,by omega,by omega⟩,⟨by omega,by omega⟩,by omega,⟨by omega,by omega⟩,by omega,⟨by omega,by omega⟩,⟨rfl,rfl,by omega,by omega,rfl,hp,?_⟩,by omega⟩
    rw [show ((i:Int)+1).toNat=i+1 from by omega,hst,hp]
    rfl
 ·simp only [aT] at h
  have e4:i=4:=by omega
  subst e4
  exact ⟨⟨by omega,by omega,by omega,by omega⟩,by omega,by omega,Ft (DE wa wb 4) 4,rfl⟩
theorem aeJ:(base.with U2).Ok:=ac aa1 (ai YG aa1 Tryz.func149 (by kernel_rfl) Tryz.call149 (by kernel_rfl) aiH)
theorem Ll (x:Int) (b t:List Int):∀ j,(gr x b t j).1.length=t.length
 | 0=>rfl
 | j+1=>by rw [gr,dc,Ll x b t j]
theorem LN (k:Int) (t:List Int) (c:Int):∀ n,(jy k t c n).1.length=t.length
 | 0=>rfl
 | n+1=>by rw [jy,dc,LN k t c n]
theorem Lm (a b:List Int):∀ i,(eh a b i).length=5
 | 0=>rfl
 | i+1=>by
  show (f5 (r1 (u1 (gI a i) b (eh a b i)))).length=5
  unfold f5 r1 u1
  rw [dc,dc,LN,dc,Ll,Lm a b i]
theorem Fc (a b:List Int):∀ i,(cB a b i).1.length=4
 | 0=>rfl
 | i+1=>by rw [cB,dc,Fc a b i]
theorem J1 {a:List Int} (h:a.length=4):(jn a).length=4:=by
 unfold jn
 split
 ·exact Fc _ _ 4
 ·exact h
theorem EH (a b:List Int):(tM a b).length=4:=J1 (by rw [List.length_take,Lm];rfl)
theorem Fd (l:LD):∀ n,aq (ba l n)
 | 0=>fun j=>by
  rw [ba,aw,List.getElem?_replicate]
  split <;>exact bh
 | n+1=>gu (Fd l n) (Bz _ _) _
theorem aiW:ago:=by
 delta ago iR eN
 intro a _ wa
 refine ⟨⟨⟨by omega,by omega,rfl,rfl⟩,trivial⟩,?_⟩
 rintro n a' o s _ _ _ ⟨h0,h1,rfl,rfl⟩
 obtain ⟨i,rfl⟩:=Int.eq_ofNat_of_zero_le h0
 rw [ax]
 refine aa (fun h=> ?_) fun h=> ?_
 ·simp only [aK] at h
  refine ⟨⟨j7 i,j7 i⟩,(ut (j7 i) (j7 i) 4).1,⟨by omega,by omega⟩,⟨by omega,by omega,rfl,?_⟩,by omega⟩
  rw [show ((i:Int)+1).toNat=i+1 from by omega]
  rfl
 ·simp only [aT] at h
  rw [show i=512 from by omega]
  exact ⟨⟨wa,j7 _⟩,rfl⟩
theorem Ys:(base.with Wd).Ok:=ac aeJ (ai aaD aeJ Tryz.func139 (by kernel_rfl) Tryz.call139 (by kernel_rfl) aiW)
theorem ahw:abj:=by
 delta abj eN
 exact fun a _ wa=>⟨⟨wa,HK⟩,rfl⟩
theorem agV:(base.with WC).Ok:=ac Ys (ai am Ys Tryz.func101 (by kernel_rfl) Tryz.call101 (by kernel_rfl) ahw)
theorem LX (a:List Int):(lp a).length=4:=EH _ _
theorem Oq {a:List Int} (h:aq a):aq (lp a):=Ki h HK
theorem aqP:P63:=by
 delta P63 eN AY Q1
 intro a _ wa
 have hl:=LX a
 have hw:=Oq wa
 unfold lw
 rw [List.drop_zero,List.take_of_length_le (Nat.le_of_eq hl)]
 generalize lp a=L at *
 have e:L.map (fun x=> [CD.int x])=L.map ae:=rfl
 rw [e]
 have el:(L.map ae).length=4:=by rw [bA,hl]
 have ef:rv (L.map ae)=fun i=>gI L i:=funext fun i=>b7 L i
 rw [el,ef]
 have e32:(b9 (fun i=>gI L i) 4).length=32:=iW _ 4
 have e32':32≤((b9 (fun i=>gI L i) 4).map ae).length:=by rw [bA,e32];exact Nat.le_refl _
 refine ⟨wa,⟨by omega,by omega,by omega,by omega⟩,⟨by omega,fun i=>by rw [b7];exact hw i⟩,e32',e32',?_⟩
 exact qg e32
theorem c63:(base.with aaO).Ok:=ac agV (ai am agV Tryz.func63 (by kernel_rfl) Tryz.call63 (by kernel_rfl) aqP)
theorem ajq:agC:=by
 delta agC lM wi mb Nw ww
 intro l hl hb _
 refine aa (fun h=> ?_) fun h=> ?_
 ·have h':l.length≠32:=fun e=>(av h) (by rw [e];rfl)
  rw [decide_eq_true h']
  exact ⟨rfl,rfl⟩
 ·have h':l.length=32:=by
   have:=au h
   omega
  have hd:decide (l.length≠32)=false:=decide_eq_false fun h=>h h'
  rw [hd,h']
  have hw:(ba l 32).length=4:=by rw [fy,h']
  have ew:List.map (fun r=>(r.getD 0 (CD.int 0)).toInt) (List.take 4 (List.drop 0 ((ba l 32).map ae)))=jV l:=qg hw
  rw [ew]
  have h4:4≤((ba l 32).map ae).length:=by rw [bA,hw];exact Nat.le_refl _
  have w1:aq (jV l):=by unfold jV;exact Fd l 32
  generalize jV l=W at *
  refine ⟨⟨by omega,hb⟩,h4,h4,trivial,⟨w1,mO⟩,aa (fun h2=> ?_) fun h2=>⟨w1,?_⟩⟩
  ·have h2':decide ((cB W pW 4).2=0)=true:=h2
   rw [h2]
   exact ⟨rfl,rfl⟩
  ·have h2':decide ((cB W pW 4).2=0)=false:=h2
   rw [h2]
   exact ⟨rfl,rfl⟩
theorem acC:(base.with Tw).Ok:=ac c63 (ai am c63 Tryz.func177 (by kernel_rfl) Tryz.call177 (by kernel_rfl) ajq)
theorem akg:arJ:=fun l hl _=>⟨⟨by omega,by omega⟩,by omega,⟨by omega,by omega⟩,by omega,rfl⟩
theorem aaZ:(base.with S1).Ok:=ac acC (ai am acC Tryz.func280 (by kernel_rfl) Tryz.call280 (by kernel_rfl) akg)
abbrev xI:Pat:= .iface 253 (.agg [])
abbrev eL:BPat:= .cells 298 [xI,.own 1,i64,i64,i64]
abbrev JA:Pat:= .agg [.ptr 0 0]
def dn (s:LD):LD:=(c7 (fP (ba s 200))).map ae
abbrev Sp:=Int×Int×Int×LD
def pmS (x:Sp):Sp:=(0,x.2.1,x.2.2.1+1,dn x.2.2.2)
def Ad (x:Sp):Sp:=if x.1=136 then pmS x else x
def T5 (x:Sp) (u:Int):Sp:=(x.1+1,136,x.2.2.1,x.2.2.2.set x.1.toNat ((x.2.2.2.getD x.1.toNat []).set 0 (.int u)))
def bH (l:LD) (x:Sp):Nat→Sp
 | 0=>x
 | i+1=>T5 (Ad (bH l x i)) (rv l i)
def i8 (x:Sp):Sp:=if x.2.1=136 then (0,0,x.2.2.1+1,dn x.2.2.2) else x
def sq1 (x:Sp):Sp:=(x.1,x.2.1+1,x.2.2.1,x.2.2.2)
def aL (x:Sp):Nat→Sp
 | 0=>x
 | i+1=>sq1 (i8 (aL x i))
def c8 (x:Sp):Nat→LD
 | 0=> []
 | i+1=>c8 x i++ [[.int (rv (i8 (aL x i)).2.2.2 (i8 (aL x i)).2.1.toNat)]]
def nk (l:LD):LD:=jv (List.replicate 200 [.int 0]) 136 64 l
def bM (x:Sp):Prop:=0≤x.1∧x.1≤136∧0≤x.2.1∧x.2.1≤136∧0≤x.2.2.1∧x.2.2.1≤1000000000∧x.2.2.2.length=200∧ar x.2.2.2
def ajC:Ct:= {ps:= [.agg []],bs:= [],pre:=fun _=>True,res:=fun _=> .ret i64 [] [.i 136]}
def ajG:Ct:= {ps:= [.agg []],bs:= [],pre:=fun _=>True,res:=fun _=> .ret i64 [] [.i 200]}
def ahc:Ct:= {ps:= [.agg [],.own 0],bs:= [ob],pre:=fun | [.r s] =>s.length=200∧ar s | _=>False,res:=fun | [.r s] => .ret (.tup []) [ob] [.r (dn s)] | _=>ag}
def aqr:Ct:= {ps:= [],bs:= [],pre:=fun _=>True,res:=fun _=> .ret xI [] []}
def ahY:Ct:= {ps:= [xI,rb],bs:= [],pre:=fun | [.r l] =>l.length≤64 | _=>False,res:=fun | [.r l] => .ret (.tup [.ptr 0 0,i64]) [eL,ob] [.i 0,.i 0,.i 136,.i 0,.r (nk l)] | _=>ag}
def ar4:Ct:= {ps:= [xI,rb],bs:= [],pre:=fun | [.r l] =>l.length≤64 | _=>False,res:=fun | [.r l] => .ret (.ptr 0 0) [eL,ob] [.i 0,.i 136,.i 0,.r (nk l)] | _=>ag}
def aqq:Ct:= {ps:= [Ab],bs:= [],pre:=fun _=>True,res:=fun | [.li t] => .ret (.ptr 0 0) [eL,ob] [.i 0,.i 136,.i 0,.r (nk (t.map ae))] | _=>ag}
def ahn:Ct:= {ps:= [.ptr 0 0],bs:= [eL,ob],pre:=fun | [.i a,.i b,.i c,.r s] =>s.length=200∧ar s∧0≤c∧c≤2000000000 | _=>False,res:=fun | [.i a,.i b,.i c,.r s] => .ret (.tup []) [eL,ob] [.i 0,.i b,.i (c+1),.r (dn s)] | _=>ag}
def ail:Ct:= {ps:= [.ptr 0 0,rb],bs:= [eL,ob],pre:=fun | [.r l,.i a,.i b,.i c,.r s] =>bM (a,b,c,s)∧ar l∧l.length≤1000000 | _=>False,res:=fun
 | [.r l,.i a,.i b,.i c,.r s] => .ret (.tup []) [eL,ob] [.i (bH l (a,b,c,s) l.length).1,.i (bH l (a,b,c,s) l.length).2.1,.i (bH l (a,b,c,s) l.length).2.2.1,.r (bH l (a,b,c,s) l.length).2.2.2]
 | _=>ag}
def aay:List Dat→Ann
 | [.r l,.i a,.i b,.i c,.r s] => {cut:= [],loop:= [(2,[la 48 [(0,.ptr 0 0),(4,i64),(12,rb),(13,i64),(14,i64)] [eL,ob] (fun
   | [.i q,.r l',.i n,.i i,.i a',.i b',.i c',.r s'] =>q=136∧l'=l∧n=l.length∧0≤i∧i≤n∧a'=(bH l (a,b,c,s) i.toNat).1∧b'=(bH l (a,b,c,s) i.toNat).2.1∧c'=(bH l (a,b,c,s) i.toNat).2.2.1∧s'=(bH l (a,b,c,s) i.toNat).2.2.2
   | _=>False) (fun | [_,_,.i n,.i i,_,_,_,_] =>(n-i).toNat | _=>0)])]}
 | _=> {cut:= [],loop:= []}
def ajg:Ct:= {ps:= [.ptr 0 0,i64],bs:= [eL,ob],pre:=fun | [.i n,.i a,.i b,.i c,.r s] =>bM (a,b,c,s)∧n≤1000000 | _=>False,res:=fun
 | [.i n,.i a,.i b,.i c,.r s] => .ret (.own 2) [eL,ob,ob] [.i (aL (a,b,c,s) n.toNat).1,.i (aL (a,b,c,s) n.toNat).2.1,.i (aL (a,b,c,s) n.toNat).2.2.1,.r (aL (a,b,c,s) n.toNat).2.2.2,.r (c8 (a,b,c,s) n.toNat)]
 | _=>ag}
def Yx:List Dat→Ann
 | [.i n,.i a,.i b,.i c,.r s] => {cut:= [],loop:= [(3,[la 47 [(0,.ptr 0 0),(5,.own 2),(7,i64),(8,i64)] [eL,ob,ob] (fun
   | [.i m,.i i,.i a',.i b',.i c',.r s',.r o] =>m=max n 0∧0≤i∧i≤m∧a'=(aL (a,b,c,s) i.toNat).1∧b'=(aL (a,b,c,s) i.toNat).2.1∧c'=(aL (a,b,c,s) i.toNat).2.2.1∧s'=(aL (a,b,c,s) i.toNat).2.2.2∧o=c8 (a,b,c,s) i.toNat
   | _=>False) (fun | [.i m,.i i,_,_,_,_,_] =>(m-i).toNat | _=>0)])]}
 | _=> {cut:= [],loop:= []}
def lA (x:Sp):List Int:=hid ((c8 x 32).map fun r=>(r.getD 0 .d0).toInt)
def aj8:Ct:= {ps:= [JA],bs:= [eL,ob],pre:=fun | [.i a,.i b,.i c,.r s] =>bM (a,b,c,s) | _=>False,res:=fun
 | [.i a,.i b,.i c,.r s] => .ret Ab [eL,ob] [.li (lA (a,b,c,s)),.i (aL (a,b,c,s) 32).1,.i (aL (a,b,c,s) 32).2.1,.i (aL (a,b,c,s) 32).2.2.1,.r (aL (a,b,c,s) 32).2.2.2]
 | _=>ag}
def aq7:Prop:=
 True→(136:Int)=136
def WU:af:=aj S1 294 (ap ajC)
def ark:Prop:=
 True→(200:Int)=200
def SX:af:=aj WU 295 (ap ajG)
def Zp:Prop:=
 ∀ (a:LD),
 lM a→
 a.length=200∧ar a→
 ar a∧
 bif decide (a.length≠200) then a=dn a
 else
 True∧
 aq (fP (ba a 200))∧
 ((0:Int)≤0∧0≤(↑(200:Nat):Int)∧(↑(200:Nat):Int)≤(↑(200:Nat):Int)∧(0:Int)<(↑(200:Nat):Int))∧
 jv a 0 a.length
 (List.map (fun b=> [.int b])
 (List.take 200
 (List.drop 0
 (c7 (fP (ba a 200))))))=
 dn a
def V8:af:=aj SX 293 (ap ahc)
def P83:Prop:=
 True→True
def aaS:af:=aj V8 83 (ap aqr)
def aa2:Prop:=
 ∀ (a:LD),
 lM a→
 a.length≤64→
 lM a→
 True∧
 True∧
 iR ((200:Int)-(136:Int))∧
 bif decide ((200:Int)-(136:Int)<↑a.length) then
 Miss 2 eS
 else
 True∧
 ((0:Int)≤200∧(200:Int)≤200∧(↑(1:Nat):Int)*200≤140737488355328∧(200:Int)≤9223372036854775807)∧
 True∧
 True∧
 ((0:Int)≤136∧136≤(↑(200:Nat):Int)∧(↑(200:Nat):Int)≤(↑(200:Nat):Int)∧(136:Int)<(↑(200:Nat):Int))∧
 (0:Int)=0∧
 (0:Int)=0∧
 (136:Int)=136∧
 (0:Int)=0∧
 jv
 (have y:=
 have y:=
 have y:=
 have y:=
 have y:=
 [[.int 0],[.int 0],[.int 0],[.int 0],
 [.int 0],[.int 0],[.int 0]];
 [.int 0] ::
 [.int 0] ::
 [.int 0] :: [.int 0] :: [.int 0] :: [.int 0] ::y;
 have y:=
 [.int 0] ::
 [.int 0] ::
 [.int 0] :: [.int 0] :: [.int 0] :: [.int 0] ::y;
 [.int 0] ::
 [.int 0] ::
 [.int 0] :: [.int 0] :: [.int 0] :: [.int 0] ::y;
 have y:=
 have y:=
 [.int 0] ::
 [.int 0] ::
 [.int 0] ::
 [.int 0] :: [.int 0] :: [.int 0] :: [.int 0] ::y;
 [.int 0] ::
 [.int 0] ::
 [.int 0] :: [.int 0] :: [.int 0] :: [.int 0] ::y;
 have y:=
 [.int 0] ::
 [.int 0] ::
 [.int 0] :: [.int 0] :: [.int 0] :: [.int 0] ::y;
 [.int 0] ::
 [.int 0] ::
 [.int 0] :: [.int 0] :: [.int 0] :: [.int 0] ::y;
 have y:=
 have y:=
 have y:=
 [.int 0] ::
 [.int 0] ::
 [.int 0] ::
 [.int 0] :: [.int 0] :: [.int 0] :: [.int 0] ::y;
 [.int 0] ::
 [.int 0] ::
 [.int 0] :: [.int 0] :: [.int 0] :: [.int 0] ::y;
 have y:=
 [.int 0] ::
 [.int 0] ::
 [.int 0] :: [.int 0] :: [.int 0] :: [.int 0] ::y;
 [.int 0] ::
 [.int 0] ::
 [.int 0] :: [.int 0] :: [.int 0] :: [.int 0] ::y;
 have y:=
 have y:=
 [.int 0] ::
 [.int 0] ::
 [.int 0] ::
 [.int 0] :: [.int 0] :: [.int 0] :: [.int 0] ::y;
 [.int 0] ::
 [.int 0] ::
 [.int 0] :: [.int 0] :: [.int 0] :: [.int 0] ::y;
 have y:=
 [.int 0] ::
 [.int 0] ::
 [.int 0] :: [.int 0] :: [.int 0] :: [.int 0] ::y;
 [.int 0] ::
 [.int 0] ::
 [.int 0] :: [.int 0] :: [.int 0] :: [.int 0] ::y;
 have y:=
 have y:=
 have y:=
 have y:=
 [.int 0] ::
 [.int 0] ::
 [.int 0] ::
 [.int 0] :: [.int 0] :: [.int 0] :: [.int 0] ::y;
 [.int 0] ::
 [.int 0] ::
 [.int 0] :: [.int 0] :: [.int 0] :: [.int 0] ::y;
 have y:=
 [.int 0] ::
 [.int 0] ::
 [.int 0] :: [.int 0] :: [.int 0] :: [.int 0] ::y;
 [.int 0] ::
 [.int 0] ::
 [.int 0] :: [.int 0] :: [.int 0] :: [.int 0] ::y;
 have y:=
 have y:=
 [.int 0] ::
 [.int 0] ::
 [.int 0] ::
 [.int 0] :: [.int 0] :: [.int 0] :: [.int 0] ::y;
 [.int 0] ::
 [.int 0] ::
 [.int 0] :: [.int 0] :: [.int 0] :: [.int 0] ::y;
 have y:=
 [.int 0] ::
 [.int 0] ::
 [.int 0] :: [.int 0] :: [.int 0] :: [.int 0] ::y;
 [.int 0] ::
 [.int 0] ::
 [.int 0] :: [.int 0] :: [.int 0] :: [.int 0] ::y;
 have y:=
 have y:=
 have y:=
 [.int 0] ::
 [.int 0] ::
 [.int 0] ::
 [.int 0] :: [.int 0] :: [.int 0] :: [.int 0] ::y;
 [.int 0] ::
 [.int 0] ::
 [.int 0] :: [.int 0] :: [.int 0] :: [.int 0] ::y;
 have y:=
 [.int 0] ::
 [.int 0] ::
 [.int 0] :: [.int 0] :: [.int 0] :: [.int 0] ::y;
 [.int 0] ::
 [.int 0] ::
 [.int 0] :: [.int 0] :: [.int 0] :: [.int 0] ::y;
 have y:=
 have y:=
 [.int 0] ::
 [.int 0] ::
 [.int 0] ::
 [.int 0] :: [.int 0] :: [.int 0] :: [.int 0] ::y;
 [.int 0] ::
 [.int 0] ::
 [.int 0] :: [.int 0] :: [.int 0] :: [.int 0] ::y;
 have y:=
 [.int 0] ::
 [.int 0] ::
 [.int 0] :: [.int 0] :: [.int 0] :: [.int 0] ::y;
 [.int 0] ::
 [.int 0] ::
 [.int 0] :: [.int 0] :: [.int 0] :: [.int 0] ::y)
 136 64 a=
 nk a
def VZ:af:=aj aaS 130 (ap ahY)
def P82:Prop:=
 ∀ (a:LD),
 lM a→
 a.length≤64→
 a.length≤64∧
 (0:Int)=0∧(136:Int)=136∧(0:Int)=0∧nk a=nk a
def age:af:=aj VZ 82 (ap ar4)
def P45:Prop:=
 ∀ (a:List Int),
 a.length=32→
 True→
 True∧
 ((0:Int)≤0∧0≤(↑(32:Nat):Int)∧(↑(32:Nat):Int)≤(↑(32:Nat):Int)∧(0:Int)<(↑(32:Nat):Int))∧
 (List.map (fun b=> [CD.int b]) (List.take 32 (List.drop 0 a))).length≤64∧
 (0:Int)=0∧
 (136:Int)=136∧
 (0:Int)=0∧
 nk (List.map (fun b=> [CD.int b]) (List.take 32 (List.drop 0 a)))=
 nk (List.map ae a)
def afq:af:=aj age 45 (ap aqq)
abbrev Fi (a:Int)(b:LD):Prop:=
 b.length=200∧ar b∧0≤a∧a≤2000000000
def aef:Prop:=
 ∀ (n a b:Int) (c:LD),
 Fi b c→
 (c.length=200∧ar c)∧
 iR (b+1)∧
 (0:Int)=0∧a=a∧b+1=b+1∧dn c=dn c
def TY:af:=aj afq 271 (ap ahn)
abbrev HJ (a:Int)(b:LD):CD:=
 .int ((b.getD a.toNat []).getD 0 (.int 0)).toInt
abbrev EO (a b:Int):Prop:=
 (a-(b+1)).toNat<(a-b).toNat
def aeO:Prop:=
 ∀ (a:LD) (b c d:Int) (e:LD),
 lM a→
 bM (b,c,d,e)∧ar a∧a.length≤1000000→
 True∧
 (lM a→
 (((136:Int)=136∧
 a=a∧
 (↑a.length:Int)=(↑a.length:Int)∧
 (0:Int)≤0∧
 0≤(↑a.length:Int)∧
 b=(bH a (b,c,d,e) 0).fst∧
 c=(bH a (b,c,d,e) 0).snd.fst∧
 d=(bH a (b,c,d,e) 0).snd.snd.fst∧
 e=(bH a (b,c,d,e) 0).snd.snd.snd)∧
 True)∧
 ∀ (f:Int) (g:LD) (h i j k m:Int) (o:LD),
 lM g→
 f=136∧
 g=a∧
 h=(↑a.length:Int)∧
 0≤i∧
 i≤h∧
 j=(bH a (b,c,d,e) i.toNat).fst∧
 k=(bH a (b,c,d,e) i.toNat).snd.fst∧
 m=(bH a (b,c,d,e) i.toNat).snd.snd.fst∧
 o=(bH a (b,c,d,e) i.toNat).snd.snd.snd→
 bif decide (i<h) then
 bR i g∧
 i.toNat<g.length∧
 bif decide (j=f) then
 Fi m o∧
 bR 0 (dn o)∧
 0<(dn o).length∧
 iR ((0:Int)+1)∧
 iR (i+1)∧
 (f=136∧
 g=a∧
 h=(↑a.length:Int)∧
 0≤i+1∧
 i+1≤h∧
 (0:Int)+1=(bH a (b,c,d,e) (i+1).toNat).fst∧
 f=(bH a (b,c,d,e) (i+1).toNat).snd.fst∧
 m+1=(bH a (b,c,d,e) (i+1).toNat).snd.snd.fst∧
 (dn o).set 0
 (((dn o).getD 0 []).set 0
 (HJ i g))=
 (bH a (b,c,d,e) (i+1).toNat).snd.snd.snd)∧
 EO h i
 else
 bR j o∧
 j.toNat<o.length∧
 iR (j+1)∧
 iR (i+1)∧
 (f=136∧
 g=a∧
 h=(↑a.length:Int)∧
 0≤i+1∧
 i+1≤h∧
 j+1=(bH a (b,c,d,e) (i+1).toNat).fst∧
 f=(bH a (b,c,d,e) (i+1).toNat).snd.fst∧
 m=(bH a (b,c,d,e) (i+1).toNat).snd.snd.fst∧
 o.set j.toNat ((o.getD j.toNat []).set 0 (HJ i g))=
 (bH a (b,c,d,e) (i+1).toNat).snd.snd.snd)∧
 EO h i
 else
 j=(bH a (b,c,d,e) a.length).fst∧
 k=(bH a (b,c,d,e) a.length).snd.fst∧
 m=(bH a (b,c,d,e) a.length).snd.snd.fst∧
 o=(bH a (b,c,d,e) a.length).snd.snd.snd)
def V0:af:=aj TY 278 (ap ail)
abbrev RA (a b c d e f g:Int)(h i j:LD):Prop:=
 a=(aL (b,c,d,h) e.toNat).fst∧
 f=(aL (b,c,d,h) e.toNat).snd.fst∧
 g=(aL (b,c,d,h) e.toNat).snd.snd.fst∧
 i=(aL (b,c,d,h) e.toNat).snd.snd.snd∧j=c8 (b,c,d,h) e.toNat
def acv:Prop:=
 ∀ (a b c d:Int) (e:LD),
 bM (b,c,d,e)∧a≤1000000→
 ((max a 0=max a 0∧
 (0:Int)≤0∧
 0≤max a 0∧
 b=(aL (b,c,d,e) 0).fst∧
 c=(aL (b,c,d,e) 0).snd.fst∧
 d=(aL (b,c,d,e) 0).snd.snd.fst∧
 e=(aL (b,c,d,e) 0).snd.snd.snd∧ [] =c8 (b,c,d,e) 0)∧
 True)∧
 ∀ (f g h i j:Int) (k m:LD),
 lM m→
 f=max a 0∧0≤g∧g≤f∧RA h b c d g i j e k m→
 bif decide (g<f) then
 True∧
 bif decide (i=136) then
 Fi j k∧
 bR 0 (dn k)∧
 0<(dn k).length∧
 aR (m.length+1) 1∧
 iR ((0:Int)+1)∧
 iR (g+1)∧
 (f=max a 0∧
 0≤g+1∧
 g+1≤f∧
 0=(aL (b,c,d,e) (g+1).toNat).fst∧
 (0:Int)+1=(aL (b,c,d,e) (g+1).toNat).snd.fst∧
 j+1=(aL (b,c,d,e) (g+1).toNat).snd.snd.fst∧
 dn k=(aL (b,c,d,e) (g+1).toNat).snd.snd.snd∧
 m++
 [[.int
 (((dn k).getD 0 []).getD 0 (.int 0)).toInt]] =
 c8 (b,c,d,e) (g+1).toNat)∧
 EO f g
 else
 bR i k∧
 i.toNat<k.length∧
 aR (m.length+1) 1∧
 iR (i+1)∧
 iR (g+1)∧
 (f=max a 0∧
 0≤g+1∧
 g+1≤f∧
 h=(aL (b,c,d,e) (g+1).toNat).fst∧
 i+1=(aL (b,c,d,e) (g+1).toNat).snd.fst∧
 j=(aL (b,c,d,e) (g+1).toNat).snd.snd.fst∧
 k=(aL (b,c,d,e) (g+1).toNat).snd.snd.snd∧
 m++ [[HJ i k]] =c8 (b,c,d,e) (g+1).toNat)∧
 EO f g
 else RA h b c d a i j e k m
def Tv:af:=aj V0 275 (ap ajg)
def aqK:Prop:=
 ∀ (a b c:Int) (d:LD),
 bM (a,b,c,d)→
 (bM (a,b,c,d)∧(32:Int)≤1000000)∧
 32≤32∧
 32≤32∧
 List.map (fun e=>(e.getD 0 (.int 0)).toInt)
 (List.take 32 (List.drop 0 (c8 (a,b,c,d) 32)))=
 lA (a,b,c,d)∧
 (aL (a,b,c,d) 32).fst=(aL (a,b,c,d) 32).fst∧
 (aL (a,b,c,d) 32).snd.fst=(aL (a,b,c,d) 32).snd.fst∧
 (aL (a,b,c,d) 32).snd.snd.fst=(aL (a,b,c,d) 32).snd.snd.fst∧
 (aL (a,b,c,d) 32).snd.snd.snd=(aL (a,b,c,d) 32).snd.snd.snd
def Wu:af:=aj Tv 277 (ap aj8)
theorem gS (s:LD):(dn s).length=200:=by unfold dn;rw [bA,fH]
theorem Nb (s:LD):ar (dn s):=Fs _
theorem Xo {l m:LD} (h:l.length=m.length):jv l 0 l.length m=m:=by
 unfold jv
 rw [h,List.take_zero,List.nil_append,Nat.min_self,Nat.zero_add,List.take_length,List.drop_of_length_le (by omega),List.append_nil]
theorem Re {s:LD} (h:ar s) {u:Int} (hu:0≤u∧u<256) (k:Nat):ar (s.set k ((s.getD k []).set 0 (.int u))):=fun j=>by
 have key:(s.set k ((s.getD k []).set 0 (.int u))).getD j [] =if k=j then (if k<s.length then (s.getD k []).set 0 (.int u) else []) else s.getD j [] :=by
  rw [aw,List.getElem?_set]
  split
  ·split <;>rfl
  ·rw [← aw]
 show 0≤(((s.set k ((s.getD k []).set 0 (.int u))).getD j []).getD 0 .d0).toInt∧(((s.set k ((s.getD k []).set 0 (.int u))).getD j []).getD 0 .d0).toInt<256
 rw [key]
 split
 ·split
  ·cases s.getD k [] with
   | nil=>exact ⟨Int.le_refl 0,show (0:Int)<256 by decide⟩
   | cons a r=>exact hu
  ·exact ⟨Int.le_refl 0,by decide⟩
 ·exact h j
def bT (n:Int) (x:Sp):Prop:=0≤x.1∧x.1≤136∧0≤x.2.1∧x.2.1≤136∧0≤x.2.2.1∧x.2.2.1≤n∧x.2.2.2.length=200∧ar x.2.2.2
theorem ade {n:Int} {x:Sp} (h:bT n x):bT (n+1) (Ad x)∧(Ad x).1<136:=by
 obtain ⟨h1,h2,h3,h4,h5,h6,h7,h8⟩:=h
 unfold Ad
 split
 ·exact ⟨⟨Int.le_refl 0,by show (0:Int)≤136;omega,h3,h4,by show 0≤x.2.2.1+1;omega,by show x.2.2.1+1≤n+1;omega,gS _,Nb _⟩,by show (0:Int)<136;omega⟩
 ·exact ⟨⟨h1,h2,h3,h4,h5,by omega,h7,h8⟩,by omega⟩
theorem agr {n:Int} {x:Sp} (h:bT n x) (h0:x.1<136) {u:Int} (hu:0≤u∧u<256):bT n (T5 x u):=by
 obtain ⟨h1,h2,h3,h4,h5,h6,h7,h8⟩:=h
 exact ⟨by show 0≤x.1+1;omega,by show x.1+1≤136;omega,by show (0:Int)≤136;omega,Int.le_refl 136,h5,h6,by show (List.set _ _ _).length=200;rw [dc];exact h7,Re h8 hu _⟩
theorem ya {l:LD} (hl:ar l) {n:Int} {x:Sp} (h:bT n x):∀ i:Nat,bT (n+i) (bH l x i)
 | 0=>by rw [show n+((0:Nat):Int)=n from by omega];exact h
 | i+1=>by
  have h1:=ade (ya hl h i)
  have h2:=agr h1.1 h1.2 (hl i)
  rw [show n+((i+1:Nat):Int)=n+i+1 from by omega]
  exact h2
theorem Jw {n:Int} {x:Sp} (h:bT n x):bT (n+1) (i8 x)∧(i8 x).2.1<136:=by
 obtain ⟨h1,h2,h3,h4,h5,h6,h7,h8⟩:=h
 unfold i8
 split
 ·exact ⟨⟨Int.le_refl 0,by show (0:Int)≤136;omega,Int.le_refl 0,by show (0:Int)≤136;omega,by show 0≤x.2.2.1+1;omega,by show x.2.2.1+1≤n+1;omega,gS _,Nb _⟩,by show (0:Int)<136;omega⟩
 ·exact ⟨⟨h1,h2,h3,h4,h5,by omega,h7,h8⟩,by omega⟩
theorem lL {n:Int} {x:Sp} (h:bT n x):∀ i:Nat,bT (n+i) (aL x i)
 | 0=>by rw [show n+((0:Nat):Int)=n from by omega];exact h
 | i+1=>by
  obtain ⟨⟨h1,h2,h3,h4,h5,h6,h7,h8⟩,h9⟩:=Jw (lL h i)
  rw [show n+((i+1:Nat):Int)=n+i+1 from by omega]
  exact ⟨h1,h2,by show 0≤(i8 (aL x i)).2.1+1;omega,by show (i8 (aL x i)).2.1+1≤136;omega,h5,h6,h7,h8⟩
theorem mj (x:Sp):∀ i,(c8 x i).length=i
 | 0=>rfl
 | i+1=>by rw [c8,cx,mj x i];rfl
theorem aja:aq7:=fun _=>rfl
theorem acN:(base.with WU).Ok:=ac aaZ (ai am aaZ Tryz.func294 (by kernel_rfl) Tryz.call294 (by kernel_rfl) aja)
theorem ajk:ark:=fun _=>rfl
theorem afL:(base.with SX).Ok:=ac acN (ai am acN Tryz.func295 (by kernel_rfl) Tryz.call295 (by kernel_rfl) ajk)
theorem ajB:Zp:=by
 delta Zp lM
 rintro s _ ⟨h1,h2⟩
 have hw:(ba s 200).length=25:=by rw [fy,h1]
 have hp:=EG hw (Fd s 200)
 refine ⟨h2,aa (fun h=>absurd h1 (av h)) fun _=>⟨trivial,hp.2,⟨by omega,by omega,by omega,by omega⟩,?_⟩⟩
 rw [List.drop_zero,List.take_of_length_le (Nat.le_of_eq (fH _))]
 exact Xo (by rw [h1,bA,fH])
theorem adw:(base.with V8).Ok:=ac afL (ai am afL Tryz.func293 (by kernel_rfl) Tryz.call293 (by kernel_rfl) ajB)
theorem aqz:P83:=fun _=>trivial
theorem c83:(base.with aaS).Ok:=ac adw (ai am adw Tryz.func83 (by kernel_rfl) Tryz.call83 (by kernel_rfl) aqz)
theorem amp:aa2:=by
 delta aa2 lM iR
 intro l _ hl _
 refine ⟨trivial,trivial,⟨by omega,by omega⟩,aa (fun h=> ?_) fun _=>⟨trivial,⟨by omega,by omega,by omega,by omega⟩,trivial,trivial,⟨by omega,by omega,by omega,by omega⟩,rfl,rfl,rfl,rfl,rfl⟩⟩
 have:=av h
 omega
theorem ZC:(base.with VZ).Ok:=ac c83 (ai am c83 Tryz.func130 (by kernel_rfl) Tryz.call130 (by kernel_rfl) amp)
theorem apy:P82:=by
 delta P82 lM
 exact fun l _ h=>⟨h,rfl,rfl,rfl,rfl⟩
theorem c82:(base.with age).Ok:=ac ZC (ai am ZC Tryz.func82 (by kernel_rfl) Tryz.call82 (by kernel_rfl) apy)
theorem aqa:P45:=by
 intro t ht _
 rw [List.drop_zero,List.take_of_length_le (Nat.le_of_eq ht)]
 exact ⟨trivial,⟨by omega,by omega,by omega,by omega⟩,by rw [bA];omega,rfl,rfl,rfl,rfl⟩
theorem c45:(base.with afq).Ok:=ac c82 (ai am c82 Tryz.func45 (by kernel_rfl) Tryz.call45 (by kernel_rfl) aqa)
theorem am0:aef:=by
 delta aef iR Fi
 exact fun a b c s ⟨h1,h2,h3,h4⟩=>⟨⟨h1,h2⟩,⟨by omega,by omega⟩,rfl,rfl,rfl,rfl⟩
theorem agM:(base.with TY).Ok:=ac c45 (ai am c45 Tryz.func271 (by kernel_rfl) Tryz.call271 (by kernel_rfl) am0)
theorem al7:aeO:=by
 delta aeO lM iR bR Fi HJ EO
 rintro l a b c s hll ⟨hx,hl,hn⟩
 refine ⟨trivial,fun _=>⟨⟨⟨rfl,rfl,rfl,by omega,by omega,rfl,rfl,rfl,rfl⟩,trivial⟩,?_⟩⟩
 rintro q l' n i a' b' c' s' _ ⟨rfl,rfl,rfl,h0,h1,ea,eb,ec,es⟩
 obtain ⟨i,rfl⟩:=Int.eq_ofNat_of_zero_le h0
 rw [ax] at ea eb ec es ⊢
 have hN:=ya hl hx i
 have e2:((i:Int)+1).toNat=i+1:=by omega
 have hs1:bH l' (a,b,c,s) (i+1)=T5 (Ad (bH l' (a,b,c,s) i)) (rv l' i):=rfl
 rw [e2,hs1]
 generalize hX:bH l' (a,b,c,s) i=X at *
 obtain ⟨x1,x2,x3,x4⟩:=X
 simp only at ea eb ec es
 subst ea eb ec es
 obtain ⟨k1,k2,k3,k4,k5,k6,k7,k8⟩:=hN
 simp only at k1 k2 k3 k4 k5 k6 k7 k8
 refine aa (fun h=> ?_) fun h=> ?_
 ·have h:=av h
  refine ⟨⟨h0,h⟩,by omega,aa (fun h2=> ?_) fun h2=> ?_⟩
  ·have h2:=av h2
   subst h2
   have hab:Ad (136,b',c',s')=(0,b',c'+1,dn s'):=if_pos rfl
   rw [hab]
   refine ⟨⟨k7,k8,k5,by omega⟩,⟨by omega,by rw [gS];omega⟩,by rw [gS];omega,⟨by omega,by omega⟩,⟨by omega,by omega⟩,⟨rfl,rfl,rfl,by omega,by omega,rfl,rfl,rfl,rfl⟩,by omega⟩
  ·have h2:=au h2
   have hab:Ad (a',b',c',s')=(a',b',c',s'):=if_neg h2
   rw [hab]
   refine ⟨⟨k1,by omega⟩,by omega,⟨by omega,by omega⟩,⟨by omega,by omega⟩,⟨rfl,rfl,rfl,by omega,by omega,rfl,rfl,rfl,rfl⟩,by omega⟩
 ·have h:=au h
  have ei:i=l'.length:=by omega
  rw [← ei,hX]
  exact ⟨rfl,rfl,rfl,rfl⟩
theorem ZN:(base.with V0).Ok:=ac agM (ai aay agM Tryz.func278 (by kernel_rfl) Tryz.call278 (by kernel_rfl) al7)
theorem anb:acv:=by
 delta acv lM iR aR bR Fi HJ EO RA
 rintro n a b c s ⟨hx,hn⟩
 refine ⟨⟨⟨rfl,by omega,by omega,rfl,rfl,rfl,rfl,rfl⟩,trivial⟩,?_⟩
 rintro m i a' b' c' s' o _ ⟨rfl,h0,h1,ea,eb,ec,es,eo⟩
 obtain ⟨i,rfl⟩:=Int.eq_ofNat_of_zero_le h0
 rw [ax] at ea eb ec es eo
 have hN:=lL hx i
 have e2:((i:Int)+1).toNat=i+1:=by omega
 have hs1:aL (a,b,c,s) (i+1)=sq1 (i8 (aL (a,b,c,s) i)):=rfl
 have ho1:c8 (a,b,c,s) (i+1)=c8 (a,b,c,s) i++ [[.int (rv (i8 (aL (a,b,c,s) i)).2.2.2 (i8 (aL (a,b,c,s) i)).2.1.toNat)]] :=rfl
 have hol:=mj (a,b,c,s) i
 rw [e2,hs1,ho1]
 generalize hX:aL (a,b,c,s) i=X at *
 obtain ⟨x1,x2,x3,x4⟩:=X
 simp only at ea eb ec es
 subst ea eb ec es eo
 obtain ⟨k1,k2,k3,k4,k5,k6,k7,k8⟩:=hN
 simp only at k1 k2 k3 k4 k5 k6 k7 k8
 refine aa (fun h=> ?_) fun h=> ?_
 ·have h:=av h
  refine ⟨trivial,aa (fun h2=> ?_) fun h2=> ?_⟩
  ·have h2:=av h2
   subst h2
   have hab:i8 (a',136,c',s')=(0,0,c'+1,dn s'):=if_pos rfl
   rw [hab]
   refine ⟨⟨k7,k8,k5,by omega⟩,⟨by omega,by rw [gS];omega⟩,by rw [gS];omega,⟨by omega,by omega⟩,⟨by omega,by omega⟩,⟨by omega,by omega⟩,⟨rfl,by omega,by omega,rfl,rfl,rfl,rfl,rfl⟩,by omega⟩
  ·have h2:=au h2
   have hab:i8 (a',b',c',s')=(a',b',c',s'):=if_neg h2
   rw [hab]
   refine ⟨⟨k3,by omega⟩,by omega,⟨by omega,by omega⟩,⟨by omega,by omega⟩,⟨by omega,by omega⟩,⟨rfl,by omega,by omega,rfl,rfl,rfl,rfl,rfl⟩,by omega⟩
 ·have h:=au h
  have ei:n.toNat=i:=by omega
  rw [ei,hX]
  exact ⟨rfl,rfl,rfl,rfl,rfl⟩
theorem adR:(base.with Tv).Ok:=ac ZN (ai Yx ZN Tryz.func275 (by kernel_rfl) Tryz.call275 (by kernel_rfl) anb)
theorem ajy:aqK:=by
 intro a b c s h
 have hl:=mj (a,b,c,s) 32
 rw [lA,ak]
 generalize c8 (a,b,c,s) 32=O at *
 generalize aL (a,b,c,s) 32=X at *
 rw [List.drop_zero,List.take_of_length_le (Nat.le_of_eq hl)]
 exact ⟨⟨h,by omega⟩,by omega,by omega,rfl,rfl,rfl,rfl,rfl⟩
theorem YU:(base.with Wu).Ok:=ac adR (ai am adR Tryz.func277 (by kernel_rfl) Tryz.call277 (by kernel_rfl) ajy)
abbrev DM:Pat:= .agg [i64,i64,i64,rb]
def eO (l:LD):Int:=if l.length=0∨1048576<l.length then 7 else 0
def vQ (k t n:Int) (l:LD):Bool:=bif decide (cR k t n [] ≠0) then false else (bif decide (k≠1) then decide (l.length=0) else decide (eO l=0)&&decide (n=l.length))
def cI (k t n:Int) (l:LD):LD:=if vQ k t n l=true then [k%256,t%256,n%256,n / 256%256,n / 65536%256,n / 16777216%256].map ae++l else []
def oO (k t n:Int) (l:LD):Prop:=k=1→t=1
def ala:Ct:= {ps:= [i64],bs:= [],pre:=fun | [.i t] =>t=1 | _=>False,res:=fun _=> .ret (.agg [i64,.nilf,.nils]) [] [.i 1]}
def ahq:Ct:= {ps:= [i64],bs:= [],pre:=fun | [.i t] =>t=1 | _=>False,res:=fun _=> .ret i64 [] [.i 1]}
def aqx:Ct:= {ps:= [i64,rb],bs:= [],pre:=fun | [.i t,.r l] =>t=1 | _=>False,res:=fun | [.i t,.r l] => .ret (.tup [i64,i64]) [] [.i (if eO l=0 then l.length else 0),.i (eO l)] | _=>ag}
def aqS:Ct:= {ps:= [i64,rb],bs:= [],pre:=fun | [.i t,.r l] =>t=1 | _=>False,res:=fun | [.i t,.r l] => .ret i64 [] [.i (eO l)] | _=>ag}
def alx:List Dat→Ann
 | [.i t,.r l] => {cut:= [],loop:= [(6,[la 44 [(1,rb),(7,.ptr 0 0),(8,i64)] [.cells 265 [i64,.nilf,.nils]] (fun | [.r l',.i i,.i s] =>i=0∧eO l=0 | _=>False) (fun _=>0)])]}
 | _=> {cut:= [],loop:= []}
def arz:Ct:= {ps:= [DM],bs:= [],pre:=fun | [.i k,.i t,.i n,.r l] =>oO k t n l | _=>False,res:=fun | [.i k,.i t,.i n,.r l] => .ret .bool [] [.b (vQ k t n l)] | _=>ag}
def ap8:Ct:= {ps:= [DM],bs:= [],pre:=fun | [.i k,.i t,.i n,.r l] =>oO k t n l∧l.length≤1000 | _=>False,res:=fun | [.i k,.i t,.i n,.r l] => .ret (.own 0) [ob] [.r (cI k t n l)] | _=>ag}
def alK:Ct:= {ps:= [JA,DM],bs:= [eL,ob],pre:=fun | [.i k,.i t,.i n,.r l,.i a,.i b,.i c,.r s] =>oO k t n l∧l.length≤1000∧ar l∧bM (a,b,c,s) | _=>False,res:=fun
 | [.i k,.i t,.i n,.r l,.i a,.i b,.i c,.r s] => .ret (.tup []) [eL,ob] [.i (bH (cI k t n l) (a,b,c,s) (cI k t n l).length).1,.i (bH (cI k t n l) (a,b,c,s) (cI k t n l).length).2.1,.i (bH (cI k t n l) (a,b,c,s) (cI k t n l).length).2.2.1,.r (bH (cI k t n l) (a,b,c,s) (cI k t n l).length).2.2.2]
 | _=>ag}
def aqi:Prop:=
 ∀ (a:Int),
 a=1→
 bif decide (a=1) then (1:Int)=1
 else
 bif decide (a=2) then
 Miss 2 eS
 else
 bif decide (a=3) then
 Miss 2 eS
 else
 bif decide (a=4) then
 Miss 2 eS
 else (0:Int)=1
def Vx:af:=aj Wu 138 (ap ala)
def aq8:Prop:=
 ∀ (a:Int),a=1→a=1∧(1:Int)=1
def Vg:af:=aj Vx 136 (ap ahq)
abbrev vE (a:LD):Int:=
 if eO a=0 then ↑a.length else 0
abbrev zo (a:LD):Bool:=
 decide ((↑a.length:Int)=0)
def P91:Prop:=
 ∀ (a:Int) (b:LD),
 lM b→
 a=1→
 a=1∧
 (lM b→
 ((0:Int)≤↑b.length∧(0:Int)<(1:Int))∧
 bif decide (↑b.length%(1:Int)≠0) then
 0=vE b∧(3:Int)=eO b
 else
 lM b→
 (bw false (zo b)=true→lM b)→
 ((!zo b)=true→(0:Int)≤↑b.length∧(0:Int)<(1:Int)∧↑b.length≤IntKind.i64.max)∧
 bif zo b||decide ((1048576:Int)<↑b.length / 1) then
 0=vE b∧(7:Int)=eO b
 else
 lM b→
 ((0:Int)≤↑b.length∧(0:Int)<(1:Int)∧↑b.length≤IntKind.i64.max)∧
 ↑b.length / 1=vE b∧(0:Int)=eO b)
def acB:af:=aj Vg 91 (ap aqx)
def P93:Prop:=
 ∀ (a:Int) (b:LD),
 lM b→
 a=1→
 a=1∧
 bif decide (eO b≠0) then eO b=eO b
 else
 a=1∧
 (((0:Int)=0∧eO b=0)∧True)∧
 ∀ (c:LD) (d n_1:Int),
 lM c→
 d=0∧eO b=0→
 ((bw true !true)=true→lM c)→0=eO b
def agm:af:=aj acB 93 (ap aqS)
def P95:Prop:=
 ∀ (a b c:Int) (d:LD),
 lM d→
 oO a b c d→
 True∧
 bif decide (cR a b c [] ≠(0:Int)) then false=vQ a b c d
 else
 bif decide (a≠1) then lM d→zo d=vQ a b c d
 else
 b=1∧
 (decide (vE d=c)=true→b=1)∧
 (decide (vE d=c)&&decide (eO d=0))=
 vQ a b c d
def adb:af:=aj agm 95 (ap arz)
def P58:Prop:=
 ∀ (a b c:Int) (d:LD),
 lM d→
 oO a b c d∧d.length≤1000→
 oO a b c d∧
 bif !vQ a b c d then [] =cI a b c d
 else
 (0:Int)≤8∧
 (0:Int)≤16∧
 (0:Int)≤24∧
 aR (6+d.length) 1∧
 [[.int (IntKind.u8.wrap a)],[.int (IntKind.u8.wrap b)],[.int (IntKind.u8.wrap c)],
 [.int (IntKind.u8.wrap (aW .i64 c 8))],
 [.int (IntKind.u8.wrap (aW .i64 c 16))],
 [.int (IntKind.u8.wrap (aW .i64 c 24))]] ++
 d=
 cI a b c d
def abg:af:=aj adb 58 (ap ap8)
def aa6:Prop:=
 ∀ (a b c:Int) (d:LD) (e f g:Int) (h:LD),
 lM d→
 oO a b c d∧
 d.length≤1000∧ar d∧bM (e,f,g,h)→
 (oO a b c d∧d.length≤1000)∧
 (bM (e,f,g,h)∧
 ar (cI a b c d)∧
 (cI a b c d).length≤1000000)∧
 (bH (cI a b c d) (e,f,g,h) (cI a b c d).length).fst=
 (bH (cI a b c d) (e,f,g,h)
 (cI a b c d).length).fst∧
 (bH (cI a b c d) (e,f,g,h)
 (cI a b c d).length).snd.fst=
 (bH (cI a b c d) (e,f,g,h)
 (cI a b c d).length).snd.fst∧
 (bH (cI a b c d) (e,f,g,h)
 (cI a b c d).length).snd.snd.fst=
 (bH (cI a b c d) (e,f,g,h)
 (cI a b c d).length).snd.snd.fst∧
 (bH (cI a b c d) (e,f,g,h)
 (cI a b c d).length).snd.snd.snd=
 (bH (cI a b c d) (e,f,g,h)
 (cI a b c d).length).snd.snd.snd
def SW:af:=aj abg 274 (ap alK)
theorem aiN:aqi:=by
 rintro t rfl
 exact rfl
theorem ZR:(base.with Vx).Ok:=ac YU (ai am YU Tryz.func138 (by kernel_rfl) Tryz.call138 (by kernel_rfl) aiN)
theorem aiU:aq8:=fun _ h=>⟨h,rfl⟩
theorem aaK:(base.with Vg).Ok:=ac ZR (ai am ZR Tryz.func136 (by kernel_rfl) Tryz.call136 (by kernel_rfl) aiU)
theorem Rf {l:LD} (h:l.length=0∨1048576<l.length):eO l=7:=if_pos h
theorem X0 {l:LD} (h:¬ (l.length=0∨1048576<l.length)):eO l=0:=if_neg h
theorem apU:P91:=by
 delta P91 lM vE zo
 rintro t l hl rfl
 refine ⟨rfl,fun _=>⟨⟨by omega,by omega⟩,aa (fun h=> ?_) fun _=>fun _=>fun _=>⟨fun _=>⟨by omega,by omega,by show (l.length:Int)≤9223372036854775807;omega⟩,aa (fun h=> ?_) fun h=> ?_⟩⟩⟩
 ·have:=av h
  omega
 ·simp only [Bool.or_eq_true,aK,Int.ediv_one] at h
  rw [Rf (by omega)]
  exact ⟨rfl,rfl⟩
 ·simp only [Bool.or_eq_false_iff,aT,Int.ediv_one] at h
  rw [X0 (by omega)]
  exact fun _=>⟨⟨by omega,by omega,by show (l.length:Int)≤9223372036854775807;omega⟩,by rw [Int.ediv_one];rfl,rfl⟩
theorem c91:(base.with acB).Ok:=ac aaK (ai am aaK Tryz.func91 (by kernel_rfl) Tryz.call91 (by kernel_rfl) apU)
theorem apH:P93:=by
 delta P93 lM
 rintro t l hl rfl
 refine ⟨rfl,aa (fun _=>rfl) fun h=>⟨rfl,⟨⟨rfl,Decidable.not_not.1 (au h)⟩,trivial⟩,?_⟩⟩
 rintro l1 i s _ ⟨_,h2⟩ _
 exact h2.symm
theorem c93:(base.with agm).Ok:=ac c91 (ai alx c91 Tryz.func93 (by kernel_rfl) Tryz.call93 (by kernel_rfl) apH)
theorem aro:P95:=by
 delta P95 lM vE zo
 rintro k t n l hl hp
 unfold vQ
 refine ⟨trivial,aa (fun h=> ?_) fun h=>aa (fun h2=> ?_) fun h2=> ?_⟩
 ·rw [h];rfl
 ·rw [h,h2]
  intro _
  exact decide_eq_decide.2 (by omega)
 ·have hk:k=1:=Decidable.not_not.1 (au h2)
  rw [h,h2]
  refine ⟨hp hk,fun _=>hp hk,?_⟩
  show _=(decide (eO l=0)&&decide (n=l.length))
  by_cases h3:eO l=0
  ·rw [if_pos h3,decide_eq_true h3,Bool.and_true,Bool.true_and]
   exact decide_eq_decide.2 (by omega)
  ·rw [decide_eq_false h3,Bool.and_false,Bool.false_and]
theorem c95:(base.with adb).Ok:=ac c93 (ai am c93 Tryz.func95 (by kernel_rfl) Tryz.call95 (by kernel_rfl) aro)
theorem pY (n:Int):IntKind.u8.wrap n=n%256:=yU n
theorem zV (n:Int) (k:Nat) (hk:k≤64):aW .i64 n (k:Int)=n / 2 ^ k:=by
 unfold aW
 rw [ax,show min k IntKind.i64.bits=k from Nat.min_eq_left hk]
 exact Int.fdiv_eq_ediv_of_nonneg _ (Int.le_of_lt (Int.pow_pos (by decide)))
theorem arL:P58:=by
 delta P58 lM aR
 rintro k t n l hl ⟨hp,hn⟩
 unfold cI
 refine ⟨hp,aa (fun h=> ?_) fun h=>⟨by omega,by omega,by omega,⟨by omega,by omega⟩,?_⟩⟩
 ·have h:vQ k t n l=false:=by simpa using h
  rw [if_neg (by rw [h];decide)]
 ·have h:vQ k t n l=true:=by simpa using h
  rw [if_pos h,pY,pY,pY,pY,pY,pY,show aW .i64 n 8=n / 256 from zV n 8 (by omega),show aW .i64 n 16=n / 65536 from zV n 16 (by omega),show aW .i64 n 24=n / 16777216 from zV n 24 (by omega)]
  rfl
theorem c58:(base.with abg).Ok:=ac c95 (ai am c95 Tryz.func58 (by kernel_rfl) Tryz.call58 (by kernel_rfl) arL)
theorem L6 (k t n:Int) (l:LD):(cI k t n l).length≤l.length+6:=by
 unfold cI
 split
 ·simp;try omega
 ·simp
theorem U3 (k t n:Int) {l:LD} (h:ar l):ar (cI k t n l):=fun j=>by
 unfold cI
 split
 ·have b:∀ m:Int,0≤m%256∧m%256<256:=fun m=>by omega
  match j with
  | 0=>exact b k
  | 1=>exact b t
  | 2=>exact b n
  | 3=>exact b _
  | 4=>exact b _
  | 5=>exact b _
  | j+6=>exact h j
 ·exact ⟨Int.le_refl 0,show (0:Int)<256 by decide⟩
theorem ain:aa6:=by
 delta aa6 lM
 rintro k t n l a b c s hl ⟨hp,hn,hb,hs⟩
 have:=L6 k t n l
 exact ⟨⟨hp,hn⟩,⟨hs,U3 k t n hb,by omega⟩,rfl,rfl,rfl,rfl⟩
theorem Yv:(base.with SW).Ok:=ac c58 (ai am c58 Tryz.func274 (by kernel_rfl) Tryz.call274 (by kernel_rfl) ain)
abbrev EL:Pat:= .fb 277 [JA]
abbrev PM:List CSh:= [.int .u64,.int .u64,.int .u64,.int .u64]
abbrev oe:BPat:= .own 76 PM
def lD (x:Sp):List Int:=jV ((iq (lA x)).map ae)
def pk (x:Sp):Nat→Sp
 | 0=>x
 | i+1=>aL (pk x i) 32
def mZ (x:Sp):Nat→Nat→List Int×Int×Int×Sp
 | 0,i=>([0,0,0,0],64,11,x)
 | f+1,i=>if (cB (lD x) pW 4).2=0 then mZ (aL x 32) f (i+1) else (dG (lD x),(i:Int)+1,0,aL x 32)
def aC (x:Sp):List Int×Int×Int×Sp:=hid (mZ x 64 0)
def Ah (x:Sp):Prop:=bT 900000000 x
def b8 (w:List Int):List CD:= [.int (gI w 0),.int (gI w 1),.int (gI w 2),.int (gI w 3)]
def amS:Ct:= {ps:= [EL],bs:= [eL,ob],pre:=fun | [.i a,.i b,.i c,.r s] =>Ah (a,b,c,s) | _=>False,res:=fun
 | [.i a,.i b,.i c,.r s] => .ret (.tup [w4,i64,i64]) [eL,ob] [.li (aC (a,b,c,s)).1,.i (aC (a,b,c,s)).2.1,.i (aC (a,b,c,s)).2.2.1,.i (aC (a,b,c,s)).2.2.2.1,.i (aC (a,b,c,s)).2.2.2.2.1,.i (aC (a,b,c,s)).2.2.2.2.2.1,.r (aC (a,b,c,s)).2.2.2.2.2.2]
 | _=>ag}
def abA:List Dat→Ann
 | [.i a,.i b,.i c,.r s] => {cut:= [],loop:= [(2,[la 27 [(0,EL),(2,.ptr 2 0),(9,i64)] [eL,ob,qe] (fun
   | [.i i,.i a',.i b',.i c',.r s',.li _] =>0≤i∧i≤64∧(a',b',c',s')=pk (a,b,c,s) i.toNat∧aC (a,b,c,s)=mZ (pk (a,b,c,s) i.toNat) (64-i.toNat) i.toNat
   | _=>False) (fun | [.i i,_,_,_,_,_] =>(64-i).toNat | _=>0)])]}
 | _=> {cut:= [],loop:= []}
def al6:Ct:= {ps:= [i64,EL],bs:= [eL,ob],pre:=fun | [.i n,.i a,.i b,.i c,.r s] =>n=1∧Ah (a,b,c,s) | _=>False,res:=fun
 | [.i n,.i a,.i b,.i c,.r s] => .ite (decide ((aC (a,b,c,s)).2.2.1=0))
   (.ret (.tup [.own 2,i64,i64]) [eL,ob,oe] [.i (aC (a,b,c,s)).2.1,.i 0,.i (aC (a,b,c,s)).2.2.2.1,.i (aC (a,b,c,s)).2.2.2.2.1,.i (aC (a,b,c,s)).2.2.2.2.2.1,.r (aC (a,b,c,s)).2.2.2.2.2.2,.r [b8 (aC (a,b,c,s)).1]])
   (.ret (.tup [.nils,i64,i64]) [eL,ob] [.i (aC (a,b,c,s)).2.1,.i (aC (a,b,c,s)).2.2.1,.i (aC (a,b,c,s)).2.2.2.1,.i (aC (a,b,c,s)).2.2.2.2.1,.i (aC (a,b,c,s)).2.2.2.2.2.1,.r (aC (a,b,c,s)).2.2.2.2.2.2])
 | _=>ag}
def ag2:List Dat→Ann
 | [.i n,.i a,.i b,.i c,.r s] => {cut:= [],loop:= [(4,[la 36 [(1,EL),(7,.own 2),(8,i64),(13,i64),(14,i64)] [eL,ob,oe] (fun
   | [.i t,.i m,.i i,.i a',.i b',.i c',.r s',.r o] =>m=1∧((i=0∧t=0∧a'=a∧b'=b∧c'=c∧s'=s∧o= [])∨(i=1∧(aC (a,b,c,s)).2.2.1=0∧t=(aC (a,b,c,s)).2.1∧(a',b',c',s')=(aC (a,b,c,s)).2.2.2∧o= [b8 (aC (a,b,c,s)).1]))
   | _=>False) (fun | [_,_,.i i,_,_,_,_,_] =>(1-i).toNat | _=>0)])]}
 | _=> {cut:= [],loop:= []}
def ajE:Ct:= {ps:= [JA,i64],bs:= [eL,ob],pre:=fun | [.i n,.i a,.i b,.i c,.r s] =>n=1∧Ah (a,b,c,s) | _=>False,res:=fun
 | [.i n,.i a,.i b,.i c,.r s] => .ite (decide ((aC (a,b,c,s)).2.2.1=0))
   (.ret (.tup [.own 2,i64]) [eL,ob,oe] [.i 0,.i (aC (a,b,c,s)).2.2.2.1,.i (aC (a,b,c,s)).2.2.2.2.1,.i (aC (a,b,c,s)).2.2.2.2.2.1,.r (aC (a,b,c,s)).2.2.2.2.2.2,.r [b8 (aC (a,b,c,s)).1]])
   (.ret (.tup [.nils,i64]) [eL,ob] [.i (aC (a,b,c,s)).2.2.1,.i (aC (a,b,c,s)).2.2.2.1,.i (aC (a,b,c,s)).2.2.2.2.1,.i (aC (a,b,c,s)).2.2.2.2.2.1,.r (aC (a,b,c,s)).2.2.2.2.2.2])
 | _=>ag}
abbrev Cj (a b c:Int)(d:LD):LD:=
 List.map (fun e=> [.int e])
 (List.take 32 (List.drop 0 (iq (lA (a,b,c,d)))))
abbrev N1 (a b c d e f g:Int)(h i:LD):Prop:=
 iR (a+1)∧
 (0≤a+1∧
 a+1≤64∧
 ((aL (b,c,d,h) 32).fst,(aL (b,c,d,h) 32).snd.fst,
 (aL (b,c,d,h) 32).snd.snd.fst,(aL (b,c,d,h) 32).snd.snd.snd)=
 pk (e,f,g,i) (a+1).toNat∧
 aC (e,f,g,i)=
 mZ (pk (e,f,g,i) (a+1).toNat) (64-(a+1).toNat)
 (a+1).toNat)∧
 ((64:Int)-(a+1)).toNat<((64:Int)-a).toNat
abbrev ji (a b c:Int)(d:LD):Int:=
 (aC (a,b,c,d)).snd.fst
abbrev fA (a b c:Int)(d:LD):Int:=
 (aC (a,b,c,d)).snd.snd.fst
abbrev d8 (a b c:Int)(d:LD):Sp:=
 (aC (a,b,c,d)).snd.snd.snd
abbrev gD (a b c:Int)(d:LD):Int:=
 (d8 a b c d).snd.fst
abbrev gC (a b c:Int)(d:LD):Int:=
 (d8 a b c d).snd.snd.fst
abbrev gx (a b c:Int)(d:LD):LD:=
 (d8 a b c d).snd.snd.snd
def acp:Prop:=
 ∀ (a b c:Int) (d:LD),
 Ah (a,b,c,d)→
 (((0:Int)≤0∧
 (0:Int)≤64∧
 (a,b,c,d)=pk (a,b,c,d) 0∧
 aC (a,b,c,d)=
 mZ (pk (a,b,c,d) 0) 64 0)∧
 True)∧
 ∀ (e f g h:Int) (i:LD) (j:List Int),
 j.length=4→
 0≤e∧
 e≤64∧
 (f,g,h,i)=pk (a,b,c,d) e.toNat∧
 aC (a,b,c,d)=
 mZ (pk (a,b,c,d) e.toNat) ((64:Nat)-e.toNat) e.toNat→
 bif decide (e<(64:Int)) then
 bM (f,g,h,i)∧
 True∧
 ((0:Int)≤0∧0≤(↑(32:Nat):Int)∧(↑(32:Nat):Int)≤(↑(32:Nat):Int)∧(0:Int)<(↑(32:Nat):Int))∧
 ar (Cj f g h i)∧
 bif decide ((Cj f g h i).length≠32) then N1 e f g h a b c i d
 else
 bif
 decide
 ((cB (jV (Cj f g h i))
 [4891460686036598785,2896914383306846353,13281191951274694749,3486998266802970665] 4).snd=
 (0:Int)) then
 N1 e f g h a b c i d
 else
 iR (e+1)∧
 dG (jV (Cj f g h i))=
 (aC (a,b,c,d)).fst∧
 e+1=ji a b c d∧
 0=fA a b c d∧
 (aL (f,g,h,i) 32).fst=(d8 a b c d).fst∧
 (aL (f,g,h,i) 32).snd.fst=gD a b c d∧
 (aL (f,g,h,i) 32).snd.snd.fst=gC a b c d∧
 (aL (f,g,h,i) 32).snd.snd.snd=gx a b c d
 else
 [0,0,0,0] =(aC (a,b,c,d)).fst∧
 64=ji a b c d∧
 11=fA a b c d∧
 f=(d8 a b c d).fst∧
 g=gD a b c d∧
 h=gC a b c d∧i=gx a b c d
def TX:af:=aj SW 279 (ap amS)
abbrev oK (a b c:Int)(d:LD):LD:=
 [b8 (aC (a,b,c,d)).fst]
abbrev Oh (a b c:Int)(d e:LD):LD:=
 d++
 [[.int ((aC (a,b,c,e)).fst.getD 0 0),
 .int ((aC (a,b,c,e)).fst.getD 1 0),
 .int ((aC (a,b,c,e)).fst.getD 2 0),
 .int ((aC (a,b,c,e)).fst.getD 3 0)]]
def adZ:Prop:=
 ∀ (a b c d:Int) (e:LD),
 a=1∧Ah (b,c,d,e)→
 ((max a 0=1∧
 ((0:Int)=0∧(0:Int)=0∧b=b∧c=c∧d=d∧e=e∧([] :LD)= [] ∨
 (0:Int)=1∧
 fA b c d e=0∧
 0=ji b c d e∧
 (b,c,d,e)=d8 b c d e∧ [] =oK b c d e))∧
 True)∧
 ∀ (f g h i j k:Int) (m o:LD),
 lM o→
 g=1∧
 (h=0∧f=0∧i=b∧j=c∧k=d∧m=e∧o= [] ∨
 h=1∧
 fA b c d e=0∧
 f=ji b c d e∧
 (i,j,k,m)=d8 b c d e∧o=oK b c d e)→
 bif decide (h<g) then
 Ah (i,j,k,m)∧
 iR (f+ji i j k m)∧
 bif decide (fA i j k m≠0) then
 bif decide (fA b c d e=0) then
 f+ji i j k m=ji b c d e∧
 fA i j k m=0∧
 (d8 i j k m).fst=(d8 b c d e).fst∧
 gD i j k m=gD b c d e∧
 gC i j k m=gC b c d e∧
 gx i j k m=gx b c d e∧
 [] =oK b c d e
 else
 f+ji i j k m=ji b c d e∧
 fA i j k m=fA b c d e∧
 (d8 i j k m).fst=(d8 b c d e).fst∧
 gD i j k m=gD b c d e∧
 gC i j k m=gC b c d e∧
 gx i j k m=gx b c d e
 else
 aR (o.length+1) 32∧
 iR (h+1)∧
 (g=1∧
 (h+1=0∧
 f+ji i j k m=0∧
 (d8 i j k m).fst=b∧
 gD i j k m=c∧
 gC i j k m=d∧
 gx i j k m=e∧Oh i j k o m= [] ∨
 h+1=1∧
 fA b c d e=0∧
 f+ji i j k m=ji b c d e∧
 ((d8 i j k m).fst,gD i j k m,
 gC i j k m,gx i j k m)=
 d8 b c d e∧
 Oh i j k o m=oK b c d e))∧
 ((1:Int)-(h+1)).toNat<((1:Int)-h).toNat
 else
 bif decide (fA b c d e=0) then
 f=ji b c d e∧
 (0:Int)=0∧
 i=(d8 b c d e).fst∧
 j=gD b c d e∧
 k=gC b c d e∧
 m=gx b c d e∧o=oK b c d e
 else
 Miss 2 eS
def Un:af:=aj TX 276 (ap al6)
def ae3:Prop:=
 ∀ (a b c d:Int) (e:LD),
 a=1∧Ah (b,c,d,e)→
 (a=1∧Ah (b,c,d,e))∧
 bif decide (fA b c d e=0) then
 bif decide (fA b c d e=0) then
 (0:Int)=0∧
 (d8 b c d e).fst=(d8 b c d e).fst∧
 gD b c d e=gD b c d e∧
 gC b c d e=gC b c d e∧
 gx b c d e=gx b c d e∧
 oK b c d e=oK b c d e
 else
 Miss 2 eS
 else
 bif decide (fA b c d e=0) then
 fA b c d e=0∧
 (d8 b c d e).fst=(d8 b c d e).fst∧
 gD b c d e=gD b c d e∧
 gC b c d e=gC b c d e∧
 gx b c d e=gx b c d e∧ [] =oK b c d e
 else
 fA b c d e=fA b c d e∧
 (d8 b c d e).fst=(d8 b c d e).fst∧
 gD b c d e=gD b c d e∧
 gC b c d e=gC b c d e∧
 gx b c d e=gx b c d e
def TZ:af:=aj Un 273 (ap ajE)
def Kl (n:Int):Prop:=0≤n∧n<256
theorem aem:Kl 0:=⟨by omega,by omega⟩
theorem XX (x:Sp):(lA x).length=32:=by rw [lA,ak,bA,mj]
theorem US {n:Int} {x:Sp} (h:bT n x):∀ i,∀ r∈c8 x i,Kl (r.getD 0 .d0).toInt
 | 0,r,hr=>by cases hr
 | i+1,r,hr=>by
  rw [c8,List.mem_append] at hr
  rcases hr with hr | hr
  ·exact US h i r hr
  ·rw [List.mem_singleton] at hr
   subst hr
   exact (Jw (lL h i)).1.2.2.2.2.2.2.2 _
theorem Yd {P:Int→Prop} (h0:P 0) {l:List Int} (h:∀ n∈l,P n) (j:Nat):P (l.getD j 0):=by
 rw [aw]
 cases hj:l[j]? with
 | none=>exact h0
 | some a=>exact h a (List.mem_of_getElem? hj)
theorem akA {n:Int} {x:Sp} (h:bT n x) (j:Nat):Kl ((lA x).getD j 0):=by
 refine Yd aem (fun m hm=> ?_) j
 rw [lA,ak,List.mem_map] at hm
 obtain ⟨r,hr,rfl⟩:=hm
 exact US h 32 r hr
theorem ah1 (a b:Int):Kl (dN .u8 a b):=by
 unfold dN
 rw [pY]
 unfold Kl
 omega
theorem afC {l:List Int} (h:∀ j,Kl (l.getD j 0)) (j:Nat):Kl ((iq l).getD j 0):=by
 unfold iq
 rw [aw,List.getElem?_set]
 split
 ·split
  ·exact ah1 _ _
  ·exact aem
 ·rw [← aw];exact h j
theorem Jr {n:Int} {x:Sp} (h:bT n x):∀ i:Nat,bT (n+32*i) (pk x i)
 | 0=>by rw [show n+32*((0:Nat):Int)=n from by omega];exact h
 | i+1=>by
  have:=lL (Jr h i) 32
  rw [show n+32*((i+1:Nat):Int)=n+32*(i:Int)+(32:Nat) from by omega]
  exact this
theorem aF {n m:Int} (hn:n≤m) {x:Sp} (h:bT n x):bT m x:=by
 obtain ⟨h1,h2,h3,h4,h5,h6,h7⟩:=h
 exact ⟨h1,h2,h3,h4,h5,by omega,h7⟩
theorem If:∀ (f i:Nat) (x:Sp),0≤(mZ x f i).2.1∧(mZ x f i).2.1≤64+f+i
 | 0,i,x=>⟨by show (0:Int)≤64;omega,by show (64:Int)≤64+((0:Nat):Int)+i;omega⟩
 | f+1,i,x=>by
  rw [mZ]
  split
  ·have:=If f (i+1) (aL x 32)
   omega
  ·exact ⟨by show (0:Int)≤(i:Int)+1;omega,by show (i:Int)+1≤_;omega⟩
theorem xk (x:Sp):0≤(aC x).2.1∧(aC x).2.1≤128:=by
 have:=If 64 0 x
 rw [aC,ak]
 omega
theorem aiA:acp:=by
 delta acp iR Cj N1 ji fA d8 gD gC gx
 rintro a b c s hc
 refine ⟨⟨⟨by omega,by omega,rfl,by rw [aC,ak];rfl⟩,trivial⟩,?_⟩
 rintro i a' b' c' s' z _ ⟨h0,h1,hst,hfd⟩
 obtain ⟨j,rfl⟩:=Int.eq_ofNat_of_zero_le h0
 rw [ax] at hst hfd
 have hok:=Jr hc j
 have hnx:pk (a,b,c,s) (j+1)=aL (pk (a,b,c,s) j) 32:=rfl
 rw [← hst] at hok hfd hnx
 have hok':bM (a',b',c',s'):=aF (by omega) hok
 refine aa (fun h=> ?_) fun h=> ?_
 ·have h:=av h
  have e1:((j:Int)+1).toNat=j+1:=by omega
  have hl:(iq (lA (a',b',c',s'))).length=32:=by unfold iq;rw [dc,XX]
  rw [List.drop_zero,List.take_of_length_le (Nat.le_of_eq hl),e1,hnx]
  have ey:List.map (fun x=> [CD.int x]) (iq (lA (a',b',c',s')))=(iq (lA (a',b',c',s'))).map ae:=rfl
  rw [ey]
  have ew:jV ((iq (lA (a',b',c',s'))).map ae)=lD (a',b',c',s'):=rfl
  rw [ew]
  have e64:64-j=64-(j+1)+1:=by omega
  have hy:ar ((iq (lA (a',b',c',s'))).map ae):=fun k=>by rw [b7];exact afC (akA hok) k
  have hl2:((iq (lA (a',b',c',s'))).map ae).length=32:=by rw [bA];exact hl
  rw [hl2]
  obtain ⟨q,hq⟩:∃ q,(cB (lD (a',b',c',s')) pW 4).2=q:=⟨_,rfl⟩
  have hq':(cB (lD (a',b',c',s')) [4891460686036598785,2896914383306846353,13281191951274694749,3486998266802970665] 4).2=q:=hq
  rw [hq',hfd,e64,mZ,hq]
  generalize lD (a',b',c',s')=W at *
  generalize aL (a',b',c',s') 32=X at *
  refine ⟨hok',trivial,⟨by omega,by omega,by omega,by omega⟩,hy,?_⟩
  refine aa (fun h3=>absurd rfl (av h3)) fun _=> ?_
  refine aa (fun h2=> ?_) fun h2=> ?_
  ·rw [if_pos (av h2)]
   exact ⟨⟨by omega,by omega⟩,⟨by omega,by omega,rfl,rfl⟩,by omega⟩
  ·rw [if_neg (au h2)]
   generalize dG W=Y at *
   exact ⟨⟨by omega,by omega⟩,rfl,rfl,rfl,rfl,rfl,rfl,rfl⟩
 ·have h:=au h
  have ej:j=64:=by omega
  rw [ej,Nat.sub_self,mZ] at hfd
  rw [hfd]
  exact ⟨rfl,rfl,rfl,rfl,rfl,rfl,rfl⟩
theorem aa7:(base.with TX).Ok:=ac Yv (ai abA Yv Tryz.func279 (by kernel_rfl) Tryz.call279 (by kernel_rfl) aiA)
theorem aiD:adZ:=by
 delta adZ lM iR aR ji fA d8 gD gC gx oK Oh
 rintro n a b c s ⟨rfl,hc⟩
 have ht:=xk (a,b,c,s)
 generalize hF:aC (a,b,c,s)=F at *
 refine ⟨⟨⟨rfl,.inl ⟨rfl,rfl,rfl,rfl,rfl,rfl,rfl⟩⟩,trivial⟩,?_⟩
 rintro t m i a' b' c' s' o _ ⟨rfl,h⟩
 rcases h with ⟨rfl,rfl,rfl,rfl,rfl,rfl,rfl⟩ | ⟨rfl,h1,rfl,h2,rfl⟩
 ·rw [hF]
  refine aa (fun _=>⟨hc,⟨by omega,by omega⟩,aa (fun h=> ?_) fun h=> ?_⟩) fun h=>absurd (au h) (by decide)
  ·have h':=av h
   rw [decide_eq_false h']
   exact ⟨by omega,rfl,rfl,rfl,rfl,rfl⟩
  ·have h':F.2.2.1=0:=Decidable.not_not.1 (au h)
   exact ⟨⟨by decide,by decide⟩,⟨by omega,by omega⟩,⟨rfl,.inr ⟨rfl,h',by omega,rfl,rfl⟩⟩,by decide⟩
 ·refine aa (fun h=>absurd (av h) (by decide)) fun _=> ?_
  rw [decide_eq_true h1]
  obtain ⟨F1,F2,F3,F4,F5,F6,F7⟩:=F
  cases h2
  exact ⟨rfl,rfl,rfl,rfl,rfl,rfl,rfl⟩
theorem aeP:(base.with Un).Ok:=ac aa7 (ai ag2 aa7 Tryz.func276 (by kernel_rfl) Tryz.call276 (by kernel_rfl) aiD)
theorem ahN:ae3:=by
 delta ae3 fA d8 gD gC gx oK
 rintro n a b c s h
 refine ⟨h,aa (fun h2=> ?_) fun h2=> ?_⟩
 ·rw [h2]
  exact ⟨rfl,rfl,rfl,rfl,rfl,rfl⟩
 ·rw [h2]
  exact ⟨rfl,rfl,rfl,rfl,rfl⟩
theorem ag3:(base.with TZ).Ok:=ac aeP (ai am aeP Tryz.func273 (by kernel_rfl) Tryz.call273 (by kernel_rfl) ahN)
abbrev qM:BPat:= .cells 332 [aI,u64,aI]
def tE (x y:Int):Int:=if x<y then -1 else if y<x then 1 else 0
def gp (a b:LD):Nat→Int
 | 0=>0
 | n+1=>if tE (rv a n) (rv b n)=0 then gp a b n else tE (rv a n) (rv b n)
def cZ (a b:LD):Nat:=max a.length b.length
def dV (a b:LD):Nat→List Int×Int
 | 0=>(List.replicate (cZ a b) 0,0)
 | i+1=>((dV a b i).1.set i (iQ (rv a i) (rv b i) (dV a b i).2),bE (rv a i) (rv b i) (dV a b i).2)
def nB (m a:LD) (c:Int):LD:=if c=0∧gp a m (cZ a m)<0 then a else (dV a m (cZ a m)).1.map ae
def fh (a:LD) (bit:Int):Nat→List Int×Int
 | 0=>(List.replicate a.length 0,bit)
 | i+1=>((fh a bit i).1.set i (iE .u64 (de .u64 (rv a i) 1) (fh a bit i).2),aW .u64 (rv a i) 63)
def Am (m a:LD) (bit:Int):LD:=nB m ((fh a bit a.length).1.map ae) (fh a bit a.length).2
def aO (l:LD):Prop:=l.length≤1000∧cE l
def alz:Ct:= {ps:= [aI],bs:= [],pre:=fun | [.r l] =>l.length≤1000 | _=>False,res:=fun | [.r l] => .ret (.own 0) [ow] [.r l] | _=>ag}
def akr:Ct:= {ps:= [aI,i64],bs:= [],pre:=fun | [.r l,.i i] =>0≤i | _=>False,res:=fun | [.r l,.i i] => .ret u64 [] [.i (rv l i.toNat)] | _=>ag}
def aid:Ct:= {ps:= [u64],bs:= [],pre:=fun _=>True,res:=fun _=> .ret .bool [] [.b false]}
def al9:Ct:= {ps:= [u64,u64],bs:= [],pre:=fun _=>True,res:=fun | [.i x,.i y] => .ret i64 [] [.i (tE x y)] | _=>ag}
def aiq:Ct:= {ps:= [aI,aI],bs:= [],pre:=fun | [.r a,.r b] =>a.length≤1000∧b.length≤1000 | _=>False,res:=fun | [.r a,.r b] => .ret i64 [] [.i (gp a b (cZ a b))] | _=>ag}
def YP:List Dat→Ann
 | [.r a,.r b] => {cut:= [],loop:= [(2,[la 27 [(0,aI),(1,aI),(5,i64)] [] (fun | [.r a',.r b',.i i] =>a'=a∧b'=b∧-1≤i∧i<cZ a b∧gp a b (cZ a b)=gp a b (i+1).toNat | _=>False) (fun | [_,_,.i i] =>(i+1).toNat | _=>0)])]}
 | _=> {cut:= [],loop:= []}
def aj9:Ct:= {ps:= [aI,aI,.fn 230 []],bs:= [],pre:=fun | [.r a,.r b] =>aO a∧aO b | _=>False,res:=fun | [.r a,.r b] => .ret (.tup [.own 0,u64]) [ow] [.i (dV a b (cZ a b)).2,.r ((dV a b (cZ a b)).1.map ae)] | _=>ag}
def agE:List Dat→Ann
 | [.r a,.r b] => {cut:= [],loop:= [(4,[la 40 [(0,aI),(1,aI),(2,.fn 230 []),(8,.own 0),(9,u64),(18,i64),(19,i64)] [ow] (fun | [.r a',.r b',.i c,.i n,.i i,.r o] =>a'=a∧b'=b∧n=cZ a b∧0≤i∧i≤n∧c=(dV a b i.toNat).2∧o=(dV a b i.toNat).1.map ae | _=>False) (fun | [_,_,_,.i n,.i i,_] =>(n-i).toNat | _=>0)])]}
 | _=> {cut:= [],loop:= []}
def akj:Ct:= {ps:= [aI,aI],bs:= [],pre:=fun | [.r a,.r b] =>aO a∧aO b | _=>False,res:=fun | [.r a,.r b] => .ret (.tup [.own 0,u64]) [ow] [.i (dV a b (cZ a b)).2,.r ((dV a b (cZ a b)).1.map ae)] | _=>ag}
def akv:Ct:= {ps:= [.ptr 0 0,aI,u64],bs:= [qM],pre:=fun | [.r a,.i c,.r m,.i _,.r _] =>aO a∧aO m | _=>False,res:=fun | [.r a,.i c,.r m,.i v,.r q] => .ret aI [qM] [.r (nB m a c),.r m,.i v,.r q] | _=>ag}
def aml:Ct:= {ps:= [.ptr 0 0,aI,u64],bs:= [qM],pre:=fun | [.r a,.i c,.r m,.i _,.r _] =>aO a∧aO m | _=>False,res:=fun | [.r a,.i c,.r m,.i v,.r q] => .ret aI [qM] [.r (Am m a c),.r m,.i v,.r q] | _=>ag}
def agU:List Dat→Ann
 | [.r a,.i c,.r m,.i v,.r q] =>⟨[(8,[la 34 [(0,.ptr 0 0),(2,u64),(7,aI)] [qM] (fun | [.i b,.r o,.r m',.i v',.r q'] =>m'=m∧v'=v∧q'=q∧b=(fh a c a.length).2∧o=(fh a c a.length).1.map ae | _=>False) (fun _=>0)])],
   [(3,[la 34 [(0,.ptr 0 0),(2,u64),(7,.own 1),(13,aI),(14,i64),(15,i64)] [qM,ow] (fun | [.i b,.r a',.i n,.i i,.r m',.i v',.r q',.r o] =>a'=a∧n=a.length∧0≤i∧i≤n∧m'=m∧v'=v∧q'=q∧b=(fh a c i.toNat).2∧o=(fh a c i.toNat).1.map ae | _=>False) (fun | [_,_,.i n,.i i,_,_,_,_] =>(n-i).toNat | _=>0)])],[]⟩
 | _=> {cut:= [],loop:= []}
def ady:Prop:=
 ∀ (a:LD),
 lM a→
 a.length≤1000→∀ (b:Bool),(b=true→a= [])→bif b then [] =a else aR (0+a.length) 8∧ [] ++a=a
def U9:af:=aj TZ 184 (ap alz)
abbrev gF (a:LD):Int:=
 ↑a.length
abbrev DC (a:Int)(b:LD):Int:=
 ((b.getD a.toNat []).getD 0 (.int 0)).toInt
def Zk:Prop:=
 ∀ (a:LD) (b:Int),
 lM a→
 0≤b→
 lM a→
 bif decide (b<gF a) then
 bR b a∧b.toNat<a.length∧DC b a=rv a b.toNat
 else 0=rv a b.toNat
def Tp:af:=aj U9 245 (ap akr)
def aqU:Prop:=
 ∀ (a:Int),True→decide (a≠a)=false
def U6:af:=aj Tp 248 (ap aid)
def aqC:Prop:=
 ∀ (a b:Int),
 True→
 True∧
 True∧
 bif decide (a<b) then (-1:Int)=tE a b
 else bif decide (b<a) then 1=tE a b else 0=tE a b
def VR:af:=aj U6 244 (ap al9)
abbrev lX (a b:LD):Int:=
 max (gF a) (gF b)
def YD:Prop:=
 ∀ (a b:LD),
 lM a→
 lM b→
 a.length≤1000∧b.length≤1000→
 lM a→
 lM b→
 iR (lX a b-(1:Int))∧
 ((a=a∧
 b=b∧
 (-1:Int)≤lX a b-(1:Int)∧
 lX a b-(1:Int)<(↑(cZ a b):Int)∧
 gp a b (cZ a b)=
 gp a b (lX a b-(1:Int)+1).toNat)∧
 True)∧
 ∀ (c d:LD) (e:Int),
 lM c→
 lM d→
 c=a∧
 d=b∧
 (-1:Int)≤e∧
 e<(↑(cZ a b):Int)∧
 gp a b (cZ a b)=
 gp a b (e+1).toNat→
 bif decide (0≤e) then
 0≤e∧
 0≤e∧
 True∧
 bif
 decide
 (tE (rv c e.toNat)
 (rv d e.toNat)≠
 (0:Int)) then
 tE (rv c e.toNat) (rv d e.toNat)=
 gp a b (cZ a b)
 else
 iR (e-(1:Int))∧
 (c=a∧
 d=b∧
 (-1:Int)≤e-(1:Int)∧
 e-(1:Int)<(↑(cZ a b):Int)∧
 gp a b (cZ a b)=
 gp a b (e-(1:Int)+1).toNat)∧
 (e-(1:Int)+1).toNat<(e+1).toNat
 else 0=gp a b (cZ a b)
def S6:af:=aj VR 233 (ap aiq)
abbrev Cb (a b:LD):LD:=
 List.replicate (lX a b).toNat [.int 0]
abbrev wn (a b:LD):LD:=
 List.map ae (dV a b (cZ a b)).fst
def agx:Prop:=
 ∀ (a b:LD),
 lM a→
 lM b→
 aO a∧aO b→
 lM a→
 lM b→
 (0≤lX a b∧
 lX a b≤lX a b∧
 (↑(8:Nat):Int)*lX a b≤140737488355328∧
 lX a b≤9223372036854775807)∧
 (lM (Cb a b)→
 ((a=a∧
 b=b∧
 (↑(Cb a b).length:Int)=(↑(cZ a b):Int)∧
 (0:Int)≤0∧
 0≤(↑(Cb a b).length:Int)∧
 0=(dV a b 0).snd∧
 Cb a b=
 List.map ae (dV a b 0).fst)∧
 True)∧
 ∀ (c d:LD) (e f g:Int) (h:LD),
 lM c→
 lM d→
 lM h→
 c=a∧
 d=b∧
 f=(↑(cZ a b):Int)∧
 0≤g∧
 g≤f∧
 e=(dV a b g.toNat).snd∧
 h=List.map ae (dV a b g.toNat).fst→
 bif decide (g<f) then
 0≤g∧
 0≤g∧
 (al (rv c g.toNat)∧
 al (rv d g.toNat)∧0≤e∧e≤1)∧
 bR g h∧
 g.toNat<h.length∧
 iR (g+1)∧
 (c=a∧
 d=b∧
 f=(↑(cZ a b):Int)∧
 0≤g+1∧
 g+1≤f∧
 bE (rv c g.toNat)
 (rv d g.toNat) e=
 (dV a b (g+1).toNat).snd∧
 h.set g.toNat
 ((h.getD g.toNat []).set 0
 (.int
 (iQ (rv c g.toNat)
 (rv d g.toNat) e)))=
 List.map ae
 (dV a b (g+1).toNat).fst)∧
 (f-(g+1)).toNat<(f-g).toNat
 else
 e=(dV a b (cZ a b)).snd∧
 h=wn a b)
def VK:af:=aj S6 247 (ap aj9)
def abX:Prop:=
 ∀ (a b:LD),
 lM a→
 lM b→
 aO a∧aO b→
 (aO a∧aO b)∧
 (dV a b (cZ a b)).snd=
 (dV a b (cZ a b)).snd∧
 wn a b=wn a b
def WN:af:=aj VK 237 (ap akj)
def agX:Prop:=
 ∀ (a:LD) (b:Int) (c:LD) (d:Int) (e:LD),
 lM a→
 lM c→
 lM e→
 aO a∧aO c→
 (decide (b=0)=true→a.length≤1000∧c.length≤1000)∧
 bif decide (b=0)&&decide (gp a c (cZ a c)<(0:Int)) then
 a=nB c a b∧c=c∧d=d∧e=e
 else
 (aO a∧aO c)∧
 wn a c=nB c a b∧c=c∧d=d∧e=e
def Uz:af:=aj WN 209 (ap akv)
def ae9:Prop:=
 ∀ (a:LD) (b:Int) (c:LD) (d:Int) (e:LD),
 lM a→
 lM c→
 lM e→
 aO a∧aO c→
 lM a→
 (0≤gF a∧
 gF a≤gF a∧
 (↑(8:Nat):Int)*gF a≤140737488355328∧
 gF a≤9223372036854775807)∧
 (lM a→
 ((a=a∧
 gF a=gF a∧
 (0:Int)≤0∧
 0≤gF a∧
 c=c∧
 d=d∧
 e=e∧
 b=(fh a b 0).snd∧
 List.replicate (gF a).toNat [.int 0] =
 List.map ae (fh a b 0).fst)∧
 True)∧
 ∀ (f:Int) (g:LD) (h i:Int) (j:LD) (k:Int) (m o:LD),
 lM g→
 lM j→
 lM m→
 lM o→
 g=a∧
 h=gF a∧
 0≤i∧
 i≤h∧
 j=c∧
 k=d∧
 m=e∧
 f=(fh a b i.toNat).snd∧
 o=List.map ae (fh a b i.toNat).fst→
 bif decide (i<h) then
 bR i g∧
 i.toNat<g.length∧
 (0:Int)≤1∧
 bR i o∧
 i.toNat<o.length∧
 (0:Int)≤63∧
 iR (i+1)∧
 (g=a∧
 h=gF a∧
 0≤i+1∧
 i+1≤h∧
 j=c∧
 k=d∧
 m=e∧
 aW .u64 (DC i g) 63=
 (fh a b (i+1).toNat).snd∧
 o.set i.toNat
 ((o.getD i.toNat []).set 0
 (.int
 (iE .u64
 (de .u64 (DC i g) 1) f)))=
 List.map ae
 (fh a b (i+1).toNat).fst)∧
 (h-(i+1)).toNat<(h-i).toNat
 else
 (j=c∧
 k=d∧
 m=e∧
 f=(fh a b a.length).snd∧
 o=List.map ae (fh a b a.length).fst)∧
 True)∧
 ∀ (f:Int) (g h:LD) (i:Int) (j:LD),
 lM g→
 lM h→
 lM j→
 h=c∧
 i=d∧
 j=e∧
 f=(fh a b a.length).snd∧
 g=List.map ae (fh a b a.length).fst→
 (aO g∧aO h)∧
 nB h g f=Am c a b∧h=c∧i=d∧j=e
def TA:af:=aj Uz 185 (ap aml)
theorem am3:ady:=by
 delta ady lM aR
 intro l hl h1 β hβ
 refine aa (fun h=>(hβ h).symm) fun _=>⟨⟨by omega,by omega⟩,rfl⟩
theorem afj:(base.with U9).Ok:=ac ag3 (ai am ag3 Tryz.func184 (by kernel_rfl) Tryz.call184 (by kernel_rfl) am3)
theorem vu {l:LD} {i:Nat} (h:l.length≤i):rv l i=0:=by
 have e:l.getD i [] = [] :=by rw [aw,fW h];rfl
 show ((l.getD i []).getD 0 .d0).toInt=0
 rw [e]
 rfl
theorem akC:Zk:=by
 delta Zk lM bR gF DC
 intro l n hl h0 _
 refine aa (fun h=> ?_) fun h=> ?_
 ·have:=av h
  exact ⟨⟨h0,this⟩,by omega,rfl⟩
 ·have:=au h
  exact (vu (by omega)).symm
theorem Zn:(base.with Tp).Ok:=ac afj (ai am afj Tryz.func245 (by kernel_rfl) Tryz.call245 (by kernel_rfl) akC)
theorem ahd:aqU:=fun n _=>decide_eq_false fun h=>h rfl
theorem agQ:(base.with U6).Ok:=ac Zn (ai am Zn Tryz.func248 (by kernel_rfl) Tryz.call248 (by kernel_rfl) ahd)
theorem aiw:aqC:=by
 intro x y _
 unfold tE
 refine ⟨trivial,trivial,aa (fun h=> ?_) fun h=>aa (fun h2=> ?_) fun h2=> ?_⟩
 ·rw [if_pos (av h)]
 ·rw [if_neg (au h),if_pos (av h2)]
 ·rw [if_neg (au h),if_neg (au h2)]
theorem agt:(base.with VR).Ok:=ac agQ (ai am agQ Tryz.func244 (by kernel_rfl) Tryz.call244 (by kernel_rfl) aiw)
theorem ahL:YD:=by
 delta YD lM iR gF lX
 rintro a b _ _ ⟨ha,hb⟩ _ _
 have hm:max (a.length:Int) (b.length:Int)=(cZ a b:Int):=by unfold cZ;omega
 rw [hm]
 have hm2:cZ a b≤1000:=by unfold cZ;omega
 generalize cZ a b=M at *
 refine ⟨⟨by omega,by omega⟩,⟨⟨rfl,rfl,by omega,by omega,by rw [show ((M:Int)-1+1).toNat=M from by omega]⟩,trivial⟩,?_⟩
 rintro a' b' n _ _ ⟨rfl,rfl,h0,h1,h2⟩
 refine aa (fun h=> ?_) fun h=> ?_
 ·have h:=av h
  obtain ⟨i,rfl⟩:=Int.eq_ofNat_of_zero_le h
  rw [ax]
  have e1:((i:Int)+1).toNat=i+1:=by omega
  rw [e1,gp] at h2
  refine ⟨h,h,trivial,aa (fun h3=> ?_) fun h3=>⟨⟨by omega,by omega⟩,⟨rfl,rfl,by omega,by omega,?_⟩,by omega⟩⟩
  ·rw [h2,if_neg (av h3)]
  ·rw [h2,if_pos (Decidable.not_not.1 (au h3)),show ((i:Int)-1+1).toNat=i from by omega]
 ·have h:=au h
  rw [h2,show (n+1).toNat=0 from by omega]
  rfl
theorem agI:(base.with S6).Ok:=ac agt (ai YP agt Tryz.func233 (by kernel_rfl) Tryz.call233 (by kernel_rfl) ahL)
theorem ug (a b:LD):∀ i,(dV a b i).1.length=cZ a b
 | 0=>List.length_replicate
 | i+1=>by rw [dV,dc,ug a b i]
theorem TV (a b:LD):∀ i,0≤(dV a b i).2∧(dV a b i).2≤1
 | 0=>⟨Int.le_refl 0,show (0:Int)≤1 by decide⟩
 | i+1=>C5 _ _ _
theorem Nx (a b:LD):∀ i,aq (dV a b i).1
 | 0=>fun j=>by
  rw [dV,aw,List.getElem?_replicate]
  split <;>exact bh
 | i+1=>gu (Nx a b i) (Tm _ _ _) i
theorem Le {L:List Int} {i:Nat} (h:i<L.length) (v:Int):(L.map ae).set i (((L.map ae).getD i []).set 0 (.int v))=(L.set i v).map ae:=by
 rw [u7 h,List.map_set]
 rfl
theorem ahm:agx:=by
 delta agx lM iR bR gF lX Cb wn
 rintro a b _ _ ⟨ha,hb⟩ _ _
 have hm:max (a.length:Int) (b.length:Int)=(cZ a b:Int):=by unfold cZ;omega
 rw [hm,ax,List.length_replicate]
 have hm2:cZ a b≤1000:=by have:=ha.1;have:=hb.1;unfold cZ;omega
 have hl:=ug a b
 have hc:=TV a b
 have h0':List.replicate (cZ a b) [CD.int 0] =List.map ae (dV a b 0).1:=by rw [dV,List.map_replicate];rfl
 refine ⟨⟨by omega,by omega,by omega,by omega⟩,fun _=>⟨⟨⟨rfl,rfl,rfl,by omega,by omega,rfl,h0'⟩,trivial⟩,?_⟩⟩
 rintro a' b' c n i o _ _ _ ⟨rfl,rfl,rfl,h0,h1,rfl,rfl⟩
 obtain ⟨j,rfl⟩:=Int.eq_ofNat_of_zero_le h0
 rw [ax]
 refine aa (fun h=> ?_) fun h=> ?_
 ·have h:=av h
  have hj:j<(dV a' b' j).1.length:=by rw [hl];omega
  rw [bA,Le hj,show ((j:Int)+1).toNat=j+1 from by omega]
  exact ⟨h0,h0,⟨ha.2 j,hb.2 j,hc j⟩,⟨h0,by omega⟩,hj,⟨by omega,by omega⟩,⟨rfl,rfl,rfl,by omega,by omega,rfl,rfl⟩,by omega⟩
 ·have h:=au h
  rw [show j=cZ a' b' from by omega]
  exact ⟨rfl,rfl⟩
theorem af9:(base.with VK).Ok:=ac agI (ai agE agI Tryz.func247 (by kernel_rfl) Tryz.call247 (by kernel_rfl) ahm)
theorem aiK:abX:=by
 delta abX lM wn
 exact fun a b _ _ h=>⟨h,rfl,rfl⟩
theorem Yr:(base.with WN).Ok:=ac af9 (ai am af9 Tryz.func237 (by kernel_rfl) Tryz.call237 (by kernel_rfl) aiK)
theorem am2:agX:=by
 delta agX lM wn
 rintro a c m v q _ _ _ ⟨ha,hm⟩
 unfold nB
 refine ⟨fun _=>⟨ha.1,hm.1⟩,aa (fun h=> ?_) fun h=>⟨⟨ha,hm⟩,?_,rfl,rfl,rfl⟩⟩
 ·simp only [cV,aK] at h
  rw [if_pos h]
  exact ⟨rfl,rfl,rfl,rfl⟩
 ·simp only [Bool.and_eq_false_iff,aT] at h
  rw [if_neg (fun k=>h.elim (fun h=>h k.1) fun h=>h k.2)]
theorem agc:(base.with Uz).Ok:=ac Yr (ai am Yr Tryz.func209 (by kernel_rfl) Tryz.call209 (by kernel_rfl) am2)
theorem qv (a:LD) (c:Int):∀ i,(fh a c i).1.length=a.length
 | 0=>List.length_replicate
 | i+1=>by rw [fh,dc,qv a c i]
theorem GU (a:LD) (c:Int):∀ i,aq (fh a c i).1
 | 0=>fun j=>by
  rw [fh,aw,List.getElem?_replicate]
  split <;>exact bh
 | i+1=>gu (GU a c i) (Bz _ _) i
theorem ajZ:ae9:=by
 delta ae9 lM iR bR gF DC
 rintro a c m v q _ _ _ ⟨ha,hm⟩ _
 have hl:=qv a c
 have ha1:=ha.1
 have h0':List.replicate ((a.length:Int)).toNat [CD.int 0] =List.map ae (fh a c 0).1:=by rw [ax,fh,List.map_replicate];rfl
 refine ⟨⟨by omega,by omega,by omega,by omega⟩,fun _=>⟨⟨⟨rfl,rfl,by omega,by omega,rfl,rfl,rfl,rfl,h0'⟩,trivial⟩,?_⟩,?_⟩
 ·rintro b a' n i m' v' q' o _ _ _ _ ⟨rfl,rfl,h0,h1,rfl,rfl,rfl,rfl,rfl⟩
  obtain ⟨j,rfl⟩:=Int.eq_ofNat_of_zero_le h0
  rw [ax]
  refine aa (fun h=> ?_) fun h=> ?_
  ·have h:=av h
   have hj:j<(fh a' c j).1.length:=by rw [hl];omega
   rw [bA,Le hj,show ((j:Int)+1).toNat=j+1 from by omega]
   exact ⟨⟨h0,h⟩,by omega,by omega,⟨h0,by omega⟩,hj,by omega,⟨by omega,by omega⟩,⟨rfl,rfl,by omega,by omega,rfl,rfl,rfl,rfl,rfl⟩,by omega⟩
  ·have h:=au h
   rw [show j=a'.length from by omega]
   exact ⟨⟨rfl,rfl,rfl,rfl,rfl⟩,trivial⟩
 ·rintro b o m' v' q' _ _ _ ⟨rfl,rfl,rfl,rfl,rfl⟩
  exact ⟨⟨⟨by rw [bA,hl];exact ha1,fun i=>by rw [b7];exact GU a c _ i⟩,hm⟩,rfl,rfl,rfl,rfl⟩
theorem afg:(base.with TA).Ok:=ac agc (ai agU agc Tryz.func185 (by kernel_rfl) Tryz.call185 (by kernel_rfl) ajZ)
def apO:Ct:= {ps:= [.rd eR],bs:= [],pre:=fun | [.r l] =>l.length≤1000000 | _=>False,res:=fun | [.r l] => .ret (.own 0) [.own 116 eR] [.r l] | _=>ag}
def aqW:Ct:= {ps:= [.ptr 0 0],bs:= [gA],pre:=fun | [.r l,.i _] =>l.length≤1000000 | _=>False,res:=fun | [.r l,.i n] => .ret (.own 1) [gA,.own 116 eR] [.r l,.i n,.r l] | _=>ag}
def wo:LD:=([97,118,111,117,99,104,47,116,114,97,110,115,99,114,105,112,116,47,49] :List Int).map ae
def Ra (k:Int) (l:LD):List Int:=lu [[.sl wo],[.sl [[.int (IntKind.u8.wrap k)]]],[.sl (ah (bZ (az l)).1)]]
def jp (k:Int) (l:LD):List Int:=if (bZ (az l)).2.2=0 then Ra k l else List.replicate 32 0
def apZ:Ct:= {ps:= [i64,.rd eR],bs:= [],pre:=fun | [.i k,.r l] =>(k=1∨k=2)∧ls l | _=>False,res:=fun
 | [.i k,.r l] => .ret (.tup [Ab,i64,i64]) [] [.li (jp k l),.i (if (bZ (az l)).2.2=0 then -1 else (bZ (az l)).2.1),.i (bZ (az l)).2.2]
 | _=>ag}
def P81:Prop:=
 ∀ (a:LD),
 lM a→
 a.length≤1000000→∀ (b:Bool),(b=true→a= [])→bif b then [] =a else aR (0+a.length) 40∧ [] ++a=a
def abk:af:=aj TA 81 (ap apO)
def P44:Prop:=
 ∀ (a:LD) (b:Int),lM a→a.length≤1000000→a.length≤1000000∧a=a∧b=b∧a=a
def aen:af:=aj abk 44 (ap aqW)
abbrev Mz (a:Int)(b:LD):Prop:=
 [0,0,0,0,0,0,0,0,0,0,0,0,0,0,0,0,
 (0:Int),0,0,0,0,0,0,0,0,0,0,0,0,0,0,
 (0:Int)] =
 jp a b
abbrev ql (a:LD):Int:=
 (bZ (az a)).snd.snd
abbrev NQ (a:Int)(b:LD):LD:=
 [[.sl
 [[.int 97],[.int 118],[.int 111],[.int 117],[.int 99],[.int 104],
 [.int 47],[.int 116],[.int 114],[.int 97],[.int 110],[.int 115],
 [.int 99],[.int 114],[.int 105],[.int 112],[.int 116],[.int 47],
 [.int 49]]],
 [.sl [[.int (IntKind.u8.wrap a)]]],
 [.sl (ah (bZ (az b)).fst)]]
def P30:Prop:=
 ∀ (a:Int) (b:LD),
 lM b→
 (a=1∨a=2)∧ls b→
 bif decide (a≠1)&&decide (a≠2) then
 Mz a b∧
 ((-1:Int)=
 if ql b=0 then (-1:Int)
 else (bZ (az b)).snd.fst)∧
 15=ql b
 else
 ls b∧
 bif decide (ql b≠0) then
 Mz a b∧
 ((bZ (az b)).snd.fst=
 if ql b=0 then (-1:Int)
 else (bZ (az b)).snd.fst)∧
 ql b=ql b
 else
 MP (NQ a b)∧
 lu (NQ a b)=jp a b∧
 ((-1:Int)=
 if ql b=0 then (-1:Int)
 else (bZ (az b)).snd.fst)∧
 0=ql b
def abz:af:=aj aen 30 (ap apZ)
theorem qs {l:LD} {i:Nat} (h:l.length≤i):0≤rv l i∧rv l i<256:=by rw [vu h];exact ⟨by decide,by decide⟩
theorem WH (b:List UInt8):ar (ah b):=fun i=>by
 rcases Nat.lt_or_ge i b.length with h | h
 ·have e:rv (ah b) i=((b.getD i 0).toNat:Int):=qC b h
  have:=UInt8.toNat_lt (b.getD i 0)
  rw [e]
  omega
 ·exact qs (by rw [aA];exact h)
theorem wr8 (n:Int):0≤IntKind.u8.wrap n∧IntKind.u8.wrap n<256:=by rw [pY];omega
theorem Vq {n:Int} (h:0≤n∧n<256):ar [[.int n]] :=fun i=>by
 match i with
 | 0=>exact h
 | _+1=>exact qs (by simp)
theorem ai5:ar wo:=fun i=>by
 unfold wo
 rw [b7]
 rw [aw]
 cases hb:([97,118,111,117,99,104,47,116,114,97,110,115,99,114,105,112,116,47,49] :List Int)[i]? with
 | none=>exact ⟨by decide,by decide⟩
 | some x=>
  have:=List.mem_of_getElem? hb
  revert x
  have:∀ x∈([97,118,111,117,99,104,47,116,114,97,110,115,99,114,105,112,116,47,49] :List Int),0≤x∧x<256:=by decide
  exact fun x _ h=>this x h
theorem aju {a b c:LD} (ha:ar a) (hb:ar b) (hc:ar c):MP [[.sl a],[.sl b],[.sl c]] :=fun i=>by
 match i with
 | 0=>exact ha
 | 1=>exact hb
 | 2=>exact hc
 | _+3=>exact fun j=>qs (l:= []) (Nat.zero_le j)
theorem aqX:P81:=by
 delta P81 lM aR
 intro l _ h β hβ
 refine aa (fun e=>(hβ e).symm) fun _=>⟨⟨by omega,by omega⟩,rfl⟩
theorem c81:(base.with abk).Ok:=ac afg (ai am afg Tryz.func81 (by kernel_rfl) Tryz.call81 (by kernel_rfl) aqX)
theorem ap3:P44:=by
 delta P44 lM
 exact fun l n _ h=>⟨h,rfl,rfl,rfl⟩
theorem c44:(base.with aen).Ok:=ac c81 (ai am c81 Tryz.func44 (by kernel_rfl) Tryz.call44 (by kernel_rfl) ap3)
theorem aqJ:P30:=by
 delta P30 lM Mz ql NQ
 rintro k l _ ⟨hk,hp⟩
 refine aa (fun h=> ?_) fun _=>⟨hp,aa (fun h=> ?_) fun h=> ?_⟩
 ·simp only [cV,aK] at h
  omega
 ·have h:=av h
  unfold jp
  rw [if_neg h,if_neg h]
  exact ⟨rfl,rfl,rfl⟩
 ·have h:=Decidable.not_not.1 (au h)
  unfold jp
  rw [if_pos h,if_pos h]
  exact ⟨aju ai5 (Vq (wr8 k)) (WH _),rfl,rfl,h.symm⟩
theorem c30:(base.with abz).Ok:=ac c44 (ai am c44 Tryz.func30 (by kernel_rfl) Tryz.call30 (by kernel_rfl) aqJ)
def kR:List UInt8:= [0,1,2,2,3,3,3,3,4,4,4,4,4,4,4,4,5,5,5,5,5,5,5,5,5,5,5,5,5,5,5,5,6,6,6,6,6,6,6,6,6,6,6,6,6,6,6,6,6,6,6,6,6,6,6,6,6,6,6,6,6,6,6,6,7,7,7,7,7,7,7,7,7,7,7,7,7,7,7,7,7,7,7,7,7,7,7,7,7,7,7,7,7,7,7,7,7,7,7,7,7,7,7,7,7,7,7,7,7,7,7,7,7,7,7,7,7,7,7,7,7,7,7,7,7,7,7,7,8,8,8,8,8,8,8,8,8,8,8,8,8,8,8,8,8,8,8,8,8,8,8,8,8,8,8,8,8,8,8,8,8,8,8,8,8,8,8,8,8,8,8,8,8,8,8,8,8,8,8,8,8,8,8,8,8,8,8,8,8,8,8,8,8,8,8,8,8,8,8,8,8,8,8,8,8,8,8,8,8,8,8,8,8,8,8,8,8,8,8,8,8,8,8,8,8,8,8,8,8,8,8,8,8,8,8,8,8,8,8,8,8,8,8,8,8,8,8,8,8,8,8,8,8,8,8,8]
def cK (x:Int):Int:=((bitLen x.toNat:Nat):Int)
def ck (a:LD):Nat→Int
 | 0=>0
 | n+1=>if rv a n=0 then ck a n else 64*n+cK (rv a n)
def pR:LD:=pW.map ae
def JR (m:Int):Nat→Int
 | 0=>1
 | i+1=>IntKind.u64.wrap (JR m i*IntKind.u64.wrap (2-IntKind.u64.wrap (m*JR m i)))
def uc (m:Int):Int:=IntKind.u64.wrap (0-JR m 6)
def pU (m:LD):Nat→LD
 | 0=>(List.replicate m.length [.int 0]).set 0 [.int 1]
 | i+1=>Am m (pU m i) 0
def ff (m:LD):LD:=hid (pU m (128*m.length))
def xj (m:LD):Prop:=2≤m.length∧m.length≤16∧cE m∧dN .u64 (rv m 0) 1≠0∧rv m (m.length-1)≠0
def pi (m a:LD) (k:Nat):Nat→LD
 | 0=>List.replicate m.length [.int 0]
 | i+1=>Am m (pi m a k i) (dN .u64 (aW .u64 (rv a ((k-1-i) / 64)) (((k-1-i)%64:Nat):Int)) 1)
def fa (m a:LD):LD:=hid (pi m a (ck a a.length).toNat (ck a a.length).toNat)
def ak7:Ct:= {ps:= [u64],bs:= [],pre:=fun | [.i x] =>al x | _=>False,res:=fun | [.i x] => .ret i64 [] [.i (cK x)] | _=>ag}
def amC:Ct:= {ps:= [aI],bs:= [],pre:=fun | [.r a] =>aO a | _=>False,res:=fun | [.r a] => .ret i64 [] [.i (ck a a.length)] | _=>ag}
def aa0:List Dat→Ann
 | [.r a] => {cut:= [],loop:= [(2,[la 24 [(0,aI),(3,i64)] [] (fun | [.r a',.i i] =>a'=a∧-1≤i∧i<a.length∧ck a a.length=ck a (i+1).toNat | _=>False) (fun | [_,.i i] =>(i+1).toNat | _=>0)])]}
 | _=> {cut:= [],loop:= []}
def ai1:Ct:= {ps:= [aI],bs:= [],pre:=fun | [.r l] =>xj l | _=>False,res:=fun | [.r l] => .ret (.tup [.ptr 0 0,i64]) [qM] [.i 0,.r l,.i (uc (rv l 0)),.r (ff l)] | _=>ag}
def acu:List Dat→Ann
 | [.r l] =>⟨[],[(6,[la 88 [(0,aI),(4,.ptr 0 0),(5,u64),(45,i64)] [qM] (fun | [.r l',.i x,.i i,.r m,.i _,.r q] =>l'=l∧m=l∧0≤i∧i≤6∧x=JR (rv l 0) i.toNat | _=>False) (fun | [_,_,.i i,_,_,_] =>(6-i).toNat | _=>0)]),
   (13,[la 88 [(4,.ptr 0 0),(74,i64),(75,i64)] [qM] (fun | [.i n,.i i,.r m,.i v,.r q] =>n=128*(l.length:Int)∧0≤i∧i≤n∧m=l∧v=uc (rv l 0)∧q=pU l i.toNat | _=>False) (fun | [.i n,.i i,_,_,_] =>(n-i).toNat | _=>0)])],[]⟩
 | _=> {cut:= [],loop:= []}
def Ms:Ct:= {ps:= [.ptr 0 0,aI],bs:= [qM],pre:=fun | [.r a,.r m,.i _,.r _] =>aO a∧aO m | _=>False,res:=fun | [.r a,.r m,.i v,.r q] => .ret aI [qM] [.r (fa m a),.r m,.i v,.r q] | _=>ag}
def Y0:List Dat→Ann
 | [.r a,.r m,.i v,.r q] => {cut:= [],loop:= [(3,[la 33 [(0,.ptr 0 0),(1,aI),(5,aI),(6,i64)] [qM] (fun | [.r a',.r o,.i i,.r m',.i v',.r q'] =>a'=a∧m'=m∧v'=v∧q'=q∧-1≤i∧i<ck a a.length∧o=pi m a (ck a a.length).toNat ((ck a a.length).toNat-(i+1).toNat) | _=>False) (fun | [_,_,.i i,_,_,_] =>(i+1).toNat | _=>0)])]}
 | _=> {cut:= [],loop:= []}
abbrev sZ (a:Int):Int:=
 aW .u64 (aW .u64 a 32) 16
abbrev NY (a:Int):Int:=
 (32:Int)+16+8+
 IntKind.i64.wrap
 (↑(kR.getD (IntKind.u8.wrap (aW .u64 (sZ a) 8)).toNat
 (0:UInt8)).toNat:
 Int)
abbrev Nn (a:Int):Int:=
 (32:Int)+16+
 IntKind.i64.wrap (↑(kR.getD (IntKind.u8.wrap (sZ a)).toNat (0:UInt8)).toNat:Int)
abbrev Gr (a:Int):Int:=
 IntKind.u8.wrap (aW .u64 (aW .u64 a 32) 8)
abbrev MJ (a:Int):Int:=
 (32:Int)+8+IntKind.i64.wrap (↑(kR.getD (Gr a).toNat (0:UInt8)).toNat:Int)
abbrev Mr (a:Int):Int:=
 (32:Int)+IntKind.i64.wrap (↑(kR.getD (IntKind.u8.wrap (aW .u64 a 32)).toNat (0:UInt8)).toNat:Int)
abbrev GM (a:Int):Int:=
 IntKind.u8.wrap (aW .u64 (aW .u64 a 16) 8)
abbrev NN (a:Int):Int:=
 (0:Int)+16+8+
 IntKind.i64.wrap (↑(kR.getD (GM a).toNat (0:UInt8)).toNat:Int)
abbrev Mm (a:Int):Int:=
 (0:Int)+16+
 IntKind.i64.wrap (↑(kR.getD (IntKind.u8.wrap (aW .u64 a 16)).toNat (0:UInt8)).toNat:Int)
abbrev M7 (a:Int):Int:=
 (0:Int)+8+
 IntKind.i64.wrap (↑(kR.getD (IntKind.u8.wrap (aW .u64 a 8)).toNat (0:UInt8)).toNat:Int)
abbrev IS (a:Int):Int:=
 (0:Int)+IntKind.i64.wrap (↑(kR.getD (IntKind.u8.wrap a).toNat (0:UInt8)).toNat:Int)
def abW:Prop:=
 ∀ (a:Int),
 al a→
 bif decide (4294967296≤a) then
 (0:Int)≤32∧
 bif decide (65536≤aW .u64 a 32) then
 (0:Int)≤16∧
 iR ((32:Int)+16)∧
 bif decide (256≤sZ a) then
 (0:Int)≤8∧
 iR ((32:Int)+16+8)∧
 (0≤IntKind.u8.wrap (aW .u64 (sZ a) 8)∧
 IntKind.u8.wrap (aW .u64 (sZ a) 8)<(↑(256:Nat):Int))∧
 iR (NY a)∧
 NY a=cK a
 else
 (0≤IntKind.u8.wrap (sZ a)∧
 IntKind.u8.wrap (sZ a)<(↑(256:Nat):Int))∧
 iR (Nn a)∧
 Nn a=cK a
 else
 bif decide (256≤aW .u64 a 32) then
 (0:Int)≤8∧
 iR ((32:Int)+8)∧
 (0≤Gr a∧Gr a<(↑(256:Nat):Int))∧
 iR (MJ a)∧
 MJ a=cK a
 else
 (0≤IntKind.u8.wrap (aW .u64 a 32)∧IntKind.u8.wrap (aW .u64 a 32)<(↑(256:Nat):Int))∧
 iR (Mr a)∧
 Mr a=cK a
 else
 bif decide (65536≤a) then
 (0:Int)≤16∧
 iR ((0:Int)+16)∧
 bif decide (256≤aW .u64 a 16) then
 (0:Int)≤8∧
 iR ((0:Int)+16+8)∧
 (0≤GM a∧GM a<(↑(256:Nat):Int))∧
 iR (NN a)∧
 NN a=cK a
 else
 (0≤IntKind.u8.wrap (aW .u64 a 16)∧IntKind.u8.wrap (aW .u64 a 16)<(↑(256:Nat):Int))∧
 iR (Mm a)∧
 Mm a=cK a
 else
 bif decide (256≤a) then
 (0:Int)≤8∧
 iR ((0:Int)+8)∧
 (0≤IntKind.u8.wrap (aW .u64 a 8)∧IntKind.u8.wrap (aW .u64 a 8)<(↑(256:Nat):Int))∧
 iR (M7 a)∧
 M7 a=cK a
 else
 (0≤IntKind.u8.wrap a∧IntKind.u8.wrap a<(↑(256:Nat):Int))∧
 iR (IS a)∧
 IS a=cK a
def VN:af:=aj abz 210 (ap ak7)
abbrev bI (a:LD):Int:=
 ↑a.length
abbrev dU (a:LD):Int:=
 ck a a.length
abbrev x8 (a:Int)(b:LD):Int:=
 ((b.getD a.toNat []).getD 0 (.int 0)).toInt
def ag5:Prop:=
 ∀ (a:LD),
 lM a→
 aO a→
 lM a→
 iR (bI a-(1:Int))∧
 ((a=a∧
 (-1:Int)≤bI a-(1:Int)∧
 bI a-(1:Int)<bI a∧
 dU a=
 ck a (bI a-(1:Int)+1).toNat)∧
 True)∧
 ∀ (b:LD) (c:Int),
 lM b→
 b=a∧
 (-1:Int)≤c∧
 c<bI a∧
 dU a=ck a (c+1).toNat→
 bif decide (0≤c) then
 bR c b∧
 c.toNat<b.length∧
 bif decide (x8 c b≠0) then
 iR ((64:Int)*c)∧
 bR c b∧
 c.toNat<b.length∧
 al (x8 c b)∧
 iR
 ((64:Int)*c+cK (x8 c b))∧
 (64:Int)*c+cK (x8 c b)=
 dU a
 else
 iR (c-(1:Int))∧
 (b=a∧
 (-1:Int)≤c-(1:Int)∧
 c-(1:Int)<bI a∧
 dU a=ck a (c-(1:Int)+1).toNat)∧
 (c-(1:Int)+1).toNat<(c+1).toNat
 else 0=dU a
def VM:af:=aj VN 186 (ap amC)
abbrev ui (a:LD):Bool:=
 decide (bI a<(1:Int))||decide ((16:Int)<bI a)
abbrev J5 (a:LD):Bool:=
 ui a||decide (dN .u64 ((a.getD (Int.toNat 0) []).getD 0 .d0).toInt 1=0)
abbrev xO (a:LD):Int:=
 ((a.getD 0 []).getD 0 (.int 0)).toInt
abbrev BM (a:LD):Prop:=
 (!(ui a||decide (dN .u64 (xO a) 1=0)))=true
abbrev Ks (a:LD):Bool:=
 ui a||decide (dN .u64 (xO a) 1=0) ||
 decide (((a.getD (bI a-(1:Int)).toNat []).getD 0 (.int 0)).toInt=0)
abbrev IX (a:LD):Prop:=
 (({t:=34,d:=30,want:=false,c:= !Ks a,sv:=.bool (decide (bI a=1))} :GE).c &&
 decide (bI a=1))=
 true
abbrev Co (a:LD):Prop:=
 0≤bI a∧
 bI a≤bI a∧
 (↑(8:Nat):Int)*bI a≤140737488355328∧bI a≤9223372036854775807
abbrev rU (a:LD):LD:=
 List.replicate (bI a).toNat [.int 0]
def abI:Prop:=
 ∀ (a:LD),
 lM a→
 xj a→
 lM a→
 (bw false (decide (bI a<(1:Int)))=true→lM a)→
 ((!ui a)=true→bR 0 a)∧
 ((!ui a)=true→0<a.length)∧
 ((bw false (J5 a)=true→lM a)→
 (BM a→iR (bI a-(1:Int)))∧
 (BM a→bR (bI a-(1:Int)) a)∧
 (BM a→(bI a-(1:Int)).toNat<a.length)∧
 ((bw false
 (J5 a ||
 decide (((a.getD (bI a-(1:Int)).toNat []).getD 0 .d0).toInt=0))=
 true→
 lM a)→
 (IX a→bR 0 a)∧
 (IX a→0<a.length)∧
 bif
 Ks a ||
 decide (bI a=1)&&decide (xO a=1) then
 Miss 2 eS
 else
 a.length≤1000∧
 ((a=a∧
 a=a∧
 (0:Int)≤0∧
 (0:Int)≤6∧
 1=JR (rv a 0) 0)∧
 True)∧
 ∀ (b:LD) (c d:Int) (e:LD) (n_2:Int) (f:LD),
 lM b→
 lM e→
 lM f→
 b=a∧
 e=a∧
 0≤d∧
 d≤6∧c=JR (rv a 0) d.toNat→
 bif decide (d<(6:Int)) then
 bR 0 b∧
 0<b.length∧
 iR (d+1)∧
 (b=a∧
 e=a∧
 0≤d+1∧
 d+1≤6∧
 IntKind.u64.wrap
 (c*IntKind.u64.wrap ((2:Int)-IntKind.u64.wrap (xO b*c)))=
 JR (rv a 0)
 (d+1).toNat)∧
 ((6:Int)-(d+1)).toNat<((6:Int)-d).toNat
 else
 lM b→
 Co b∧
 bR 0 (rU b)∧
 0<(rU b).length∧
 (lM b→
 iR ((128:Int)*bI b)∧
 (((128:Int)*bI b=
 (128:Int)*bI a∧
 (0:Int)≤0∧
 (0:Int)≤128*bI b∧
 e=a∧
 IntKind.u64.wrap ((0:Int)-c)=
 uc (rv a 0)∧
 (rU b).set 0
 (((rU b).getD 0 []).set 0
 (.int 1))=
 pU a 0)∧
 True)∧
 ∀ (g h:Int) (i:LD) (j:Int) (k:LD),
 lM i→
 lM k→
 g=128*bI a∧
 0≤h∧
 h≤g∧
 i=a∧
 j=uc (rv a 0)∧
 k=pU a h.toNat→
 bif decide (h<g) then
 (aO k∧aO i)∧
 iR (h+1)∧
 (g=128*bI a∧
 0≤h+1∧
 h+1≤g∧
 i=a∧
 j=
 uc
 (rv a 0)∧
 Am i k 0=
 pU a (h+1).toNat)∧
 (g-(h+1)).toNat<(g-h).toNat
 else
 (0:Int)=0∧
 i=a∧
 j=uc (rv a 0)∧
 k=ff a)))
def Tl:af:=aj VM 143 (ap ai1)
def adA:Prop:=
 ∀ (a b:LD) (c:Int) (d:LD),
 lM a→
 lM b→
 lM d→
 aO a∧aO b→
 lM b→
 Co b∧
 aO a∧
 iR (dU a-(1:Int))∧
 ((a=a∧
 b=b∧
 c=c∧
 d=d∧
 (-1:Int)≤dU a-(1:Int)∧
 dU a-(1:Int)<dU a∧
 rU b=
 pi b a (dU a).toNat
 ((dU a).toNat-(dU a-(1:Int)+1).toNat))∧
 True)∧
 ∀ (e f:LD) (g:Int) (h:LD) (i:Int) (j:LD),
 lM e→
 lM f→
 lM h→
 lM j→
 e=a∧
 h=b∧
 i=c∧
 j=d∧
 (-1:Int)≤g∧
 g<dU a∧
 f=
 pi b a (dU a).toNat
 ((dU a).toNat-(g+1).toNat)→
 bif decide (0≤g) then
 (0≤g∧(0:Int)<(64:Int)∧g≤IntKind.i64.max)∧
 bR (g / 64) e∧
 (g / 64).toNat<e.length∧
 (0≤g∧(0:Int)<(64:Int))∧
 0≤g%(64:Int)∧
 (aO f∧aO h)∧
 iR (g-(1:Int))∧
 (e=a∧
 h=b∧
 i=c∧
 j=d∧
 (-1:Int)≤g-(1:Int)∧
 g-(1:Int)<dU a∧
 Am h f
 (dN .u64
 (aW .u64 ((e.getD (g / 64).toNat []).getD 0 (.int 0)).toInt
 (g%(64:Int)))
 1)=
 pi b a (dU a).toNat
 ((dU a).toNat-(g-(1:Int)+1).toNat))∧
 (g-(1:Int)+1).toNat<(g+1).toNat
 else f=fa b a∧h=b∧i=c∧j=d
def UF:af:=aj Tl 144 (ap Ms)
end
end Go.Proofs.YteiecapbaeajdaaGreatDoor
