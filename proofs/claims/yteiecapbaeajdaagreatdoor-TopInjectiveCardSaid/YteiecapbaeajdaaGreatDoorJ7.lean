/-
 Conditions of contracts, as the kernel reckons them (printed by a program of ours, checked by the kernel).
-/
import Derived.Test.YteiecapbaeajdaaGreatDoorJ6
import Derived.Laws.MathBits
namespace Go.Proofs.YteiecapbaeajdaaGreatDoor
open Go Go.Avc Go.Proofs
set_option linter.unusedVariables false
set_option maxRecDepth 100000
def Pa:Prop:= ∀ (n:Int),
 n=1→
 bif decide (n=1) then (1:Int)=1
 else
 bif decide (n=2) then
 Miss (2:Nat)
 {n:=0,ov:= [],tm:= [.agg [.int .i64 (8:Int),.nilf,.own (1:Nat)]],hp:= [.cells (265:Nat) [.int .i64 (8:Int),.nilf,.own (1:Nat)],.own (3:Nat) [.int .i64] [[.int 8]]],G:= []}
 else
 bif decide (n=3) then
 Miss (2:Nat)
 {n:=0,ov:= [],tm:= [.agg [.int .i64 (32:Int),.fn (176:Nat) [],.own (1:Nat)]],hp:= [.cells (265:Nat) [.int .i64 (32:Int),.fn (176:Nat) [],.own (1:Nat)],.own (3:Nat) [.int .i64] [[.int 32]]],G:= []}
 else
 bif decide (n=4) then
 Miss (2:Nat)
 {n:=0,ov:= [],tm:= [.agg [.int .i64 (96:Int),.fn (178:Nat) [],.own (1:Nat)]],hp:= [.cells (265:Nat) [.int .i64 (96:Int),.fn (178:Nat) [],.own (1:Nat)],.own (3:Nat) [.int .i64] [[.int 31],[.int 31],[.int 31],[.int 3]]],G:= []}
 else (0:Int)=1
theorem abT:av x8 Tryz.f138 HA au=Pa:=by kernel_rfl
noncomputable def yM:ai:=al x8 138 (ag HA)
def Pu:Prop:= ∀ (n:Int),n=1→n=1∧(1:Int)=1
theorem adn:av yM Tryz.f136 Eb au=Pu:=by kernel_rfl
noncomputable def yq:ai:=al yM 136 (ag Eb)
def P91:Prop:= ∀ (n:Int) (l:List (List CD)),
 l.length≤9223372036854775807→
 n=1→
 n=1∧
 (l.length≤9223372036854775807→
 (0≤(↑l.length:Int)∧(0:Int) < 1)∧
 bif decide ((↑l.length:Int) % 1≠0) then
 (0=if bq l=0 then (↑l.length:Int) else 0)∧3=bq l
 else
 l.length≤9223372036854775807→
 (bw false (decide ((↑l.length:Int)=0))=true→l.length≤9223372036854775807)→
 ((!decide ((↑l.length:Int)=0))=true→0≤(↑l.length:Int)∧(0:Int) < 1∧(↑l.length:Int)≤IntKind.i64.max)∧
 bif decide ((↑l.length:Int)=0) || decide (1048576 < (↑l.length:Int) / 1) then
 (0=if bq l=0 then (↑l.length:Int) else 0)∧
 7=bq l
 else
 l.length≤9223372036854775807→
 (0≤(↑l.length:Int)∧(0:Int) < 1∧(↑l.length:Int)≤IntKind.i64.max)∧
 ((↑l.length:Int) / 1=if bq l=0 then (↑l.length:Int) else 0)∧
 0=bq l)
theorem e91:av yq Tryz.f91 Ke au=P91:=by kernel_rfl
noncomputable def Fr:ai:=al yq 91 (ag Ke)
def P93:Prop:= ∀ (n:Int) (l:List (List CD)),
 l.length≤9223372036854775807→
 n=1→
 n=1∧
 bif decide (bq l≠0) then bq l=bq l
 else
 n=1∧
 (((0:Int)=0∧bq l=0)∧True)∧
 ∀ (l_1:List (List CD)) (n n_1:Int),
 l_1.length≤9223372036854775807→
 n=0∧bq l=0→
 ((bw true !true)=true→l_1.length≤9223372036854775807)→0=bq l
theorem e93:av Fr Tryz.f93 Kc Xl=P93:=by kernel_rfl
noncomputable def DR:ai:=al Fr 93 (ag Kc)
def P95:Prop:= ∀ (n n_1 n_2:Int) (l:List (List CD)),
 l.length≤9223372036854775807→
 j2 n n_1 n_2 l→
 True∧
 bif decide (cH n n_1 n_2 [] ≠(0:Int)) then false=nU n n_1 n_2 l
 else
 bif decide (n≠1) then l.length≤9223372036854775807→decide ((↑l.length:Int)=0)=nU n n_1 n_2 l
 else
 n_1=1∧
 (decide ((if bq l=0 then (↑l.length:Int) else 0)=n_2)=true→n_1=1)∧
 (decide ((if bq l=0 then (↑l.length:Int) else 0)=n_2) &&
 decide (bq l=0))=
 nU n n_1 n_2 l
theorem e95:av DR Tryz.f95 J5 au=P95:=by kernel_rfl
noncomputable def FH:ai:=al DR 95 (ag J5)
def P58:Prop:= ∀ (n n_1 n_2:Int) (l:List (List CD)),
 l.length≤9223372036854775807→
 j2 n n_1 n_2 l∧l.length≤1000→
 j2 n n_1 n_2 l∧
 bif !nU n n_1 n_2 l then [] =ap n n_1 n_2 l
 else
 (0:Int)≤8∧
 (0:Int)≤16∧
 (0:Int)≤24∧
 ((6+l.length)*1≤140737488355328∧6+l.length≤9223372036854775807)∧
 [[.int (IntKind.u8.wrap n)],[.int (IntKind.u8.wrap n_1)],[.int (IntKind.u8.wrap n_2)],
 [.int (IntKind.u8.wrap (aw .i64 n_2 8))],
 [.int (IntKind.u8.wrap (aw .i64 n_2 16))],
 [.int (IntKind.u8.wrap (aw .i64 n_2 24))]] ++
 l=
 ap n n_1 n_2 l
theorem e58:av FH Tryz.f58 LH au=P58:=by kernel_rfl
noncomputable def E8:ai:=al FH 58 (ag LH)
def TL:Prop:= ∀ (n n_1 n_2:Int) (l:List (List CD)) (n_3 n_4 n_5:Int) (l_1:List (List CD)),
 l.length≤9223372036854775807→
 j2 n n_1 n_2 l∧
 l.length≤1000∧ax l∧jm (n_3,n_4,n_5,l_1)→
 (j2 n n_1 n_2 l∧l.length≤1000)∧
 (jm (n_3,n_4,n_5,l_1)∧
 ax (ap n n_1 n_2 l)∧
 (ap n n_1 n_2 l).length≤1000000)∧
 (ay (ap n n_1 n_2 l) (n_3,n_4,n_5,l_1)
 (ap n n_1 n_2 l).length).fst=
 (ay (ap n n_1 n_2 l) (n_3,n_4,n_5,l_1)
 (ap n n_1 n_2 l).length).fst∧
 (ay (ap n n_1 n_2 l) (n_3,n_4,n_5,l_1)
 (ap n n_1 n_2 l).length).snd.fst=
 (ay (ap n n_1 n_2 l) (n_3,n_4,n_5,l_1)
 (ap n n_1 n_2 l).length).snd.fst∧
 (ay (ap n n_1 n_2 l) (n_3,n_4,n_5,l_1)
 (ap n n_1 n_2 l).length).snd.snd.fst=
 (ay (ap n n_1 n_2 l) (n_3,n_4,n_5,l_1)
 (ap n n_1 n_2 l).length).snd.snd.fst∧
 (ay (ap n n_1 n_2 l) (n_3,n_4,n_5,l_1)
 (ap n n_1 n_2 l).length).snd.snd.snd=
 (ay (ap n n_1 n_2 l) (n_3,n_4,n_5,l_1)
 (ap n n_1 n_2 l).length).snd.snd.snd
theorem abW:av E8 Tryz.f274 Hg au=TL:=by kernel_rfl
noncomputable def ye:ai:=al E8 274 (ag Hg)
end Go.Proofs.YteiecapbaeajdaaGreatDoor
namespace Go.Proofs.YteiecapbaeajdaaGreatDoor
open Go Go.Avc Go.Proofs
set_option linter.unusedVariables false
set_option linter.unusedSimpArgs false
set_option maxRecDepth 100000
theorem W0:Pa:=by
  rintro t rfl
  exact rfl
theorem X5:af (base.with x8) 138 (ag HA):=am TK Tryz.func138 (by kernel_rfl) (by kernel_rfl) Tryz.call138 abT W0
theorem OO:(base.with yM).Ok:=ae TK X5
theorem Z7:Pu:=fun _ h=>⟨h,rfl⟩
theorem ZF:af (base.with yM) 136 (ag Eb):=am OO Tryz.func136 (by kernel_rfl) (by kernel_rfl) Tryz.call136 adn Z7
theorem Uz:(base.with yq).Ok:=ae OO ZF
theorem LB {l:List (List CD)} (h:l.length=0∨1048576<l.length):bq l=7:=if_pos h
theorem N7 {l:List (List CD)} (h:¬ (l.length=0∨1048576<l.length)):bq l=0:=if_neg h
theorem adg:P91:=by
  rintro t l hl rfl
  refine ⟨rfl,fun _=>⟨⟨by omega,by omega⟩,ab (fun h=> ?_) fun _=>fun _=>fun _=>⟨fun _=>⟨by omega,by omega,by show (l.length:Int)≤9223372036854775807;omega⟩,ab (fun h=> ?_) fun h=> ?_⟩⟩⟩
  · have:=of_decide_eq_true h
    omega
  · simp only [Bool.or_eq_true,decide_eq_true_eq,Int.ediv_one] at h
    rw [LB (by omega)]
    exact ⟨rfl,rfl⟩
  · simp only [Bool.or_eq_false_iff,decide_eq_false_iff_not,Int.ediv_one] at h
    rw [N7 (by omega)]
    exact fun _=>⟨⟨by omega,by omega,by show (l.length:Int)≤9223372036854775807;omega⟩,by rw [Int.ediv_one];rfl,rfl⟩
theorem adv:af (base.with yq) 91 (ag Ke):=am Uz Tryz.func91 (by kernel_rfl) (by kernel_rfl) Tryz.call91 e91 adg
theorem c91:(base.with Fr).Ok:=ae Uz adv
theorem acR:P93:=by
  rintro t l hl rfl
  refine ⟨rfl,ab (fun _=>rfl) fun h=>⟨rfl,⟨⟨rfl,Decidable.not_not.1 (of_decide_eq_false h)⟩,trivial⟩,?_⟩⟩
  rintro l1 i s _ ⟨_,h2⟩ _
  exact h2.symm
theorem aeY:af (base.with Fr) 93 (ag Kc):=am c91 Tryz.func93 (by kernel_rfl) (by kernel_rfl) Tryz.call93 e93 acR
theorem c93:(base.with DR).Ok:=ae c91 aeY
theorem ady:P95:=by
  rintro k t n l hl hp
  unfold nU
  refine ⟨trivial,ab (fun h=> ?_) fun h=>ab (fun h2=> ?_) fun h2=> ?_⟩
  · rw [h];rfl
  · rw [h,h2]
    intro _
    exact decide_eq_decide.2 (by omega)
  · have hk:k=1:=Decidable.not_not.1 (of_decide_eq_false h2)
    rw [h,h2]
    refine ⟨hp hk,fun _=>hp hk,?_⟩
    show _=(decide (bq l=0)&&decide (n=l.length))
    by_cases h3:bq l=0
    · rw [if_pos h3,decide_eq_true h3,Bool.and_true,Bool.true_and]
      exact decide_eq_decide.2 (by omega)
    · rw [decide_eq_false h3,Bool.and_false,Bool.false_and]
theorem adq:af (base.with DR) 95 (ag J5):=am c93 Tryz.func95 (by kernel_rfl) (by kernel_rfl) Tryz.call95 e95 ady
theorem c95:(base.with FH).Ok:=ae c93 adq
theorem mu (n:Int):IntKind.u8.wrap n=n%256:=qu n
theorem qs (n:Int) (k:Nat) (hk:k≤64):aw .i64 n (k:Int)=n / 2 ^ k:=by
  unfold aw
  rw [Int.toNat_natCast,show min k IntKind.i64.bits=k from Nat.min_eq_left hk]
  exact Int.fdiv_eq_ediv_of_nonneg _ (Int.le_of_lt (Int.pow_pos (by decide)))
theorem ad9:P58:=by
  rintro k t n l hl ⟨hp,hn⟩
  unfold ap
  refine ⟨hp,ab (fun h=> ?_) fun h=>⟨by omega,by omega,by omega,⟨by omega,by omega⟩,?_⟩⟩
  · have h:nU k t n l=false:=by simpa using h
    rw [if_neg (by rw [h];decide)]
  · have h:nU k t n l=true:=by simpa using h
    rw [if_pos h,mu,mu,mu,mu,mu,mu,show aw .i64 n 8=n / 256 from qs n 8 (by omega),show aw .i64 n 16=n / 65536 from qs n 16 (by omega),show aw .i64 n 24=n / 16777216 from qs n 24 (by omega)]
    rfl
theorem ac3:af (base.with FH) 58 (ag LH):=am c95 Tryz.func58 (by kernel_rfl) (by kernel_rfl) Tryz.call58 e58 ad9
theorem c58:(base.with E8).Ok:=ae c95 ac3
theorem C9 (k t n:Int) (l:List (List CD)):(ap k t n l).length≤l.length+6:=by
  unfold ap
  split
  · simp;try omega
  · simp
theorem M4 (k t n:Int) {l:List (List CD)} (h:ax l):ax (ap k t n l):=fun j=>by
  unfold ap
  split
  · have b:∀ m:Int,0≤m%256∧m%256<256:=fun m=>by omega
    match j with
    | 0=>exact b k
    | 1=>exact b t
    | 2=>exact b n
    | 3=>exact b _
    | 4=>exact b _
    | 5=>exact b _
    | j+6=>exact h j
  · exact ⟨Int.le_refl 0,show (0:Int)<256 by decide⟩
theorem V6:TL:=by
  rintro k t n l a b c s hl ⟨hp,hn,hb,hs⟩
  have:=C9 k t n l
  exact ⟨⟨hp,hn⟩,⟨hs,M4 k t n hb,by omega⟩,rfl,rfl,rfl,rfl⟩
theorem VF:af (base.with E8) 274 (ag Hg):=am c58 Tryz.func274 (by kernel_rfl) (by kernel_rfl) Tryz.call274 abW V6
theorem OT:(base.with ye).Ok:=ae c58 VF
end Go.Proofs.YteiecapbaeajdaaGreatDoor
namespace Go.Proofs.YteiecapbaeajdaaGreatDoor
open Go.Avc
set_option linter.unusedVariables false
abbrev Ge:Pat:= .fb 277 [Mw]
abbrev CO:List CSh:= [.int .u64,.int .u64,.int .u64,.int .u64]
abbrev oe:BPat:= .own 76 CO
noncomputable def mj (x:Sp):List Int:=fS ((eg (iC x)).map ac)
noncomputable def mg (x:Sp):Nat→Sp
  | 0=>x
  | i+1=>aU (mg x i) 32
noncomputable def kz (x:Sp):Nat→Nat→List Int×Int×Int×Sp
  | 0,i=>([0,0,0,0],64,11,x)
  | f+1,i=>if (bP (mj x) pW 4).2=0 then kz (aU x 32) f (i+1) else (ck (mj x),(i:Int)+1,0,aU x 32)
noncomputable def ar (x:Sp):List Int×Int×Int×Sp:=hid (kz x 64 0)
def th (x:Sp):Prop:=eV 900000000 x
def bn (w:List Int):List CD:= [.int (gI w 0),.int (gI w 1),.int (gI w 2),.int (gI w 3)]
noncomputable def FZ:Ct:= {ps:= [Ge],bs:= [fV,ob],pre:=fun | [.i a,.i b,.i c,.r s] =>th (a,b,c,s) | _=>False,res:=fun
  | [.i a,.i b,.i c,.r s] => .ret (.tup [w4,i64,i64]) [fV,ob] [.li (ar (a,b,c,s)).1,.i (ar (a,b,c,s)).2.1,.i (ar (a,b,c,s)).2.2.1,.i (ar (a,b,c,s)).2.2.2.1,.i (ar (a,b,c,s)).2.2.2.2.1,.i (ar (a,b,c,s)).2.2.2.2.2.1,.r (ar (a,b,c,s)).2.2.2.2.2.2]
  | _=>aj}
noncomputable def SJ:List Dat→Ann
  | [.i a,.i b,.i c,.r s] => {cut:= [],loop:= [(2,[la 27 [(0,Ge),(2,.ptr 2 0),(9,i64)] [fV,ob,qe] (fun
      | [.i i,.i a',.i b',.i c',.r s',.li _] =>0≤i∧i≤64∧(a',b',c',s')=mg (a,b,c,s) i.toNat∧ar (a,b,c,s)=kz (mg (a,b,c,s) i.toNat) (64-i.toNat) i.toNat
      | _=>False) (fun | [.i i,_,_,_,_,_] =>(64-i).toNat | _=>0)])]}
  | _=> {cut:= [],loop:= []}
noncomputable def Gx:Ct:= {ps:= [i64,Ge],bs:= [fV,ob],pre:=fun | [.i n,.i a,.i b,.i c,.r s] =>n=1∧th (a,b,c,s) | _=>False,res:=fun
  | [.i n,.i a,.i b,.i c,.r s] => .ite (decide ((ar (a,b,c,s)).2.2.1=0))
      (.ret (.tup [.own 2,i64,i64]) [fV,ob,oe] [.i (ar (a,b,c,s)).2.1,.i 0,.i (ar (a,b,c,s)).2.2.2.1,.i (ar (a,b,c,s)).2.2.2.2.1,.i (ar (a,b,c,s)).2.2.2.2.2.1,.r (ar (a,b,c,s)).2.2.2.2.2.2,.r [bn (ar (a,b,c,s)).1]])
      (.ret (.tup [.nils,i64,i64]) [fV,ob] [.i (ar (a,b,c,s)).2.1,.i (ar (a,b,c,s)).2.2.1,.i (ar (a,b,c,s)).2.2.2.1,.i (ar (a,b,c,s)).2.2.2.2.1,.i (ar (a,b,c,s)).2.2.2.2.2.1,.r (ar (a,b,c,s)).2.2.2.2.2.2])
  | _=>aj}
noncomputable def Td:List Dat→Ann
  | [.i n,.i a,.i b,.i c,.r s] => {cut:= [],loop:= [(4,[la 36 [(1,Ge),(7,.own 2),(8,i64),(13,i64),(14,i64)] [fV,ob,oe] (fun
      | [.i t,.i m,.i i,.i a',.i b',.i c',.r s',.r o] =>m=1∧((i=0∧t=0∧a'=a∧b'=b∧c'=c∧s'=s∧o= [])∨(i=1∧(ar (a,b,c,s)).2.2.1=0∧t=(ar (a,b,c,s)).2.1∧(a',b',c',s')=(ar (a,b,c,s)).2.2.2∧o= [bn (ar (a,b,c,s)).1]))
      | _=>False) (fun | [_,_,.i i,_,_,_,_,_] =>(1-i).toNat | _=>0)])]}
  | _=> {cut:= [],loop:= []}
noncomputable def D2:Ct:= {ps:= [Mw,i64],bs:= [fV,ob],pre:=fun | [.i n,.i a,.i b,.i c,.r s] =>n=1∧th (a,b,c,s) | _=>False,res:=fun
  | [.i n,.i a,.i b,.i c,.r s] => .ite (decide ((ar (a,b,c,s)).2.2.1=0))
      (.ret (.tup [.own 2,i64]) [fV,ob,oe] [.i 0,.i (ar (a,b,c,s)).2.2.2.1,.i (ar (a,b,c,s)).2.2.2.2.1,.i (ar (a,b,c,s)).2.2.2.2.2.1,.r (ar (a,b,c,s)).2.2.2.2.2.2,.r [bn (ar (a,b,c,s)).1]])
      (.ret (.tup [.nils,i64]) [fV,ob] [.i (ar (a,b,c,s)).2.2.1,.i (ar (a,b,c,s)).2.2.2.1,.i (ar (a,b,c,s)).2.2.2.2.1,.i (ar (a,b,c,s)).2.2.2.2.2.1,.r (ar (a,b,c,s)).2.2.2.2.2.2])
  | _=>aj}
end Go.Proofs.YteiecapbaeajdaaGreatDoor
namespace Go.Proofs.YteiecapbaeajdaaGreatDoor
open Go Go.Avc Go.Proofs
set_option linter.unusedVariables false
set_option maxRecDepth 100000
def Sw:Prop:= ∀ (n n_1 n_2:Int) (l:List (List CD)),
 th (n,n_1,n_2,l)→
 (((0:Int)≤0∧
 (0:Int)≤64∧
 (n,n_1,n_2,l)=mg (n,n_1,n_2,l) 0∧
 ar (n,n_1,n_2,l)=
 kz (mg (n,n_1,n_2,l) 0) 64 0)∧
 True)∧
 ∀ (n_3 n_4 n_5 n_6:Int) (l_1:List (List CD)) (l_2:List Int),
 l_2.length=4→
 0≤n_3∧
 n_3≤64∧
 (n_4,n_5,n_6,l_1)=mg (n,n_1,n_2,l) n_3.toNat∧
 ar (n,n_1,n_2,l)=
 kz (mg (n,n_1,n_2,l) n_3.toNat) ((64:Nat) - n_3.toNat) n_3.toNat→
 bif decide (n_3 < 64) then
 jm (n_4,n_5,n_6,l_1)∧
 True∧
 ((0:Int)≤0∧0≤(↑(32:Nat):Int)∧(↑(32:Nat):Int)≤(↑(32:Nat):Int)∧0 < (↑(32:Nat):Int))∧
 ax
 (List.map (fun x=> [CD.int x])
 (List.take 32 (List.drop 0 (eg (iC (n_4,n_5,n_6,l_1))))))∧
 bif
 decide
 ((List.map (fun x=> [CD.int x])
 (List.take 32
 (List.drop 0 (eg (iC (n_4,n_5,n_6,l_1)))))).length≠
 (32:Nat)) then
 ((-9223372036854775808:Int)≤n_3+1∧n_3+1≤9223372036854775807)∧
 (0≤n_3+1∧
 n_3+1≤64∧
 ((aU (n_4,n_5,n_6,l_1) 32).fst,
 (aU (n_4,n_5,n_6,l_1) 32).snd.fst,
 (aU (n_4,n_5,n_6,l_1) 32).snd.snd.fst,
 (aU (n_4,n_5,n_6,l_1) 32).snd.snd.snd)=
 mg (n,n_1,n_2,l) (n_3+1).toNat∧
 ar (n,n_1,n_2,l)=
 kz (mg (n,n_1,n_2,l) (n_3+1).toNat)
 ((64:Nat) - (n_3+1).toNat) (n_3+1).toNat)∧
 ((64:Int) - (n_3+1)).toNat < ((64:Int) - n_3).toNat
 else
 bif
 decide
 ((bP
 (fS
 (List.map (fun x=> [CD.int x])
 (List.take 32
 (List.drop 0 (eg (iC (n_4,n_5,n_6,l_1)))))))
 [4891460686036598785,2896914383306846353,13281191951274694749,3486998266802970665] 4).snd=
 (0:Int)) then
 ((-9223372036854775808:Int)≤n_3+1∧n_3+1≤9223372036854775807)∧
 (0≤n_3+1∧
 n_3+1≤64∧
 ((aU (n_4,n_5,n_6,l_1) 32).fst,
 (aU (n_4,n_5,n_6,l_1) 32).snd.fst,
 (aU (n_4,n_5,n_6,l_1) 32).snd.snd.fst,
 (aU (n_4,n_5,n_6,l_1) 32).snd.snd.snd)=
 mg (n,n_1,n_2,l) (n_3+1).toNat∧
 ar (n,n_1,n_2,l)=
 kz (mg (n,n_1,n_2,l) (n_3+1).toNat)
 ((64:Nat) - (n_3+1).toNat) (n_3+1).toNat)∧
 ((64:Int) - (n_3+1)).toNat < ((64:Int) - n_3).toNat
 else
 ((-9223372036854775808:Int)≤n_3+1∧n_3+1≤9223372036854775807)∧
 ck
 (fS
 (List.map (fun x=> [CD.int x])
 (List.take 32
 (List.drop 0 (eg (iC (n_4,n_5,n_6,l_1)))))))=
 (ar (n,n_1,n_2,l)).fst∧
 n_3+1=(ar (n,n_1,n_2,l)).snd.fst∧
 0=(ar (n,n_1,n_2,l)).snd.snd.fst∧
 (aU (n_4,n_5,n_6,l_1) 32).fst=
 (ar (n,n_1,n_2,l)).snd.snd.snd.fst∧
 (aU (n_4,n_5,n_6,l_1) 32).snd.fst=
 (ar (n,n_1,n_2,l)).snd.snd.snd.snd.fst∧
 (aU (n_4,n_5,n_6,l_1) 32).snd.snd.fst=
 (ar (n,n_1,n_2,l)).snd.snd.snd.snd.snd.fst∧
 (aU (n_4,n_5,n_6,l_1) 32).snd.snd.snd=
 (ar (n,n_1,n_2,l)).snd.snd.snd.snd.snd.snd
 else
 [0,0,0,0] =(ar (n,n_1,n_2,l)).fst∧
 64=(ar (n,n_1,n_2,l)).snd.fst∧
 11=(ar (n,n_1,n_2,l)).snd.snd.fst∧
 n_4=(ar (n,n_1,n_2,l)).snd.snd.snd.fst∧
 n_5=(ar (n,n_1,n_2,l)).snd.snd.snd.snd.fst∧
 n_6=(ar (n,n_1,n_2,l)).snd.snd.snd.snd.snd.fst∧
 l_1=(ar (n,n_1,n_2,l)).snd.snd.snd.snd.snd.snd
theorem acY:av ye Tryz.f279 FZ SJ=Sw:=by kernel_rfl
noncomputable def zr:ai:=al ye 279 (ag FZ)
def Pf:Prop:= ∀ (n n_1 n_2 n_3:Int) (l:List (List CD)),
 n=1∧th (n_1,n_2,n_3,l)→
 ((max n 0=1∧
 ((0:Int)=0∧(0:Int)=0∧n_1=n_1∧n_2=n_2∧n_3=n_3∧l=l∧([] :List (List CD))= [] ∨
 (0:Int)=1∧
 (ar (n_1,n_2,n_3,l)).snd.snd.fst=0∧
 0=(ar (n_1,n_2,n_3,l)).snd.fst∧
 (n_1,n_2,n_3,l)=(ar (n_1,n_2,n_3,l)).snd.snd.snd∧
 [] = [bn (ar (n_1,n_2,n_3,l)).fst]))∧
 True)∧
 ∀ (n n_4 n_5 n_6 n_7 n_8:Int) (l_1 l_2:List (List CD)),
 l_2.length≤9223372036854775807→
 n_4=1∧
 (n_5=0∧n=0∧n_6=n_1∧n_7=n_2∧n_8=n_3∧l_1=l∧l_2= [] ∨
 n_5=1∧
 (ar (n_1,n_2,n_3,l)).snd.snd.fst=0∧
 n=(ar (n_1,n_2,n_3,l)).snd.fst∧
 (n_6,n_7,n_8,l_1)=(ar (n_1,n_2,n_3,l)).snd.snd.snd∧
 l_2= [bn (ar (n_1,n_2,n_3,l)).fst])→
 bif decide (n_5 < n_4) then
 th (n_6,n_7,n_8,l_1)∧
 ((-9223372036854775808:Int)≤n+(ar (n_6,n_7,n_8,l_1)).snd.fst∧
 n+(ar (n_6,n_7,n_8,l_1)).snd.fst≤9223372036854775807)∧
 bif decide ((ar (n_6,n_7,n_8,l_1)).snd.snd.fst≠0) then
 bif decide ((ar (n_1,n_2,n_3,l)).snd.snd.fst=0) then
 n+(ar (n_6,n_7,n_8,l_1)).snd.fst=(ar (n_1,n_2,n_3,l)).snd.fst∧
 (ar (n_6,n_7,n_8,l_1)).snd.snd.fst=0∧
 (ar (n_6,n_7,n_8,l_1)).snd.snd.snd.fst=
 (ar (n_1,n_2,n_3,l)).snd.snd.snd.fst∧
 (ar (n_6,n_7,n_8,l_1)).snd.snd.snd.snd.fst=
 (ar (n_1,n_2,n_3,l)).snd.snd.snd.snd.fst∧
 (ar (n_6,n_7,n_8,l_1)).snd.snd.snd.snd.snd.fst=
 (ar (n_1,n_2,n_3,l)).snd.snd.snd.snd.snd.fst∧
 (ar (n_6,n_7,n_8,l_1)).snd.snd.snd.snd.snd.snd=
 (ar (n_1,n_2,n_3,l)).snd.snd.snd.snd.snd.snd∧
 [] = [bn (ar (n_1,n_2,n_3,l)).fst]
 else
 n+(ar (n_6,n_7,n_8,l_1)).snd.fst=(ar (n_1,n_2,n_3,l)).snd.fst∧
 (ar (n_6,n_7,n_8,l_1)).snd.snd.fst=(ar (n_1,n_2,n_3,l)).snd.snd.fst∧
 (ar (n_6,n_7,n_8,l_1)).snd.snd.snd.fst=
 (ar (n_1,n_2,n_3,l)).snd.snd.snd.fst∧
 (ar (n_6,n_7,n_8,l_1)).snd.snd.snd.snd.fst=
 (ar (n_1,n_2,n_3,l)).snd.snd.snd.snd.fst∧
 (ar (n_6,n_7,n_8,l_1)).snd.snd.snd.snd.snd.fst=
 (ar (n_1,n_2,n_3,l)).snd.snd.snd.snd.snd.fst∧
 (ar (n_6,n_7,n_8,l_1)).snd.snd.snd.snd.snd.snd=
 (ar (n_1,n_2,n_3,l)).snd.snd.snd.snd.snd.snd
 else
 ((l_2.length+1)*32≤140737488355328∧l_2.length+1≤9223372036854775807)∧
 ((-9223372036854775808:Int)≤n_5+1∧n_5+1≤9223372036854775807)∧
 (n_4=1∧
 (n_5+1=0∧
 n+(ar (n_6,n_7,n_8,l_1)).snd.fst=0∧
 (ar (n_6,n_7,n_8,l_1)).snd.snd.snd.fst=n_1∧
 (ar (n_6,n_7,n_8,l_1)).snd.snd.snd.snd.fst=n_2∧
 (ar (n_6,n_7,n_8,l_1)).snd.snd.snd.snd.snd.fst=n_3∧
 (ar (n_6,n_7,n_8,l_1)).snd.snd.snd.snd.snd.snd=l∧
 l_2++
 [[.int ((ar (n_6,n_7,n_8,l_1)).fst.getD 0 0),
 .int ((ar (n_6,n_7,n_8,l_1)).fst.getD 1 0),
 .int ((ar (n_6,n_7,n_8,l_1)).fst.getD 2 0),
 .int ((ar (n_6,n_7,n_8,l_1)).fst.getD 3 0)]] =
 [] ∨
 n_5+1=1∧
 (ar (n_1,n_2,n_3,l)).snd.snd.fst=0∧
 n+(ar (n_6,n_7,n_8,l_1)).snd.fst=
 (ar (n_1,n_2,n_3,l)).snd.fst∧
 ((ar (n_6,n_7,n_8,l_1)).snd.snd.snd.fst,
 (ar (n_6,n_7,n_8,l_1)).snd.snd.snd.snd.fst,
 (ar (n_6,n_7,n_8,l_1)).snd.snd.snd.snd.snd.fst,
 (ar (n_6,n_7,n_8,l_1)).snd.snd.snd.snd.snd.snd)=
 (ar (n_1,n_2,n_3,l)).snd.snd.snd∧
 l_2++
 [[.int ((ar (n_6,n_7,n_8,l_1)).fst.getD 0 0),
 .int ((ar (n_6,n_7,n_8,l_1)).fst.getD 1 0),
 .int ((ar (n_6,n_7,n_8,l_1)).fst.getD 2 0),
 .int ((ar (n_6,n_7,n_8,l_1)).fst.getD 3 0)]] =
 [bn (ar (n_1,n_2,n_3,l)).fst]))∧
 ((1:Int) - (n_5+1)).toNat < ((1:Int) - n_5).toNat
 else
 bif decide ((ar (n_1,n_2,n_3,l)).snd.snd.fst=0) then
 n=(ar (n_1,n_2,n_3,l)).snd.fst∧
 (0:Int)=0∧
 n_6=(ar (n_1,n_2,n_3,l)).snd.snd.snd.fst∧
 n_7=(ar (n_1,n_2,n_3,l)).snd.snd.snd.snd.fst∧
 n_8=(ar (n_1,n_2,n_3,l)).snd.snd.snd.snd.snd.fst∧
 l_1=(ar (n_1,n_2,n_3,l)).snd.snd.snd.snd.snd.snd∧
 l_2= [bn (ar (n_1,n_2,n_3,l)).fst]
 else
 Miss 2
 {n:=0,ov:= [],tm:= [.tup [.own 2,.int .i64 n,.int .i64 0]],hp:= [.cells (298:TypeId) [.iface (253:TypeId) (.agg []),.own 1,.int .i64 n_6,.int .i64 n_7,.int .i64 n_8],.own (5:TypeId) [.int .u8] l_1,.own (76:TypeId) [.int .u64,.int .u64,.int .u64,.int .u64] l_2],G:= []}
theorem adG:av zr Tryz.f276 Gx Td=Pf:=by kernel_rfl
noncomputable def xX:ai:=al zr 276 (ag Gx)
def Py:Prop:= ∀ (n n_1 n_2 n_3:Int) (l:List (List CD)),
 n=1∧th (n_1,n_2,n_3,l)→
 (n=1∧th (n_1,n_2,n_3,l))∧
 bif decide ((ar (n_1,n_2,n_3,l)).snd.snd.fst=0) then
 bif decide ((ar (n_1,n_2,n_3,l)).snd.snd.fst=0) then
 (0:Int)=0∧
 (ar (n_1,n_2,n_3,l)).snd.snd.snd.fst=(ar (n_1,n_2,n_3,l)).snd.snd.snd.fst∧
 (ar (n_1,n_2,n_3,l)).snd.snd.snd.snd.fst=(ar (n_1,n_2,n_3,l)).snd.snd.snd.snd.fst∧
 (ar (n_1,n_2,n_3,l)).snd.snd.snd.snd.snd.fst=
 (ar (n_1,n_2,n_3,l)).snd.snd.snd.snd.snd.fst∧
 (ar (n_1,n_2,n_3,l)).snd.snd.snd.snd.snd.snd=
 (ar (n_1,n_2,n_3,l)).snd.snd.snd.snd.snd.snd∧
 [bn (ar (n_1,n_2,n_3,l)).fst] =
 [bn (ar (n_1,n_2,n_3,l)).fst]
 else
 Miss (2:Nat)
 {n:=0,ov:= [],tm:= [.tup [.own (3:Nat),.int .i64 (0:Int)]],hp:= [.cells (298:TypeId) [.iface (253:TypeId) (.agg []),.own (1:Nat),.int .i64 (ar (n_1,n_2,n_3,l)).snd.snd.snd.fst,.int .i64 (ar (n_1,n_2,n_3,l)).snd.snd.snd.snd.fst,.int .i64 (ar (n_1,n_2,n_3,l)).snd.snd.snd.snd.snd.fst],.own (5:TypeId) [.int .u8] (ar (n_1,n_2,n_3,l)).snd.snd.snd.snd.snd.snd,.cells (133:Nat) [.ptr (0:Nat) (0:Nat)],.own (76:TypeId) [.int .u64,.int .u64,.int .u64,.int .u64] [bn (ar (n_1,n_2,n_3,l)).fst]],G:= []}
 else
 bif decide ((ar (n_1,n_2,n_3,l)).snd.snd.fst=0) then
 (ar (n_1,n_2,n_3,l)).snd.snd.fst=0∧
 (ar (n_1,n_2,n_3,l)).snd.snd.snd.fst=(ar (n_1,n_2,n_3,l)).snd.snd.snd.fst∧
 (ar (n_1,n_2,n_3,l)).snd.snd.snd.snd.fst=(ar (n_1,n_2,n_3,l)).snd.snd.snd.snd.fst∧
 (ar (n_1,n_2,n_3,l)).snd.snd.snd.snd.snd.fst=
 (ar (n_1,n_2,n_3,l)).snd.snd.snd.snd.snd.fst∧
 (ar (n_1,n_2,n_3,l)).snd.snd.snd.snd.snd.snd=
 (ar (n_1,n_2,n_3,l)).snd.snd.snd.snd.snd.snd∧
 [] = [bn (ar (n_1,n_2,n_3,l)).fst]
 else
 (ar (n_1,n_2,n_3,l)).snd.snd.fst=(ar (n_1,n_2,n_3,l)).snd.snd.fst∧
 (ar (n_1,n_2,n_3,l)).snd.snd.snd.fst=(ar (n_1,n_2,n_3,l)).snd.snd.snd.fst∧
 (ar (n_1,n_2,n_3,l)).snd.snd.snd.snd.fst=(ar (n_1,n_2,n_3,l)).snd.snd.snd.snd.fst∧
 (ar (n_1,n_2,n_3,l)).snd.snd.snd.snd.snd.fst=
 (ar (n_1,n_2,n_3,l)).snd.snd.snd.snd.snd.fst∧
 (ar (n_1,n_2,n_3,l)).snd.snd.snd.snd.snd.snd=
 (ar (n_1,n_2,n_3,l)).snd.snd.snd.snd.snd.snd
theorem afa:av xX Tryz.f273 D2 au=Py:=by kernel_rfl
noncomputable def yv:ai:=al xX 273 (ag D2)
end Go.Proofs.YteiecapbaeajdaaGreatDoor
namespace Go.Proofs.YteiecapbaeajdaaGreatDoor
open Go Go.Avc Go.Proofs
set_option linter.unusedVariables false
set_option linter.unusedSimpArgs false
set_option maxRecDepth 100000
def zO (n:Int):Prop:=0≤n∧n<256
theorem R9:zO 0:=⟨by omega,by omega⟩
theorem NB (x:Sp):(iC x).length=32:=by rw [iC,aR,List.length_map,qm]
theorem L2 {n:Int} {x:Sp} (h:eV n x):∀ i,∀ r∈jb x i,zO (r.getD 0 .d0).toInt
  | 0,r,hr=>by cases hr
  | i+1,r,hr=>by
    rw [jb,List.mem_append] at hr
    rcases hr with hr | hr
    · exact L2 h i r hr
    · rw [List.mem_singleton] at hr
      subst hr
      exact (IA (mS h i)).1.2.2.2.2.2.2.2 _
theorem Na {P:Int→Prop} (h0:P 0) {l:List Int} (h:∀ n∈l,P n) (j:Nat):P (l.getD j 0):=by
  rw [List.getD_eq_getElem?_getD]
  cases hj:l[j]? with
  | none=>exact h0
  | some a=>exact h a (List.mem_of_getElem? hj)
theorem Xh {n:Int} {x:Sp} (h:eV n x) (j:Nat):zO ((iC x).getD j 0):=by
  refine Na R9 (fun m hm=> ?_) j
  rw [iC,aR,List.mem_map] at hm
  obtain ⟨r,hr,rfl⟩:=hm
  exact L2 h 32 r hr
theorem ZN (a b:Int):zO (bU .u8 a b):=by
  unfold bU
  rw [mu]
  unfold zO
  omega
theorem Qv {l:List Int} (h:∀ j,zO (l.getD j 0)) (j:Nat):zO ((eg l).getD j 0):=by
  unfold eg
  rw [List.getD_eq_getElem?_getD,List.getElem?_set]
  split
  · split
    · exact ZN _ _
    · exact R9
  · rw [← List.getD_eq_getElem?_getD];exact h j
theorem Jd {n:Int} {x:Sp} (h:eV n x):∀ i:Nat,eV (n+32*i) (mg x i)
  | 0=>by rw [show n+32*((0:Nat):Int)=n from by omega];exact h
  | i+1=>by
    have:=mS (Jd h i) 32
    rw [show n+32*((i+1:Nat):Int)=n+32*(i:Int)+(32:Nat) from by omega]
    exact this
theorem fH {n m:Int} (hn:n≤m) {x:Sp} (h:eV n x):eV m x:=by
  obtain ⟨h1,h2,h3,h4,h5,h6,h7⟩:=h
  exact ⟨h1,h2,h3,h4,h5,by omega,h7⟩
theorem zX:∀ (f i:Nat) (x:Sp),0≤(kz x f i).2.1∧(kz x f i).2.1≤64+f+i
  | 0,i,x=>⟨by show (0:Int)≤64;omega,by show (64:Int)≤64+((0:Nat):Int)+i;omega⟩
  | f+1,i,x=>by
    rw [kz]
    split
    · have:=zX f (i+1) (aU x 32)
      omega
    · exact ⟨by show (0:Int)≤(i:Int)+1;omega,by show (i:Int)+1≤_;omega⟩
theorem HP (x:Sp):0≤(ar x).2.1∧(ar x).2.1≤128:=by
  have:=zX 64 0 x
  rw [ar,aR]
  omega
theorem YG:Sw:=by
  rintro a b c s hc
  refine ⟨⟨⟨by omega,by omega,rfl,by rw [ar,aR];rfl⟩,trivial⟩,?_⟩
  rintro i a' b' c' s' z _ ⟨h0,h1,hst,hfd⟩
  obtain ⟨j,rfl⟩:=Int.eq_ofNat_of_zero_le h0
  rw [Int.toNat_natCast] at hst hfd
  have hok:=Jd hc j
  have hnx:mg (a,b,c,s) (j+1)=aU (mg (a,b,c,s) j) 32:=rfl
  rw [← hst] at hok hfd hnx
  have hok':jm (a',b',c',s'):=fH (by omega) hok
  refine ab (fun h=> ?_) fun h=> ?_
  · have h:=of_decide_eq_true h
    have e1:((j:Int)+1).toNat=j+1:=by omega
    have hl:(eg (iC (a',b',c',s'))).length=32:=by unfold eg;rw [List.length_set,NB]
    rw [List.drop_zero,List.take_of_length_le (Nat.le_of_eq hl),e1,hnx]
    have ey:List.map (fun x=> [CD.int x]) (eg (iC (a',b',c',s')))=(eg (iC (a',b',c',s'))).map ac:=rfl
    rw [ey]
    have ew:fS ((eg (iC (a',b',c',s'))).map ac)=mj (a',b',c',s'):=rfl
    rw [ew]
    have e64:64-j=64-(j+1)+1:=by omega
    have hy:ax ((eg (iC (a',b',c',s'))).map ac):=fun k=>by rw [cA];exact Qv (Xh hok) k
    have hl2:((eg (iC (a',b',c',s'))).map ac).length=32:=by rw [List.length_map];exact hl
    rw [hl2]
    obtain ⟨q,hq⟩:∃ q,(bP (mj (a',b',c',s')) pW 4).2=q:=⟨_,rfl⟩
    have hq':(bP (mj (a',b',c',s')) [4891460686036598785,2896914383306846353,13281191951274694749,3486998266802970665] 4).2=q:=hq
    rw [hq',hfd,e64,kz,hq]
    generalize mj (a',b',c',s')=W at *
    generalize aU (a',b',c',s') 32=X at *
    refine ⟨hok',trivial,⟨by omega,by omega,by omega,by omega⟩,hy,?_⟩
    refine ab (fun h3=>absurd rfl (of_decide_eq_true h3)) fun _=> ?_
    refine ab (fun h2=> ?_) fun h2=> ?_
    · rw [if_pos (of_decide_eq_true h2)]
      exact ⟨⟨by omega,by omega⟩,⟨by omega,by omega,rfl,rfl⟩,by omega⟩
    · rw [if_neg (of_decide_eq_false h2)]
      generalize ck W=Y at *
      exact ⟨⟨by omega,by omega⟩,rfl,rfl,rfl,rfl,rfl,rfl,rfl⟩
  · have h:=of_decide_eq_false h
    have ej:j=64:=by omega
    rw [ej,Nat.sub_self,kz] at hfd
    rw [hfd]
    exact ⟨rfl,rfl,rfl,rfl,rfl,rfl,rfl⟩
theorem Z9:af (base.with ye) 279 (ag FZ):=am OT Tryz.func279 (by kernel_rfl) (by kernel_rfl) Tryz.call279 acY YG
theorem P5:(base.with zr).Ok:=ae OT Z9
theorem X6:Pf:=by
  rintro n a b c s ⟨rfl,hc⟩
  have ht:=HP (a,b,c,s)
  generalize hF:ar (a,b,c,s)=F at *
  refine ⟨⟨⟨rfl,.inl ⟨rfl,rfl,rfl,rfl,rfl,rfl,rfl⟩⟩,trivial⟩,?_⟩
  rintro t m i a' b' c' s' o _ ⟨rfl,h⟩
  rcases h with ⟨rfl,rfl,rfl,rfl,rfl,rfl,rfl⟩ | ⟨rfl,h1,rfl,h2,rfl⟩
  · rw [hF]
    refine ab (fun _=>⟨hc,⟨by omega,by omega⟩,ab (fun h=> ?_) fun h=> ?_⟩) fun h=>absurd (of_decide_eq_false h) (by decide)
    · have h':=of_decide_eq_true h
      rw [decide_eq_false h']
      exact ⟨by omega,rfl,rfl,rfl,rfl,rfl⟩
    · have h':F.2.2.1=0:=Decidable.not_not.1 (of_decide_eq_false h)
      exact ⟨⟨by decide,by decide⟩,⟨by omega,by omega⟩,⟨rfl,.inr ⟨rfl,h',by omega,rfl,rfl⟩⟩,by decide⟩
  · refine ab (fun h=>absurd (of_decide_eq_true h) (by decide)) fun _=> ?_
    rw [decide_eq_true h1]
    obtain ⟨F1,F2,F3,F4,F5,F6,F7⟩:=F
    cases h2
    exact ⟨rfl,rfl,rfl,rfl,rfl,rfl,rfl⟩
theorem Vc:af (base.with zr) 276 (ag Gx):=am P5 Tryz.func276 (by kernel_rfl) (by kernel_rfl) Tryz.call276 adG X6
theorem QC:(base.with xX).Ok:=ae P5 Vc
theorem XX:Py:=by
  rintro n a b c s h
  refine ⟨h,ab (fun h2=> ?_) fun h2=> ?_⟩
  · rw [h2]
    exact ⟨rfl,rfl,rfl,rfl,rfl,rfl⟩
  · rw [h2]
    exact ⟨rfl,rfl,rfl,rfl,rfl⟩
theorem W5:af (base.with xX) 273 (ag D2):=am QC Tryz.func273 (by kernel_rfl) (by kernel_rfl) Tryz.call273 afa XX
theorem RJ:(base.with yv).Ok:=ae QC W5
end Go.Proofs.YteiecapbaeajdaaGreatDoor
namespace Go.Proofs.YteiecapbaeajdaaGreatDoor
open Go Go.Avc
set_option linter.unusedVariables false
abbrev qM:BPat:= .cells 332 [aI,u64,aI]
def mR (x y:Int):Int:=if x<y then -1 else if y<x then 1 else 0
def d6 (a b:List (List CD)):Nat→Int
  | 0=>0
  | n+1=>if mR (rv a n) (rv b n)=0 then d6 a b n else mR (rv a n) (rv b n)
def bZ (a b:List (List CD)):Nat:=max a.length b.length
def cy (a b:List (List CD)):Nat→List Int×Int
  | 0=>(List.replicate (bZ a b) 0,0)
  | i+1=>((cy a b i).1.set i (ft (rv a i) (rv b i) (cy a b i).2),bj (rv a i) (rv b i) (cy a b i).2)
def jf (m a:List (List CD)) (c:Int):List (List CD):=if c=0∧d6 a m (bZ a m)<0 then a else (cy a m (bZ a m)).1.map ac
def de (a:List (List CD)) (bit:Int):Nat→List Int×Int
  | 0=>(List.replicate a.length 0,bit)
  | i+1=>((de a bit i).1.set i (dQ .u64 (cn .u64 (rv a i) 1) (de a bit i).2),aw .u64 (rv a i) 63)
def rc (m a:List (List CD)) (bit:Int):List (List CD):=jf m ((de a bit a.length).1.map ac) (de a bit a.length).2
def aG (l:List (List CD)):Prop:=l.length≤1000∧ce l
def E3:Ct:= {ps:= [aI],bs:= [],pre:=fun | [.r l] =>l.length≤1000 | _=>False,res:=fun | [.r l] => .ret (.own 0) [ow] [.r l] | _=>aj}
def Gh:Ct:= {ps:= [aI,i64],bs:= [],pre:=fun | [.r l,.i i] =>0≤i | _=>False,res:=fun | [.r l,.i i] => .ret u64 [] [.i (rv l i.toNat)] | _=>aj}
def FY:Ct:= {ps:= [u64],bs:= [],pre:=fun _=>True,res:=fun _=> .ret .bool [] [.b false]}
def Fs:Ct:= {ps:= [u64,u64],bs:= [],pre:=fun _=>True,res:=fun | [.i x,.i y] => .ret i64 [] [.i (mR x y)] | _=>aj}
def Hl:Ct:= {ps:= [aI,aI],bs:= [],pre:=fun | [.r a,.r b] =>a.length≤1000∧b.length≤1000 | _=>False,res:=fun | [.r a,.r b] => .ret i64 [] [.i (d6 a b (bZ a b))] | _=>aj}
def PY:List Dat→Ann
  | [.r a,.r b] => {cut:= [],loop:= [(2,[la 27 [(0,aI),(1,aI),(5,i64)] [] (fun | [.r a',.r b',.i i] =>a'=a∧b'=b∧-1≤i∧i<bZ a b∧d6 a b (bZ a b)=d6 a b (i+1).toNat | _=>False) (fun | [_,_,.i i] =>(i+1).toNat | _=>0)])]}
  | _=> {cut:= [],loop:= []}
def EY:Ct:= {ps:= [aI,aI,.fn 230 []],bs:= [],pre:=fun | [.r a,.r b] =>aG a∧aG b | _=>False,res:=fun | [.r a,.r b] => .ret (.tup [.own 0,u64]) [ow] [.i (cy a b (bZ a b)).2,.r ((cy a b (bZ a b)).1.map ac)] | _=>aj}
def OZ:List Dat→Ann
  | [.r a,.r b] => {cut:= [],loop:= [(4,[la 40 [(0,aI),(1,aI),(2,.fn 230 []),(8,.own 0),(9,u64),(18,i64),(19,i64)] [ow] (fun | [.r a',.r b',.i c,.i n,.i i,.r o] =>a'=a∧b'=b∧n=bZ a b∧0≤i∧i≤n∧c=(cy a b i.toNat).2∧o=(cy a b i.toNat).1.map ac | _=>False) (fun | [_,_,_,.i n,.i i,_] =>(n-i).toNat | _=>0)])]}
  | _=> {cut:= [],loop:= []}
def E5:Ct:= {ps:= [aI,aI],bs:= [],pre:=fun | [.r a,.r b] =>aG a∧aG b | _=>False,res:=fun | [.r a,.r b] => .ret (.tup [.own 0,u64]) [ow] [.i (cy a b (bZ a b)).2,.r ((cy a b (bZ a b)).1.map ac)] | _=>aj}
def EZ:Ct:= {ps:= [.ptr 0 0,aI,u64],bs:= [qM],pre:=fun | [.r a,.i c,.r m,.i _,.r _] =>aG a∧aG m | _=>False,res:=fun | [.r a,.i c,.r m,.i v,.r q] => .ret aI [qM] [.r (jf m a c),.r m,.i v,.r q] | _=>aj}
def GL:Ct:= {ps:= [.ptr 0 0,aI,u64],bs:= [qM],pre:=fun | [.r a,.i c,.r m,.i _,.r _] =>aG a∧aG m | _=>False,res:=fun | [.r a,.i c,.r m,.i v,.r q] => .ret aI [qM] [.r (rc m a c),.r m,.i v,.r q] | _=>aj}
def Tf:List Dat→Ann
  | [.r a,.i c,.r m,.i v,.r q] =>⟨[(8,[la 34 [(0,.ptr 0 0),(2,u64),(7,aI)] [qM] (fun | [.i b,.r o,.r m',.i v',.r q'] =>m'=m∧v'=v∧q'=q∧b=(de a c a.length).2∧o=(de a c a.length).1.map ac | _=>False) (fun _=>0)])],
      [(3,[la 34 [(0,.ptr 0 0),(2,u64),(7,.own 1),(13,aI),(14,i64),(15,i64)] [qM,ow] (fun | [.i b,.r a',.i n,.i i,.r m',.i v',.r q',.r o] =>a'=a∧n=a.length∧0≤i∧i≤n∧m'=m∧v'=v∧q'=q∧b=(de a c i.toNat).2∧o=(de a c i.toNat).1.map ac | _=>False) (fun | [_,_,.i n,.i i,_,_,_,_] =>(n-i).toNat | _=>0)])],[]⟩
  | _=> {cut:= [],loop:= []}
end Go.Proofs.YteiecapbaeajdaaGreatDoor
namespace Go.Proofs.YteiecapbaeajdaaGreatDoor
open Go Go.Avc Go.Proofs
set_option linter.unusedVariables false
set_option maxRecDepth 100000
def Uh:Prop:= ∀ (l:List (List CD)),
 l.length≤9223372036854775807→
 l.length≤1000→
 ∀ (β:Bool),
 (β=true→l= [])→
 bif β then [] =l else ((0+l.length)*8≤140737488355328∧0+l.length≤9223372036854775807)∧ [] ++l=l
theorem acE:av yv Tryz.f184 E3 au=Uh:=by kernel_rfl
noncomputable def y8:ai:=al yv 184 (ag E3)
def SE:Prop:= ∀ (l:List (List CD)) (n:Int),
 l.length≤9223372036854775807→
 0≤n→
 l.length≤9223372036854775807→
 bif decide (n < ↑l.length) then
 (0≤n∧n < ↑l.length)∧
 n.toNat < l.length∧((l.getD n.toNat []).getD 0 (.int 0)).toInt=rv l n.toNat
 else 0=rv l n.toNat
theorem ad1:av y8 Tryz.f245 Gh au=SE:=by kernel_rfl
noncomputable def xS:ai:=al y8 245 (ag Gh)
def Tu:Prop:=
 ∀ (n:Int),True→decide (n≠n)=false
theorem abJ:av xS Tryz.f248 FY au=Tu:=by kernel_rfl
noncomputable def yV:ai:=al xS 248 (ag FY)
def O8:Prop:= ∀ (n n_1:Int),
 True→
 True∧
 True∧
 bif decide (n < n_1) then (-1:Int)=mR n n_1
 else bif decide (n_1 < n) then 1=mR n n_1 else 0=mR n n_1
theorem acF:av yV Tryz.f244 Fs au=O8:=by kernel_rfl
noncomputable def ze:ai:=al yV 244 (ag Fs)
def UW:Prop:= ∀ (l l_1:List (List CD)),
 l.length≤9223372036854775807→
 l_1.length≤9223372036854775807→
 l.length≤1000∧l_1.length≤1000→
 l.length≤9223372036854775807→
 l_1.length≤9223372036854775807→
 ((-9223372036854775808:Int)≤max (↑l.length:Int) (↑l_1.length:Int) - 1∧
 max (↑l.length:Int) (↑l_1.length:Int) - 1≤9223372036854775807)∧
 ((l=l∧
 l_1=l_1∧
 (-1:Int)≤max (↑l.length:Int) (↑l_1.length:Int) - 1∧
 max (↑l.length:Int) (↑l_1.length:Int) - 1 < (↑(bZ l l_1):Int)∧
 d6 l l_1 (bZ l l_1)=
 d6 l l_1 (max (↑l.length:Int) (↑l_1.length:Int) - 1+1).toNat)∧
 True)∧
 ∀ (l_2 l_3:List (List CD)) (n:Int),
 l_2.length≤9223372036854775807→
 l_3.length≤9223372036854775807→
 l_2=l∧
 l_3=l_1∧
 (-1:Int)≤n∧
 n < (↑(bZ l l_1):Int)∧
 d6 l l_1 (bZ l l_1)=
 d6 l l_1 (n+1).toNat→
 bif decide (0≤n) then
 0≤n∧
 0≤n∧
 True∧
 bif
 decide
 (mR (rv l_2 n.toNat)
 (rv l_3 n.toNat)≠
 (0:Int)) then
 mR (rv l_2 n.toNat)
 (rv l_3 n.toNat)=
 d6 l l_1 (bZ l l_1)
 else
 ((-9223372036854775808:Int)≤n - 1∧n - 1≤9223372036854775807)∧
 (l_2=l∧
 l_3=l_1∧
 (-1:Int)≤n - 1∧
 n - 1 < (↑(bZ l l_1):Int)∧
 d6 l l_1 (bZ l l_1)=
 d6 l l_1 (n - 1+1).toNat)∧
 (n - 1+1).toNat < (n+1).toNat
 else 0=d6 l l_1 (bZ l l_1)
theorem abR:av ze Tryz.f233 Hl PY=UW:=by kernel_rfl
noncomputable def yf:ai:=al ze 233 (ag Hl)
def Tn:Prop:= ∀ (l l_1:List (List CD)),
 l.length≤9223372036854775807→
 l_1.length≤9223372036854775807→
 aG l∧aG l_1→
 l.length≤9223372036854775807→
 l_1.length≤9223372036854775807→
 (0≤max (↑l.length:Int) (↑l_1.length:Int)∧
 max (↑l.length:Int) (↑l_1.length:Int)≤max (↑l.length:Int) (↑l_1.length:Int)∧
 (↑(8:Nat):Int)*max (↑l.length:Int) (↑l_1.length:Int)≤140737488355328∧
 max (↑l.length:Int) (↑l_1.length:Int)≤9223372036854775807)∧
 ((List.replicate (max (↑l.length:Int) (↑l_1.length:Int)).toNat [CD.int 0]).length≤9223372036854775807→
 ((l=l∧
 l_1=l_1∧
 (↑(List.replicate (max (↑l.length:Int) (↑l_1.length:Int)).toNat [CD.int 0]).length:Int)=
 (↑(bZ l l_1):Int)∧
 (0:Int)≤0∧
 0≤(↑(List.replicate (max (↑l.length:Int) (↑l_1.length:Int)).toNat [CD.int 0]).length:Int)∧
 0=(cy l l_1 0).snd∧
 List.replicate (max (↑l.length:Int) (↑l_1.length:Int)).toNat [CD.int 0] =
 List.map ac (cy l l_1 0).fst)∧
 True)∧
 ∀ (l_2 l_3:List (List CD)) (n n_1 n_2:Int) (l_4:List (List CD)),
 l_2.length≤9223372036854775807→
 l_3.length≤9223372036854775807→
 l_4.length≤9223372036854775807→
 l_2=l∧
 l_3=l_1∧
 n_1=(↑(bZ l l_1):Int)∧
 0≤n_2∧
 n_2≤n_1∧
 n=(cy l l_1 n_2.toNat).snd∧
 l_4=List.map ac (cy l l_1 n_2.toNat).fst→
 bif decide (n_2 < n_1) then
 0≤n_2∧
 0≤n_2∧
 (ak (rv l_2 n_2.toNat)∧
 ak (rv l_3 n_2.toNat)∧0≤n∧n≤1)∧
 (0≤n_2∧n_2 < (↑l_4.length:Int))∧
 n_2.toNat < l_4.length∧
 ((-9223372036854775808:Int)≤n_2+1∧n_2+1≤9223372036854775807)∧
 (l_2=l∧
 l_3=l_1∧
 n_1=(↑(bZ l l_1):Int)∧
 0≤n_2+1∧
 n_2+1≤n_1∧
 bj (rv l_2 n_2.toNat)
 (rv l_3 n_2.toNat) n=
 (cy l l_1 (n_2+1).toNat).snd∧
 l_4.set n_2.toNat
 ((l_4.getD n_2.toNat []).set 0
 (CD.int
 (ft (rv l_2 n_2.toNat)
 (rv l_3 n_2.toNat) n)))=
 List.map ac
 (cy l l_1 (n_2+1).toNat).fst)∧
 (n_1 - (n_2+1)).toNat < (n_1 - n_2).toNat
 else
 n=(cy l l_1 (bZ l l_1)).snd∧
 l_4=
 List.map ac
 (cy l l_1 (bZ l l_1)).fst)
theorem ael:av yf Tryz.f247 EY OZ=Tn:=by kernel_rfl
noncomputable def xE:ai:=al yf 247 (ag EY)
def SS:Prop:= ∀ (l l_1:List (List CD)),
 l.length≤9223372036854775807→
 l_1.length≤9223372036854775807→
 aG l∧aG l_1→
 (aG l∧aG l_1)∧
 (cy l l_1 (bZ l l_1)).snd=
 (cy l l_1 (bZ l l_1)).snd∧
 List.map ac (cy l l_1 (bZ l l_1)).fst=
 List.map ac (cy l l_1 (bZ l l_1)).fst
theorem ae9:av xE Tryz.f237 E5 au=SS:=by kernel_rfl
noncomputable def xi:ai:=al xE 237 (ag E5)
def Pq:Prop:= ∀ (l:List (List CD)) (n:Int) (l_1:List (List CD)) (n_1:Int) (l_2:List (List CD)),
 l.length≤9223372036854775807→
 l_1.length≤9223372036854775807→
 l_2.length≤9223372036854775807→
 aG l∧aG l_1→
 (decide (n=0)=true→l.length≤1000∧l_1.length≤1000)∧
 bif decide (n=0) && decide (d6 l l_1 (bZ l l_1) < 0) then
 l=jf l_1 l n∧l_1=l_1∧n_1=n_1∧l_2=l_2
 else
 (aG l∧aG l_1)∧
 List.map ac (cy l l_1 (bZ l l_1)).fst=
 jf l_1 l n∧
 l_1=l_1∧n_1=n_1∧l_2=l_2
theorem acv:av xi Tryz.f209 EZ au=Pq:=by kernel_rfl
noncomputable def yb:ai:=al xi 209 (ag EZ)
def RB:Prop:= ∀ (l:List (List CD)) (n:Int) (l_1:List (List CD)) (n_1:Int) (l_2:List (List CD)),
 l.length≤9223372036854775807→
 l_1.length≤9223372036854775807→
 l_2.length≤9223372036854775807→
 aG l∧aG l_1→
 l.length≤9223372036854775807→
 (0≤(↑l.length:Int)∧
 (↑l.length:Int)≤(↑l.length:Int)∧(↑(8:Nat):Int)*(↑l.length:Int)≤140737488355328∧(↑l.length:Int)≤9223372036854775807)∧
 (l.length≤9223372036854775807→
 ((l=l∧
 (↑l.length:Int)=(↑l.length:Int)∧
 (0:Int)≤0∧
 0≤(↑l.length:Int)∧
 l_1=l_1∧
 n_1=n_1∧
 l_2=l_2∧
 n=(de l n 0).snd∧
 List.replicate (↑l.length:Int).toNat [.int 0] =
 List.map ac (de l n 0).fst)∧
 True)∧
 ∀ (n_2:Int) (l_3:List (List CD)) (n_3 n_4:Int) (l_4:List (List CD)) (n_5:Int) (l_5 l_6:List (List CD)),
 l_3.length≤9223372036854775807→
 l_4.length≤9223372036854775807→
 l_5.length≤9223372036854775807→
 l_6.length≤9223372036854775807→
 l_3=l∧
 n_3=(↑l.length:Int)∧
 0≤n_4∧
 n_4≤n_3∧
 l_4=l_1∧
 n_5=n_1∧
 l_5=l_2∧
 n_2=(de l n n_4.toNat).snd∧
 l_6=List.map ac (de l n n_4.toNat).fst→
 bif decide (n_4 < n_3) then
 (0≤n_4∧n_4 < (↑l_3.length:Int))∧
 n_4.toNat < l_3.length∧
 (0:Int)≤1∧
 (0≤n_4∧n_4 < (↑l_6.length:Int))∧
 n_4.toNat < l_6.length∧
 (0:Int)≤63∧
 ((-9223372036854775808:Int)≤n_4+1∧n_4+1≤9223372036854775807)∧
 (l_3=l∧
 n_3=(↑l.length:Int)∧
 0≤n_4+1∧
 n_4+1≤n_3∧
 l_4=l_1∧
 n_5=n_1∧
 l_5=l_2∧
 aw .u64 ((l_3.getD n_4.toNat []).getD 0 (.int 0)).toInt 63=
 (de l n (n_4+1).toNat).snd∧
 l_6.set n_4.toNat
 ((l_6.getD n_4.toNat []).set 0
 (.int
 (dQ .u64
 (cn .u64 ((l_3.getD n_4.toNat []).getD 0 (.int 0)).toInt
 1)
 n_2)))=
 List.map ac
 (de l n (n_4+1).toNat).fst)∧
 (n_3 - (n_4+1)).toNat < (n_3 - n_4).toNat
 else
 (l_4=l_1∧
 n_5=n_1∧
 l_5=l_2∧
 n_2=(de l n l.length).snd∧
 l_6=List.map ac (de l n l.length).fst)∧
 True)∧
 ∀ (n_2:Int) (l_3 l_4:List (List CD)) (n_3:Int) (l_5:List (List CD)),
 l_3.length≤9223372036854775807→
 l_4.length≤9223372036854775807→
 l_5.length≤9223372036854775807→
 l_4=l_1∧
 n_3=n_1∧
 l_5=l_2∧
 n_2=(de l n l.length).snd∧
 l_3=List.map ac (de l n l.length).fst→
 (aG l_3∧aG l_4)∧
 jf l_4 l_3 n_2=rc l_1 l n∧l_4=l_1∧n_3=n_1∧l_5=l_2
theorem acf:av yb Tryz.f185 GL Tf=RB:=by kernel_rfl
noncomputable def xM:ai:=al yb 185 (ag GL)
end Go.Proofs.YteiecapbaeajdaaGreatDoor
namespace Go.Proofs.YteiecapbaeajdaaGreatDoor
open Go Go.Avc Go.Proofs
set_option linter.unusedVariables false
set_option linter.unusedSimpArgs false
set_option maxRecDepth 100000
theorem Y3:Uh:=by
  intro l hl h1 β hβ
  refine ab (fun h=>(hβ h).symm) fun _=>⟨⟨by omega,by omega⟩,rfl⟩
theorem WS:af (base.with yv) 184 (ag E3):=am RJ Tryz.func184 (by kernel_rfl) (by kernel_rfl) Tryz.call184 acE Y3
theorem Rr:(base.with y8).Ok:=ae RJ WS
theorem oc {l:List (List CD)} {i:Nat} (h:l.length≤i):rv l i=0:=by
  have e:l.getD i [] = [] :=by rw [List.getD_eq_getElem?_getD,List.getElem?_eq_none h];rfl
  show ((l.getD i []).getD 0 .d0).toInt=0
  rw [e]
  rfl
theorem Z6:SE:=by
  intro l n hl h0 _
  refine ab (fun h=> ?_) fun h=> ?_
  · have:=of_decide_eq_true h
    exact ⟨⟨h0,this⟩,by omega,rfl⟩
  · have:=of_decide_eq_false h
    exact (oc (by omega)).symm
theorem W1:af (base.with y8) 245 (ag Gh):=am Rr Tryz.func245 (by kernel_rfl) (by kernel_rfl) Tryz.call245 ad1 Z6
theorem On:(base.with xS).Ok:=ae Rr W1
theorem WX:Tu:=fun n _=>decide_eq_false fun h=>h rfl
theorem ZQ:af (base.with xS) 248 (ag FY):=am On Tryz.func248 (by kernel_rfl) (by kernel_rfl) Tryz.call248 abJ WX
theorem PF:(base.with yV).Ok:=ae On ZQ
theorem U6:O8:=by
  intro x y _
  unfold mR
  refine ⟨trivial,trivial,ab (fun h=> ?_) fun h=>ab (fun h2=> ?_) fun h2=> ?_⟩
  · rw [if_pos (of_decide_eq_true h)]
  · rw [if_neg (of_decide_eq_false h),if_pos (of_decide_eq_true h2)]
  · rw [if_neg (of_decide_eq_false h),if_neg (of_decide_eq_false h2)]
theorem Wi:af (base.with yV) 244 (ag Fs):=am PF Tryz.func244 (by kernel_rfl) (by kernel_rfl) Tryz.call244 acF U6
theorem UK:(base.with ze).Ok:=ae PF Wi
theorem XY:UW:=by
  rintro a b _ _ ⟨ha,hb⟩ _ _
  have hm:max (a.length:Int) (b.length:Int)=(bZ a b:Int):=by unfold bZ;omega
  rw [hm]
  have hm2:bZ a b≤1000:=by unfold bZ;omega
  generalize bZ a b=M at *
  refine ⟨⟨by omega,by omega⟩,⟨⟨rfl,rfl,by omega,by omega,by rw [show ((M:Int)-1+1).toNat=M from by omega]⟩,trivial⟩,?_⟩
  rintro a' b' n _ _ ⟨rfl,rfl,h0,h1,h2⟩
  refine ab (fun h=> ?_) fun h=> ?_
  · have h:=of_decide_eq_true h
    obtain ⟨i,rfl⟩:=Int.eq_ofNat_of_zero_le h
    rw [Int.toNat_natCast]
    have e1:((i:Int)+1).toNat=i+1:=by omega
    rw [e1,d6] at h2
    refine ⟨h,h,trivial,ab (fun h3=> ?_) fun h3=>⟨⟨by omega,by omega⟩,⟨rfl,rfl,by omega,by omega,?_⟩,by omega⟩⟩
    · rw [h2,if_neg (of_decide_eq_true h3)]
    · rw [h2,if_pos (Decidable.not_not.1 (of_decide_eq_false h3)),show ((i:Int)-1+1).toNat=i from by omega]
  · have h:=of_decide_eq_false h
    rw [h2,show (n+1).toNat=0 from by omega]
    rfl
theorem Yb:af (base.with ze) 233 (ag Hl):=am UK Tryz.func233 (by kernel_rfl) (by kernel_rfl) Tryz.call233 abR XY
theorem OL:(base.with yf).Ok:=ae UK Yb
theorem ni (a b:List (List CD)):∀ i,(cy a b i).1.length=bZ a b
  | 0=>List.length_replicate
  | i+1=>by rw [cy,List.length_set,ni a b i]
theorem MP (a b:List (List CD)):∀ i,0≤(cy a b i).2∧(cy a b i).2≤1
  | 0=>⟨Int.le_refl 0,show (0:Int)≤1 by decide⟩
  | i+1=>uk _ _ _
theorem GZ (a b:List (List CD)):∀ i,aq (cy a b i).1
  | 0=>fun j=>by
    rw [cy,List.getD_eq_getElem?_getD,List.getElem?_replicate]
    split <;>exact bg
  | i+1=>dV (GZ a b i) (MZ _ _ _) i
theorem Dq {L:List Int} {i:Nat} (h:i<L.length) (v:Int):(L.map ac).set i (((L.map ac).getD i []).set 0 (.int v))=(L.set i v).map ac:=by
  rw [rL h,List.map_set]
  rfl
theorem Zi:Tn:=by
  rintro a b _ _ ⟨ha,hb⟩ _ _
  have hm:max (a.length:Int) (b.length:Int)=(bZ a b:Int):=by unfold bZ;omega
  rw [hm,Int.toNat_natCast,List.length_replicate]
  have hm2:bZ a b≤1000:=by have:=ha.1;have:=hb.1;unfold bZ;omega
  have hl:=ni a b
  have hc:=MP a b
  have h0':List.replicate (bZ a b) [CD.int 0] =List.map ac (cy a b 0).1:=by rw [cy,List.map_replicate];rfl
  refine ⟨⟨by omega,by omega,by omega,by omega⟩,fun _=>⟨⟨⟨rfl,rfl,rfl,by omega,by omega,rfl,h0'⟩,trivial⟩,?_⟩⟩
  rintro a' b' c n i o _ _ _ ⟨rfl,rfl,rfl,h0,h1,rfl,rfl⟩
  obtain ⟨j,rfl⟩:=Int.eq_ofNat_of_zero_le h0
  rw [Int.toNat_natCast]
  refine ab (fun h=> ?_) fun h=> ?_
  · have h:=of_decide_eq_true h
    have hj:j<(cy a' b' j).1.length:=by rw [hl];omega
    rw [List.length_map,Dq hj,show ((j:Int)+1).toNat=j+1 from by omega]
    exact ⟨h0,h0,⟨ha.2 j,hb.2 j,hc j⟩,⟨h0,by omega⟩,hj,⟨by omega,by omega⟩,⟨rfl,rfl,rfl,by omega,by omega,rfl,rfl⟩,by omega⟩
  · have h:=of_decide_eq_false h
    rw [show j=bZ a' b' from by omega]
    exact ⟨rfl,rfl⟩
theorem VB:af (base.with yf) 247 (ag EY):=am OL Tryz.func247 (by kernel_rfl) (by kernel_rfl) Tryz.call247 ael Zi
theorem Qa:(base.with xE).Ok:=ae OL VB
theorem U5:SS:=fun a b _ _ h=>⟨h,rfl,rfl⟩
theorem WM:af (base.with xE) 237 (ag E5):=am Qa Tryz.func237 (by kernel_rfl) (by kernel_rfl) Tryz.call237 ae9 U5
theorem O0:(base.with xi).Ok:=ae Qa WM
theorem Zk:Pq:=by
  rintro a c m v q _ _ _ ⟨ha,hm⟩
  unfold jf
  refine ⟨fun _=>⟨ha.1,hm.1⟩,ab (fun h=> ?_) fun h=>⟨⟨ha,hm⟩,?_,rfl,rfl,rfl⟩⟩
  · simp only [Bool.and_eq_true,decide_eq_true_eq] at h
    rw [if_pos h]
    exact ⟨rfl,rfl,rfl,rfl⟩
  · simp only [Bool.and_eq_false_iff,decide_eq_false_iff_not] at h
    rw [if_neg (fun k=>h.elim (fun h=>h k.1) fun h=>h k.2)]
theorem Yk:af (base.with xi) 209 (ag EZ):=am O0 Tryz.func209 (by kernel_rfl) (by kernel_rfl) Tryz.call209 acv Zk
theorem Q4:(base.with yb).Ok:=ae O0 Yk
theorem kY (a:List (List CD)) (c:Int):∀ i,(de a c i).1.length=a.length
  | 0=>List.length_replicate
  | i+1=>by rw [de,List.length_set,kY a c i]
theorem yR (a:List (List CD)) (c:Int):∀ i,aq (de a c i).1
  | 0=>fun j=>by
    rw [de,List.getD_eq_getElem?_getD,List.getElem?_replicate]
    split <;>exact bg
  | i+1=>dV (yR a c i) (An _ _) i
theorem Zo:RB:=by
  rintro a c m v q _ _ _ ⟨ha,hm⟩ _
  have hl:=kY a c
  have ha1:=ha.1
  have h0':List.replicate ((a.length:Int)).toNat [CD.int 0] =List.map ac (de a c 0).1:=by rw [Int.toNat_natCast,de,List.map_replicate];rfl
  refine ⟨⟨by omega,by omega,by omega,by omega⟩,fun _=>⟨⟨⟨rfl,rfl,by omega,by omega,rfl,rfl,rfl,rfl,h0'⟩,trivial⟩,?_⟩,?_⟩
  · rintro b a' n i m' v' q' o _ _ _ _ ⟨rfl,rfl,h0,h1,rfl,rfl,rfl,rfl,rfl⟩
    obtain ⟨j,rfl⟩:=Int.eq_ofNat_of_zero_le h0
    rw [Int.toNat_natCast]
    refine ab (fun h=> ?_) fun h=> ?_
    · have h:=of_decide_eq_true h
      have hj:j<(de a' c j).1.length:=by rw [hl];omega
      rw [List.length_map,Dq hj,show ((j:Int)+1).toNat=j+1 from by omega]
      exact ⟨⟨h0,h⟩,by omega,by omega,⟨h0,by omega⟩,hj,by omega,⟨by omega,by omega⟩,⟨rfl,rfl,by omega,by omega,rfl,rfl,rfl,rfl,rfl⟩,by omega⟩
    · have h:=of_decide_eq_false h
      rw [show j=a'.length from by omega]
      exact ⟨⟨rfl,rfl,rfl,rfl,rfl⟩,trivial⟩
  · rintro b o m' v' q' _ _ _ ⟨rfl,rfl,rfl,rfl,rfl⟩
    exact ⟨⟨⟨by rw [List.length_map,hl];exact ha1,fun i=>by rw [cA];exact yR a c _ i⟩,hm⟩,rfl,rfl,rfl,rfl⟩
theorem Vv:af (base.with yb) 185 (ag GL):=am Q4 Tryz.func185 (by kernel_rfl) (by kernel_rfl) Tryz.call185 acf Zo
theorem S6:(base.with xM).Ok:=ae Q4 Vv
end Go.Proofs.YteiecapbaeajdaaGreatDoor
namespace Go.Proofs.YteiecapbaeajdaaGreatDoor
open Go Go.Avc
set_option linter.unusedVariables false
def KQ:Ct:= {ps:= [.rd gH],bs:= [],pre:=fun | [.r l] =>l.length≤1000000 | _=>False,res:=fun | [.r l] => .ret (.own 0) [.own 116 gH] [.r l] | _=>aj}
def KO:Ct:= {ps:= [.ptr 0 0],bs:= [gA],pre:=fun | [.r l,.i _] =>l.length≤1000000 | _=>False,res:=fun | [.r l,.i n] => .ret (.own 1) [gA,.own 116 gH] [.r l,.i n,.r l] | _=>aj}
def A8:List (List CD):=([97,118,111,117,99,104,47,116,114,97,110,115,99,114,105,112,116,47,49] :List Int).map ac
noncomputable def RD (k:Int) (l:List (List CD)):List Int:=pp [[.sl A8],[.sl [[.int (IntKind.u8.wrap k)]]],[.sl (ah (cm (aE l)).1)]]
noncomputable def cN (k:Int) (l:List (List CD)):List Int:=if (cm (aE l)).2.2=0 then RD k l else List.replicate 32 0
noncomputable def Jy:Ct:= {ps:= [i64,.rd gH],bs:= [],pre:=fun | [.i k,.r l] =>(k=1∨k=2)∧qk l | _=>False,res:=fun
  | [.i k,.r l] => .ret (.tup [rz,i64,i64]) [] [.li (cN k l),.i (if (cm (aE l)).2.2=0 then -1 else (cm (aE l)).2.1),.i (cm (aE l)).2.2]
  | _=>aj}
end Go.Proofs.YteiecapbaeajdaaGreatDoor
namespace Go.Proofs.YteiecapbaeajdaaGreatDoor
open Go Go.Avc Go.Proofs
set_option linter.unusedVariables false
set_option maxRecDepth 100000
def P81:Prop:= ∀ (l:List (List CD)),
 l.length≤9223372036854775807→
 l.length≤1000000→
 ∀ (β:Bool),
 (β=true→l= [])→
 bif β then [] =l else ((0+l.length)*40≤140737488355328∧0+l.length≤9223372036854775807)∧ [] ++l=l
theorem e81:av xM Tryz.f81 KQ au=P81:=by kernel_rfl
noncomputable def Ek:ai:=al xM 81 (ag KQ)
def P44:Prop:= ∀ (l:List (List CD)) (n:Int),l.length≤9223372036854775807→l.length≤1000000→l.length≤1000000∧l=l∧n=n∧l=l
theorem e44:av Ek Tryz.f44 KO au=P44:=by kernel_rfl
noncomputable def FK:ai:=al Ek 44 (ag KO)
def P30:Prop:= ∀ (n:Int) (l:List (List CD)),
 l.length≤9223372036854775807→
 (n=1∨n=2)∧qk l→
 bif decide (n≠1) && decide (n≠2) then
 [0,0,0,0,0,0,0,0,0,0,0,0,0,0,0,
 (0:Int),0,0,0,0,0,0,0,0,0,0,0,0,0,0,
 (0:Int),0] =
 cN n l∧
 ((-1:Int)=
 if (cm (aE l)).snd.snd=0 then (-1:Int)
 else (cm (aE l)).snd.fst)∧
 15=(cm (aE l)).snd.snd
 else
 qk l∧
 bif decide ((cm (aE l)).snd.snd≠0) then
 [0,0,0,0,0,0,0,0,0,0,0,0,0,0,0,
 (0:Int),0,0,0,0,0,0,0,0,0,0,0,0,0,
 (0:Int),0,0] =
 cN n l∧
 ((cm (aE l)).snd.fst=
 if (cm (aE l)).snd.snd=0 then (-1:Int)
 else (cm (aE l)).snd.fst)∧
 (cm (aE l)).snd.snd=
 (cm (aE l)).snd.snd
 else
 Fh
 [[.sl
 [[.int 97],[.int 118],[.int 111],[.int 117],[.int 99],
 [.int 104],[.int 47],[.int 116],[.int 114],[.int 97],
 [.int 110],[.int 115],[.int 99],[.int 114],[.int 105],
 [.int 112],[.int 116],[.int 47],[.int 49]]],
 [.sl [[.int (IntKind.u8.wrap n)]]],
 [.sl (ah (cm (aE l)).fst)]] ∧
 pp
 [[.sl
 [[.int 97],[.int 118],[.int 111],[.int 117],[.int 99],
 [.int 104],[.int 47],[.int 116],[.int 114],[.int 97],
 [.int 110],[.int 115],[.int 99],[.int 114],[.int 105],
 [.int 112],[.int 116],[.int 47],[.int 49]]],
 [.sl [[.int (IntKind.u8.wrap n)]]],
 [.sl (ah (cm (aE l)).fst)]] =
 cN n l∧
 ((-1:Int)=
 if (cm (aE l)).snd.snd=0 then (-1:Int)
 else (cm (aE l)).snd.fst)∧
 0=(cm (aE l)).snd.snd
theorem e30:av FK Tryz.f30 Jy au=P30:=by kernel_rfl
noncomputable def Ez:ai:=al FK 30 (ag Jy)
end Go.Proofs.YteiecapbaeajdaaGreatDoor
namespace Go.Proofs.YteiecapbaeajdaaGreatDoor
open Go Go.Avc Go.Proofs
set_option linter.unusedVariables false
set_option linter.unusedSimpArgs false
set_option maxRecDepth 100000
theorem nj {l:List (List CD)} {i:Nat} (h:l.length≤i):0≤rv l i∧rv l i<256:=by rw [oc h];exact ⟨by decide,by decide⟩
theorem MV (b:List UInt8):ax (ah b):=fun i=>by
  rcases Nat.lt_or_ge i b.length with h | h
  · have e:rv (ah b) i=((b.getD i 0).toNat:Int):=Aq b h
    have:=UInt8.toNat_lt (b.getD i 0)
    rw [e]
    omega
  · exact nj (by rw [aZ];exact h)
theorem wr8 (n:Int):0≤IntKind.u8.wrap n∧IntKind.u8.wrap n<256:=by rw [mu];omega
theorem Mb {n:Int} (h:0≤n∧n<256):ax [[.int n]] :=fun i=>by
  match i with
  | 0=>exact h
  | _+1=>exact nj (by simp)
theorem U2:ax A8:=fun i=>by
  unfold A8
  rw [cA]
  rw [List.getD_eq_getElem?_getD]
  cases hb:([97,118,111,117,99,104,47,116,114,97,110,115,99,114,105,112,116,47,49] :List Int)[i]? with
  | none=>exact ⟨by decide,by decide⟩
  | some x=>
    have:=List.mem_of_getElem? hb
    revert x
    have:∀ x∈([97,118,111,117,99,104,47,116,114,97,110,115,99,114,105,112,116,47,49] :List Int),0≤x∧x<256:=by decide
    exact fun x _ h=>this x h
theorem XZ {a b c:List (List CD)} (ha:ax a) (hb:ax b) (hc:ax c):Fh [[.sl a],[.sl b],[.sl c]] :=fun i=>by
  match i with
  | 0=>exact ha
  | 1=>exact hb
  | 2=>exact hc
  | _+3=>exact fun j=>nj (l:= []) (Nat.zero_le j)
theorem adw:P81:=by
  intro l _ h β hβ
  refine ab (fun e=>(hβ e).symm) fun _=>⟨⟨by omega,by omega⟩,rfl⟩
theorem acC:af (base.with xM) 81 (ag KQ):=am S6 Tryz.func81 (by kernel_rfl) (by kernel_rfl) Tryz.call81 e81 adw
theorem c81:(base.with Ek).Ok:=ae S6 acC
theorem adr:P44:=fun l n _ h=>⟨h,rfl,rfl,rfl⟩
theorem adE:af (base.with Ek) 44 (ag KO):=am c81 Tryz.func44 (by kernel_rfl) (by kernel_rfl) Tryz.call44 e44 adr
theorem c44:(base.with FK).Ok:=ae c81 adE
theorem aer:P30:=by
  rintro k l _ ⟨hk,hp⟩
  refine ab (fun h=> ?_) fun _=>⟨hp,ab (fun h=> ?_) fun h=> ?_⟩
  · simp only [Bool.and_eq_true,decide_eq_true_eq] at h
    omega
  · have h:=of_decide_eq_true h
    unfold cN
    rw [if_neg h,if_neg h]
    exact ⟨rfl,rfl,rfl⟩
  · have h:=Decidable.not_not.1 (of_decide_eq_false h)
    unfold cN
    rw [if_pos h,if_pos h]
    exact ⟨XZ U2 (Mb (wr8 k)) (MV _),rfl,rfl,h.symm⟩
theorem acO:af (base.with FK) 30 (ag Jy):=am c44 Tryz.func30 (by kernel_rfl) (by kernel_rfl) Tryz.call30 e30 aer
theorem c30:(base.with Ez).Ok:=ae c44 acO
end Go.Proofs.YteiecapbaeajdaaGreatDoor
namespace Go.Proofs.YteiecapbaeajdaaGreatDoor
open Go Go.Avc
set_option linter.unusedVariables false
def b9:List UInt8:= [0,1,2,2,3,3,3,3,4,4,4,4,4,4,4,4,5,5,5,5,5,5,5,5,5,5,5,5,5,5,5,5,6,6,6,6,6,6,6,6,6,6,6,6,6,6,6,6,6,6,6,6,6,6,6,6,6,6,6,6,6,6,6,6,7,7,7,7,7,7,7,7,7,7,7,7,7,7,7,7,7,7,7,7,7,7,7,7,7,7,7,7,7,7,7,7,7,7,7,7,7,7,7,7,7,7,7,7,7,7,7,7,7,7,7,7,7,7,7,7,7,7,7,7,7,7,7,7,8,8,8,8,8,8,8,8,8,8,8,8,8,8,8,8,8,8,8,8,8,8,8,8,8,8,8,8,8,8,8,8,8,8,8,8,8,8,8,8,8,8,8,8,8,8,8,8,8,8,8,8,8,8,8,8,8,8,8,8,8,8,8,8,8,8,8,8,8,8,8,8,8,8,8,8,8,8,8,8,8,8,8,8,8,8,8,8,8,8,8,8,8,8,8,8,8,8,8,8,8,8,8,8,8,8,8,8,8,8,8,8,8,8,8,8,8,8,8,8,8,8,8,8,8,8,8,8]
def bW (x:Int):Int:=((bitLen x.toNat:Nat):Int)
def bd (a:List (List CD)):Nat→Int
  | 0=>0
  | n+1=>if rv a n=0 then bd a n else 64*n+bW (rv a n)
def pR:List (List CD):=pW.map ac
def AX (m:Int):Nat→Int
  | 0=>1
  | i+1=>IntKind.u64.wrap (AX m i*IntKind.u64.wrap (2-IntKind.u64.wrap (m*AX m i)))
def m4 (m:Int):Int:=IntKind.u64.wrap (0-AX m 6)
def kB (m:List (List CD)):Nat→List (List CD)
  | 0=>(List.replicate m.length [.int 0]).set 0 [.int 1]
  | i+1=>rc m (kB m i) 0
noncomputable def c7 (m:List (List CD)):List (List CD):=hid (kB m (128*m.length))
def pJ (m:List (List CD)):Prop:=2≤m.length∧m.length≤16∧ce m∧bU .u64 (rv m 0) 1≠0∧rv m (m.length-1)≠0
def j9 (m a:List (List CD)) (k:Nat):Nat→List (List CD)
  | 0=>List.replicate m.length [.int 0]
  | i+1=>rc m (j9 m a k i) (bU .u64 (aw .u64 (rv a ((k-1-i) / 64)) (((k-1-i)%64:Nat):Int)) 1)
noncomputable def cw (m a:List (List CD)):List (List CD):=hid (j9 m a (bd a a.length).toNat (bd a a.length).toNat)
def Fg:Ct:= {ps:= [u64],bs:= [],pre:=fun | [.i x] =>ak x | _=>False,res:=fun | [.i x] => .ret i64 [] [.i (bW x)] | _=>aj}
def E6:Ct:= {ps:= [aI],bs:= [],pre:=fun | [.r a] =>aG a | _=>False,res:=fun | [.r a] => .ret i64 [] [.i (bd a a.length)] | _=>aj}
def Oo:List Dat→Ann
  | [.r a] => {cut:= [],loop:= [(2,[la 24 [(0,aI),(3,i64)] [] (fun | [.r a',.i i] =>a'=a∧-1≤i∧i<a.length∧bd a a.length=bd a (i+1).toNat | _=>False) (fun | [_,.i i] =>(i+1).toNat | _=>0)])]}
  | _=> {cut:= [],loop:= []}
noncomputable def DY:Ct:= {ps:= [aI],bs:= [],pre:=fun | [.r l] =>pJ l | _=>False,res:=fun | [.r l] => .ret (.tup [.ptr 0 0,i64]) [qM] [.i 0,.r l,.i (m4 (rv l 0)),.r (c7 l)] | _=>aj}
def R3:List Dat→Ann
  | [.r l] =>⟨[],[(6,[la 88 [(0,aI),(4,.ptr 0 0),(5,u64),(45,i64)] [qM] (fun | [.r l',.i x,.i i,.r m,.i _,.r q] =>l'=l∧m=l∧0≤i∧i≤6∧x=AX (rv l 0) i.toNat | _=>False) (fun | [_,_,.i i,_,_,_] =>(6-i).toNat | _=>0)]),
      (13,[la 88 [(4,.ptr 0 0),(74,i64),(75,i64)] [qM] (fun | [.i n,.i i,.r m,.i v,.r q] =>n=128*(l.length:Int)∧0≤i∧i≤n∧m=l∧v=m4 (rv l 0)∧q=kB l i.toNat | _=>False) (fun | [.i n,.i i,_,_,_] =>(n-i).toNat | _=>0)])],[]⟩
  | _=> {cut:= [],loop:= []}
noncomputable def sV:Ct:= {ps:= [.ptr 0 0,aI],bs:= [qM],pre:=fun | [.r a,.r m,.i _,.r _] =>aG a∧aG m | _=>False,res:=fun | [.r a,.r m,.i v,.r q] => .ret aI [qM] [.r (cw m a),.r m,.i v,.r q] | _=>aj}
def Su:List Dat→Ann
  | [.r a,.r m,.i v,.r q] => {cut:= [],loop:= [(3,[la 33 [(0,.ptr 0 0),(1,aI),(5,aI),(6,i64)] [qM] (fun | [.r a',.r o,.i i,.r m',.i v',.r q'] =>a'=a∧m'=m∧v'=v∧q'=q∧-1≤i∧i<bd a a.length∧o=j9 m a (bd a a.length).toNat ((bd a a.length).toNat-(i+1).toNat) | _=>False) (fun | [_,_,.i i,_,_,_] =>(i+1).toNat | _=>0)])]}
  | _=> {cut:= [],loop:= []}
end Go.Proofs.YteiecapbaeajdaaGreatDoor
namespace Go.Proofs.YteiecapbaeajdaaGreatDoor
open Go Go.Avc Go.Proofs
set_option linter.unusedVariables false
set_option maxRecDepth 100000
def To:Prop:= ∀ (n:Int),
 ak n→
 bif decide (4294967296≤n) then
 (0:Int)≤32∧
 bif decide (65536≤aw .u64 n 32) then
 (0:Int)≤16∧
 ((-9223372036854775808:Int)≤32+16∧(32:Int)+16≤9223372036854775807)∧
 bif decide (256≤aw .u64 (aw .u64 n 32) 16) then
 (0:Int)≤8∧
 ((-9223372036854775808:Int)≤32+16+8∧(32:Int)+16+8≤9223372036854775807)∧
 (0≤IntKind.u8.wrap (aw .u64 (aw .u64 (aw .u64 n 32) 16) 8)∧
 IntKind.u8.wrap (aw .u64 (aw .u64 (aw .u64 n 32) 16) 8) <
 (↑(256:Nat):Int))∧
 ((-9223372036854775808:Int)≤
 (32:Int)+16+8+
 IntKind.i64.wrap
 (↑(b9.getD
 (IntKind.u8.wrap
 (aw .u64 (aw .u64 (aw .u64 n 32) 16) 8)).toNat
 (0:UInt8)).toNat:
 Int)∧
 (32:Int)+16+8+
 IntKind.i64.wrap
 (↑(b9.getD
 (IntKind.u8.wrap
 (aw .u64 (aw .u64 (aw .u64 n 32) 16) 8)).toNat
 (0:UInt8)).toNat:
 Int)≤
 (9223372036854775807:Int))∧
 (32:Int)+16+8+
 IntKind.i64.wrap
 (↑(b9.getD
 (IntKind.u8.wrap
 (aw .u64 (aw .u64 (aw .u64 n 32) 16) 8)).toNat
 (0:UInt8)).toNat:
 Int)=
 bW n
 else
 (0≤IntKind.u8.wrap (aw .u64 (aw .u64 n 32) 16)∧
 IntKind.u8.wrap (aw .u64 (aw .u64 n 32) 16) < (↑(256:Nat):Int))∧
 ((-9223372036854775808:Int)≤
 (32:Int)+16+
 IntKind.i64.wrap
 (↑(b9.getD
 (IntKind.u8.wrap (aw .u64 (aw .u64 n 32) 16)).toNat (0:UInt8)).toNat:
 Int)∧
 (32:Int)+16+
 IntKind.i64.wrap
 (↑(b9.getD
 (IntKind.u8.wrap (aw .u64 (aw .u64 n 32) 16)).toNat (0:UInt8)).toNat:
 Int)≤
 (9223372036854775807:Int))∧
 (32:Int)+16+
 IntKind.i64.wrap
 (↑(b9.getD
 (IntKind.u8.wrap (aw .u64 (aw .u64 n 32) 16)).toNat (0:UInt8)).toNat:
 Int)=
 bW n
 else
 bif decide (256≤aw .u64 n 32) then
 (0:Int)≤8∧
 ((-9223372036854775808:Int)≤32+8∧(32:Int)+8≤9223372036854775807)∧
 (0≤IntKind.u8.wrap (aw .u64 (aw .u64 n 32) 8)∧
 IntKind.u8.wrap (aw .u64 (aw .u64 n 32) 8) < (↑(256:Nat):Int))∧
 ((-9223372036854775808:Int)≤
 (32:Int)+8+
 IntKind.i64.wrap
 (↑(b9.getD
 (IntKind.u8.wrap (aw .u64 (aw .u64 n 32) 8)).toNat (0:UInt8)).toNat:
 Int)∧
 (32:Int)+8+
 IntKind.i64.wrap
 (↑(b9.getD
 (IntKind.u8.wrap (aw .u64 (aw .u64 n 32) 8)).toNat (0:UInt8)).toNat:
 Int)≤
 (9223372036854775807:Int))∧
 (32:Int)+8+
 IntKind.i64.wrap
 (↑(b9.getD
 (IntKind.u8.wrap (aw .u64 (aw .u64 n 32) 8)).toNat (0:UInt8)).toNat:
 Int)=
 bW n
 else
 (0≤IntKind.u8.wrap (aw .u64 n 32)∧IntKind.u8.wrap (aw .u64 n 32) < (↑(256:Nat):Int))∧
 ((-9223372036854775808:Int)≤
 (32:Int)+
 IntKind.i64.wrap
 (↑(b9.getD
 (IntKind.u8.wrap (aw .u64 n 32)).toNat (0:UInt8)).toNat:
 Int)∧
 (32:Int)+
 IntKind.i64.wrap
 (↑(b9.getD
 (IntKind.u8.wrap (aw .u64 n 32)).toNat (0:UInt8)).toNat:
 Int)≤
 (9223372036854775807:Int))∧
 (32:Int)+
 IntKind.i64.wrap
 (↑(b9.getD
 (IntKind.u8.wrap (aw .u64 n 32)).toNat (0:UInt8)).toNat:
 Int)=
 bW n
 else
 bif decide (65536≤n) then
 (0:Int)≤16∧
 ((-9223372036854775808:Int)≤0+16∧(0:Int)+16≤9223372036854775807)∧
 bif decide (256≤aw .u64 n 16) then
 (0:Int)≤8∧
 ((-9223372036854775808:Int)≤0+16+8∧(0:Int)+16+8≤9223372036854775807)∧
 (0≤IntKind.u8.wrap (aw .u64 (aw .u64 n 16) 8)∧
 IntKind.u8.wrap (aw .u64 (aw .u64 n 16) 8) < (↑(256:Nat):Int))∧
 ((-9223372036854775808:Int)≤
 (0:Int)+16+8+
 IntKind.i64.wrap
 (↑(b9.getD
 (IntKind.u8.wrap (aw .u64 (aw .u64 n 16) 8)).toNat (0:UInt8)).toNat:
 Int)∧
 (0:Int)+16+8+
 IntKind.i64.wrap
 (↑(b9.getD
 (IntKind.u8.wrap (aw .u64 (aw .u64 n 16) 8)).toNat (0:UInt8)).toNat:
 Int)≤
 (9223372036854775807:Int))∧
 (0:Int)+16+8+
 IntKind.i64.wrap
 (↑(b9.getD
 (IntKind.u8.wrap (aw .u64 (aw .u64 n 16) 8)).toNat (0:UInt8)).toNat:
 Int)=
 bW n
 else
 (0≤IntKind.u8.wrap (aw .u64 n 16)∧IntKind.u8.wrap (aw .u64 n 16) < (↑(256:Nat):Int))∧
 ((-9223372036854775808:Int)≤
 (0:Int)+16+
 IntKind.i64.wrap
 (↑(b9.getD
 (IntKind.u8.wrap (aw .u64 n 16)).toNat (0:UInt8)).toNat:
 Int)∧
 (0:Int)+16+
 IntKind.i64.wrap
 (↑(b9.getD
 (IntKind.u8.wrap (aw .u64 n 16)).toNat (0:UInt8)).toNat:
 Int)≤
 (9223372036854775807:Int))∧
 (0:Int)+16+
 IntKind.i64.wrap
 (↑(b9.getD
 (IntKind.u8.wrap (aw .u64 n 16)).toNat (0:UInt8)).toNat:
 Int)=
 bW n
 else
 bif decide (256≤n) then
 (0:Int)≤8∧
 ((-9223372036854775808:Int)≤0+8∧(0:Int)+8≤9223372036854775807)∧
 (0≤IntKind.u8.wrap (aw .u64 n 8)∧IntKind.u8.wrap (aw .u64 n 8) < (↑(256:Nat):Int))∧
 ((-9223372036854775808:Int)≤
 (0:Int)+8+
 IntKind.i64.wrap
 (↑(b9.getD
 (IntKind.u8.wrap (aw .u64 n 8)).toNat (0:UInt8)).toNat:
 Int)∧
 (0:Int)+8+
 IntKind.i64.wrap
 (↑(b9.getD
 (IntKind.u8.wrap (aw .u64 n 8)).toNat (0:UInt8)).toNat:
 Int)≤
 (9223372036854775807:Int))∧
 (0:Int)+8+
 IntKind.i64.wrap
 (↑(b9.getD
 (IntKind.u8.wrap (aw .u64 n 8)).toNat (0:UInt8)).toNat:
 Int)=
 bW n
 else
 (0≤IntKind.u8.wrap n∧IntKind.u8.wrap n < (↑(256:Nat):Int))∧
 ((-9223372036854775808:Int)≤
 (0:Int)+
 IntKind.i64.wrap
 (↑(b9.getD
 (IntKind.u8.wrap n).toNat (0:UInt8)).toNat:
 Int)∧
 (0:Int)+
 IntKind.i64.wrap
 (↑(b9.getD
 (IntKind.u8.wrap n).toNat (0:UInt8)).toNat:
 Int)≤
 (9223372036854775807:Int))∧
 (0:Int)+
 IntKind.i64.wrap
 (↑(b9.getD
 (IntKind.u8.wrap n).toNat (0:UInt8)).toNat:
 Int)=
 bW n
theorem ab4:av Ez Tryz.f210 Fg au=To:=by kernel_rfl
noncomputable def xA:ai:=al Ez 210 (ag Fg)
def Ud:Prop:= ∀ (l:List (List CD)),
 l.length≤9223372036854775807→
 aG l→
 l.length≤9223372036854775807→
 ((-9223372036854775808:Int)≤(↑l.length:Int) - 1∧(↑l.length:Int) - 1≤9223372036854775807)∧
 ((l=l∧
 (-1:Int)≤(↑l.length:Int) - 1∧
 (↑l.length:Int) - 1 < (↑l.length:Int)∧
 bd l l.length=bd l ((↑l.length:Int) - 1+1).toNat)∧
 True)∧
 ∀ (l_1:List (List CD)) (n:Int),
 l_1.length≤9223372036854775807→
 l_1=l∧
 (-1:Int)≤n∧n < (↑l.length:Int)∧bd l l.length=bd l (n+1).toNat→
 bif decide (0≤n) then
 (0≤n∧n < (↑l_1.length:Int))∧
 n.toNat < l_1.length∧
 bif decide (((l_1.getD n.toNat []).getD 0 (.int 0)).toInt≠0) then
 ((-9223372036854775808:Int)≤64*n∧(64:Int)*n≤9223372036854775807)∧
 (0≤n∧n < (↑l_1.length:Int))∧
 n.toNat < l_1.length∧
 ak ((l_1.getD n.toNat []).getD 0 (.int 0)).toInt∧
 ((-9223372036854775808:Int)≤
 (64:Int)*n+bW ((l_1.getD n.toNat []).getD 0 (.int 0)).toInt∧
 (64:Int)*n+bW ((l_1.getD n.toNat []).getD 0 (.int 0)).toInt≤
 (9223372036854775807:Int))∧
 (64:Int)*n+bW ((l_1.getD n.toNat []).getD 0 (.int 0)).toInt=
 bd l l.length
 else
 ((-9223372036854775808:Int)≤n - 1∧n - 1≤9223372036854775807)∧
 (l_1=l∧
 (-1:Int)≤n - 1∧
 n - 1 < (↑l.length:Int)∧
 bd l l.length=bd l (n - 1+1).toNat)∧
 (n - 1+1).toNat < (n+1).toNat
 else 0=bd l l.length
theorem acr:av xA Tryz.f186 E6 Oo=Ud:=by kernel_rfl
noncomputable def yl:ai:=al xA 186 (ag E6)
def RN:Prop:= ∀ (l:List (List CD)),
 l.length≤9223372036854775807→
 pJ l→
 l.length≤9223372036854775807→
 (bw false (decide ((↑l.length:Int) < 1))=true→l.length≤9223372036854775807)→
 ((!(decide ((↑l.length:Int) < 1) || decide (16 < (↑l.length:Int))))=true→(0:Int)≤0∧0 < (↑l.length:Int))∧
 ((!(decide ((↑l.length:Int) < 1) || decide (16 < (↑l.length:Int))))=true→0 < l.length)∧
 ((bw false
 (decide ((↑l.length:Int) < 1) || decide (16 < (↑l.length:Int)) ||
 decide (bU .u64 ((l.getD (Int.toNat 0) []).getD 0 CD.d0).toInt 1=0))=
 true→
 l.length≤9223372036854775807)→
 ((!(decide ((↑l.length:Int) < 1) || decide (16 < (↑l.length:Int)) ||
 decide (bU .u64 ((l.getD 0 []).getD 0 (CD.int 0)).toInt 1=0)))=
 true→
 (-9223372036854775808:Int)≤(↑l.length:Int) - 1∧(↑l.length:Int) - 1≤9223372036854775807)∧
 ((!(decide ((↑l.length:Int) < 1) || decide (16 < (↑l.length:Int)) ||
 decide (bU .u64 ((l.getD 0 []).getD 0 (CD.int 0)).toInt 1=0)))=
 true→
 0≤(↑l.length:Int) - 1∧(↑l.length:Int) - 1 < (↑l.length:Int))∧
 ((!(decide ((↑l.length:Int) < 1) || decide (16 < (↑l.length:Int)) ||
 decide (bU .u64 ((l.getD 0 []).getD 0 (CD.int 0)).toInt 1=0)))=
 true→
 ((↑l.length:Int) - 1).toNat < l.length)∧
 ((bw false
 (decide ((↑l.length:Int) < 1) || decide (16 < (↑l.length:Int)) ||
 decide (bU .u64 ((l.getD (Int.toNat 0) []).getD 0 CD.d0).toInt 1=0) ||
 decide (((l.getD ((↑l.length:Int) - 1).toNat []).getD 0 CD.d0).toInt=0))=
 true→
 l.length≤9223372036854775807)→
 ((({t:=(34:Nat),d:=(30:Nat),want:=false,c:= !(decide ((↑l.length:Int) < 1) || decide (16 < (↑l.length:Int)) || decide (bU .u64 ((l.getD 0 []).getD 0 (CD.int 0)).toInt 1=0) || decide (((l.getD ((↑l.length:Int) - 1).toNat []).getD 0 (CD.int 0)).toInt=0)),sv:=.bool (decide ((↑l.length:Int)=1))} :GE).c &&
 decide ((↑l.length:Int)=1))=
 true→
 (0:Int)≤0∧0 < (↑l.length:Int))∧
 ((({t:=(34:Nat),d:=(30:Nat),want:=false,c:= !(decide ((↑l.length:Int) < 1) || decide (16 < (↑l.length:Int)) || decide (bU .u64 ((l.getD 0 []).getD 0 (CD.int 0)).toInt 1=0) || decide (((l.getD ((↑l.length:Int) - 1).toNat []).getD 0 (CD.int 0)).toInt=0)),sv:=.bool (decide ((↑l.length:Int)=1))} :GE).c &&
 decide ((↑l.length:Int)=1))=
 true→
 0 < l.length)∧
 bif
 decide ((↑l.length:Int) < 1) || decide (16 < (↑l.length:Int)) ||
 decide (bU .u64 ((l.getD 0 []).getD 0 (CD.int 0)).toInt 1=0) ||
 decide (((l.getD ((↑l.length:Int) - 1).toNat []).getD 0 (CD.int 0)).toInt=0) ||
 decide ((↑l.length:Int)=1) && decide (((l.getD 0 []).getD 0 (CD.int 0)).toInt=1) then
 Miss 2 {n:=0,ov:= [],tm:= [.tup [.nilp,.int .i64 1]],hp:= [],G:= []}
 else
 l.length≤1000∧
 ((l=l∧
 l=l∧
 (0:Int)≤0∧
 (0:Int)≤6∧
 1=AX (rv l 0) 0)∧
 True)∧
 ∀ (l_1:List (List CD)) (n n_1:Int) (l_2:List (List CD)) (n_2:Int) (l_3:List (List CD)),
 l_1.length≤9223372036854775807→
 l_2.length≤9223372036854775807→
 l_3.length≤9223372036854775807→
 l_1=l∧
 l_2=l∧
 0≤n_1∧
 n_1≤6∧n=AX (rv l 0) n_1.toNat→
 bif decide (n_1 < 6) then
 ((0:Int)≤0∧0 < (↑l_1.length:Int))∧
 0 < l_1.length∧
 ((-9223372036854775808:Int)≤n_1+1∧n_1+1≤9223372036854775807)∧
 (l_1=l∧
 l_2=l∧
 0≤n_1+1∧
 n_1+1≤6∧
 IntKind.u64.wrap
 (n*
 IntKind.u64.wrap
 ((2:Int) -
 IntKind.u64.wrap (((l_1.getD 0 []).getD 0 (CD.int 0)).toInt*n)))=
 AX (rv l 0)
 (n_1+1).toNat)∧
 ((6:Int) - (n_1+1)).toNat < ((6:Int) - n_1).toNat
 else
 l_1.length≤9223372036854775807→
 (0≤(↑l_1.length:Int)∧
 (↑l_1.length:Int)≤(↑l_1.length:Int)∧
 (↑(8:Nat):Int)*(↑l_1.length:Int)≤140737488355328∧(↑l_1.length:Int)≤9223372036854775807)∧
 ((0:Int)≤0∧0 < (↑(List.replicate (↑l_1.length:Int).toNat [CD.int 0]).length:Int))∧
 0 < (List.replicate (↑l_1.length:Int).toNat [CD.int 0]).length∧
 (l_1.length≤9223372036854775807→
 ((-9223372036854775808:Int)≤128*(↑l_1.length:Int)∧
 (128:Int)*(↑l_1.length:Int)≤9223372036854775807)∧
 (((128:Int)*(↑l_1.length:Int)=128*(↑l.length:Int)∧
 (0:Int)≤0∧
 (0:Int)≤128*(↑l_1.length:Int)∧
 l_2=l∧
 IntKind.u64.wrap ((0:Int) - n)=
 m4 (rv l 0)∧
 (List.replicate (↑l_1.length:Int).toNat [CD.int 0]).set 0
 (((List.replicate (↑l_1.length:Int).toNat [CD.int 0]).getD 0 []).set 0
 (CD.int 1))=
 kB l 0)∧
 True)∧
 ∀ (n n_3:Int) (l_4:List (List CD)) (n_4:Int) (l_5:List (List CD)),
 l_4.length≤9223372036854775807→
 l_5.length≤9223372036854775807→
 n=128*(↑l.length:Int)∧
 0≤n_3∧
 n_3≤n∧
 l_4=l∧
 n_4=m4 (rv l 0)∧
 l_5=kB l n_3.toNat→
 bif decide (n_3 < n) then
 (aG l_5∧aG l_4)∧
 ((-9223372036854775808:Int)≤n_3+1∧n_3+1≤9223372036854775807)∧
 (n=128*(↑l.length:Int)∧
 0≤n_3+1∧
 n_3+1≤n∧
 l_4=l∧
 n_4=
 m4
 (rv l 0)∧
 rc l_4 l_5 0=
 kB l (n_3+1).toNat)∧
 (n - (n_3+1)).toNat < (n - n_3).toNat
 else
 (0:Int)=0∧
 l_4=l∧
 n_4=m4 (rv l 0)∧
 l_5=c7 l)))
theorem acz:av yl Tryz.f143 DY R3=RN:=by kernel_rfl
noncomputable def xn:ai:=al yl 143 (ag DY)
def Pw:Prop:= ∀ (l l_1:List (List CD)) (n:Int) (l_2:List (List CD)),
 l.length≤9223372036854775807→
 l_1.length≤9223372036854775807→
 l_2.length≤9223372036854775807→
 aG l∧aG l_1→
 l_1.length≤9223372036854775807→
 (0≤(↑l_1.length:Int)∧
 (↑l_1.length:Int)≤(↑l_1.length:Int)∧
 (↑(8:Nat):Int)*(↑l_1.length:Int)≤140737488355328∧(↑l_1.length:Int)≤9223372036854775807)∧
 aG l∧
 ((-9223372036854775808:Int)≤bd l l.length - 1∧
 bd l l.length - 1≤9223372036854775807)∧
 ((l=l∧
 l_1=l_1∧
 n=n∧
 l_2=l_2∧
 (-1:Int)≤bd l l.length - 1∧
 bd l l.length - 1 < bd l l.length∧
 List.replicate (↑l_1.length:Int).toNat [.int 0] =
 j9 l_1 l (bd l l.length).toNat
 ((bd l l.length).toNat -
 (bd l l.length - 1+1).toNat))∧
 True)∧
 ∀ (l_3 l_4:List (List CD)) (n_1:Int) (l_5:List (List CD)) (n_2:Int) (l_6:List (List CD)),
 l_3.length≤9223372036854775807→
 l_4.length≤9223372036854775807→
 l_5.length≤9223372036854775807→
 l_6.length≤9223372036854775807→
 l_3=l∧
 l_5=l_1∧
 n_2=n∧
 l_6=l_2∧
 (-1:Int)≤n_1∧
 n_1 < bd l l.length∧
 l_4=
 j9 l_1 l (bd l l.length).toNat
 ((bd l l.length).toNat - (n_1+1).toNat)→
 bif decide (0≤n_1) then
 (0≤n_1∧(0:Int) < 64∧n_1≤IntKind.i64.max)∧
 (0≤n_1 / 64∧n_1 / 64 < (↑l_3.length:Int))∧
 (n_1 / 64).toNat < l_3.length∧
 (0≤n_1∧(0:Int) < 64)∧
 0≤n_1 % 64∧
 (aG l_4∧aG l_5)∧
 ((-9223372036854775808:Int)≤n_1 - 1∧n_1 - 1≤9223372036854775807)∧
 (l_3=l∧
 l_5=l_1∧
 n_2=n∧
 l_6=l_2∧
 (-1:Int)≤n_1 - 1∧
 n_1 - 1 < bd l l.length∧
 rc l_5 l_4
 (bU .u64
 (aw .u64
 ((l_3.getD (n_1 / 64).toNat []).getD 0 (.int 0)).toInt (n_1 % 64))
 1)=
 j9 l_1 l (bd l l.length).toNat
 ((bd l l.length).toNat - (n_1 - 1+1).toNat))∧
 (n_1 - 1+1).toNat < (n_1+1).toNat
 else l_4=cw l_1 l∧l_5=l_1∧n_2=n∧l_6=l_2
theorem adP:av xn Tryz.f144 sV Su=Pw:=by kernel_rfl
noncomputable def w9:ai:=al xn 144 (ag sV)
end Go.Proofs.YteiecapbaeajdaaGreatDoor
namespace Go.Proofs.YteiecapbaeajdaaGreatDoor
open Go Go.Avc Go.Proofs
set_option linter.unusedVariables false
set_option linter.unusedSimpArgs false
set_option maxRecDepth 100000
theorem KN:∀ i:Fin 256,(b9.getD i.val 0).toNat=bitLen i.val:=by decide+kernel
theorem Kb (i:Nat) (h:i<256):bitLen i≤8:=bitLen_le8 i h
theorem iG {b n z:Int} (h0:0≤z) (h1:z<256) (hb0:0≤b) (hb:b≤56) (h:bW n=b+bW z):
    ((0:Int)≤IntKind.u8.wrap z∧IntKind.u8.wrap z<((256:Nat):Int))∧
    ((-9223372036854775808:Int)≤b+IntKind.i64.wrap (((b9.getD (IntKind.u8.wrap z).toNat 0).toNat:Nat):Int)∧b+IntKind.i64.wrap (((b9.getD (IntKind.u8.wrap z).toNat 0).toNat:Nat):Int)≤9223372036854775807)∧
    b+IntKind.i64.wrap (((b9.getD (IntKind.u8.wrap z).toNat 0).toNat:Nat):Int)=bW n:=by
  obtain ⟨k,rfl⟩:=Int.eq_ofNat_of_zero_le h0
  have hk:k<256:=by omega
  have e1:IntKind.u8.wrap (k:Int)=k:=mK _ _ (by omega) (by show (k:Int)≤255;omega)
  have h8:=Kb k hk
  have e2:(b9.getD k 0).toNat=bitLen k:=KN ⟨k,hk⟩
  have e3:IntKind.i64.wrap ((bitLen k:Nat):Int)=(bitLen k:Nat):=mK _ _ (by omega) (by show ((bitLen k:Nat):Int)≤9223372036854775807;omega)
  have e4:bW (k:Int)=(bitLen k:Nat):=by unfold bW;rw [Int.toNat_natCast]
  rw [e1,Int.toNat_natCast,e2,e3,h,e4]
  exact ⟨⟨by omega,by omega⟩,⟨by omega,by omega⟩,rfl⟩
theorem Bb (n:Int) (b:Nat) (hb:b≤64):aw .u64 n b=n / 2 ^ b:=by
  unfold aw
  rw [Int.toNat_natCast,show min b IntKind.u64.bits=b from Nat.min_eq_left hb]
  exact Int.fdiv_eq_ediv_of_nonneg _ (by exact_mod_cast Nat.zero_le (2 ^ b))
theorem ot {n:Int} (h0:0≤n) (b:Nat) (h:n / 2 ^ b≠0):bW n=b+bW (n / 2 ^ b):=by
  obtain ⟨k,rfl⟩:=Int.eq_ofNat_of_zero_le h0
  have e1:((k:Nat):Int) / 2 ^ b=((k / 2 ^ b:Nat):Int):=by simp
  rw [e1] at h ⊢
  unfold bW
  rw [Int.toNat_natCast,Int.toNat_natCast,bitLen_shift k b (by omega)]
  omega
theorem A9 {n:Int} (h:ak n):0≤bW n∧bW n≤64:=by
  obtain ⟨k,rfl⟩:=Int.eq_ofNat_of_zero_le h.1
  unfold bW
  rw [Int.toNat_natCast]
  refine ⟨by omega,?_⟩
  have hk:k<2 ^ 64:=by have:=h.2;omega
  unfold bitLen
  split
  · decide
  · rename_i h0
    have:=(Nat.log2_lt h0).2 hk
    omega
theorem WE:To:=by
  intro n hn
  have h0:0≤n:=hn.1
  have h1:n<18446744073709551616:=hn.2
  have s:∀ z:Int,∀ b:Nat,b≤64→aw .u64 z (b:Int)=z / 2 ^ b:=Bb
  have s32:∀ z:Int,aw .u64 z 32=z / 4294967296:=fun z=>s z 32 (by decide)
  have s16:∀ z:Int,aw .u64 z 16=z / 65536:=fun z=>s z 16 (by decide)
  have s8:∀ z:Int,aw .u64 z 8=z / 256:=fun z=>s z 8 (by decide)
  have l32:∀ z:Int,0≤z→4294967296≤z→bW z=32+bW (z / 4294967296):=fun z h k=>ot h 32 (by show z / 4294967296≠0;omega)
  have l16:∀ z:Int,0≤z→65536≤z→bW z=16+bW (z / 65536):=fun z h k=>ot h 16 (by show z / 65536≠0;omega)
  have l8:∀ z:Int,0≤z→256≤z→bW z=8+bW (z / 256):=fun z h k=>ot h 8 (by show z / 256≠0;omega)
  simp only [s32,s16,s8]
  have T:∀ {p:Prop},p→((0:Int)≤32∧p):=fun h=>⟨by decide,h⟩
  refine ab (fun c1=>⟨by decide,ab (fun c2=>⟨by decide,⟨by decide,by decide⟩,ab (fun c3=>⟨by decide,⟨by decide,by decide⟩,?_⟩) fun c3=> ?_⟩) fun c2=>ab (fun c3=>⟨by decide,⟨by decide,by decide⟩,?_⟩) fun c3=> ?_⟩)
    fun c1=>ab (fun c2=>⟨by decide,⟨by decide,by decide⟩,ab (fun c3=>⟨by decide,⟨by decide,by decide⟩,?_⟩) fun c3=> ?_⟩) fun c2=>ab (fun c3=>⟨by decide,⟨by decide,by decide⟩,?_⟩) fun c3=> ?_
  all_goals
    first
    | replace c1:=of_decide_eq_true c1
    | replace c1:=of_decide_eq_false c1
    first
    | replace c2:=of_decide_eq_true c2
    | replace c2:=of_decide_eq_false c2
    first
    | replace c3:=of_decide_eq_true c3
    | replace c3:=of_decide_eq_false c3
  · exact iG (by omega) (by omega) (by decide) (by decide) (by rw [l32 n h0 c1,l16 _ (by omega) c2,l8 _ (by omega) c3];omega)
  · exact iG (by omega) (by omega) (by decide) (by decide) (by rw [l32 n h0 c1,l16 _ (by omega) c2];omega)
  · exact iG (by omega) (by omega) (by decide) (by decide) (by rw [l32 n h0 c1,l8 _ (by omega) c3];omega)
  · exact iG (by omega) (by omega) (by decide) (by decide) (by rw [l32 n h0 c1])
  · exact iG (by omega) (by omega) (by decide) (by decide) (by rw [l16 n h0 c2,l8 _ (by omega) c3];omega)
  · exact iG (by omega) (by omega) (by decide) (by decide) (by rw [l16 n h0 c2];omega)
  · exact iG (by omega) (by omega) (by decide) (by decide) (by rw [l8 n h0 c3];omega)
  · exact iG (by omega) (by omega) (by decide) (by decide) (by omega)
theorem YD:af (base.with Ez) 210 (ag Fg):=am c30 Tryz.func210 (by kernel_rfl) (by kernel_rfl) Tryz.call210 ab4 WE
theorem Tp:(base.with xA).Ok:=ae c30 YD
theorem ut {a:List (List CD)} (h:ce a):∀ n:Nat,0≤bd a n∧bd a n≤64*n
  | 0=>⟨Int.le_refl 0,by show (0:Int)≤_;omega⟩
  | n+1=>by
    have ih:=ut h n
    have:=A9 (h n)
    rw [bd]
    split <;>omega
theorem WG:Ud:=by
  rintro a _ ⟨ha,hw⟩ _
  refine ⟨⟨by omega,by omega⟩,⟨⟨rfl,by omega,by omega,by rw [show ((a.length:Int)-1+1).toNat=a.length from by omega]⟩,trivial⟩,?_⟩
  rintro a' n _ ⟨rfl,h0,h1,h2⟩
  refine ab (fun h=> ?_) fun h=> ?_
  · have h:=of_decide_eq_true h
    obtain ⟨i,rfl⟩:=Int.eq_ofNat_of_zero_le h
    rw [Int.toNat_natCast]
    have e1:((i:Int)+1).toNat=i+1:=by omega
    rw [e1,bd] at h2
    have hb:=A9 (hw i)
    refine ⟨⟨h,h1⟩,by omega,ab (fun h3=> ?_) fun h3=>⟨⟨by omega,by omega⟩,⟨rfl,by omega,by omega,?_⟩,by omega⟩⟩
    · have h3:rv a' i≠0:=of_decide_eq_true h3
      rw [if_neg h3] at h2
      have hb':0≤bW ((a'.getD i []).getD 0 (CD.int 0)).toInt∧bW ((a'.getD i []).getD 0 (CD.int 0)).toInt≤64:=hb
      exact ⟨⟨by omega,by omega⟩,⟨h,h1⟩,by omega,hw i,⟨by omega,by omega⟩,h2.symm⟩
    · have h3:rv a' i=0:=Decidable.not_not.1 (of_decide_eq_false h3)
      rw [h2,if_pos h3,show ((i:Int)-1+1).toNat=i from by omega]
  · have h:=of_decide_eq_false h
    rw [h2,show (n+1).toNat=0 from by omega]
    rfl
theorem Zy:af (base.with xA) 186 (ag E6):=am Tp Tryz.func186 (by kernel_rfl) (by kernel_rfl) Tryz.call186 acr WG
theorem Uc:(base.with yl).Ok:=ae Tp Zy
theorem po {l:List Int} (h:aq l) (hl:l.length≤1000):aG (l.map ac):=⟨by rw [List.length_map];exact hl,fun i=>by rw [cA];exact h i⟩
theorem Dk {m a:List (List CD)} (ha:aG a) (hm:aG m) (c:Int):aG (jf m a c):=by
  unfold jf
  split
  · exact ha
  · exact po (GZ _ _ _) (by rw [ni];have:=ha.1;have:=hm.1;unfold bZ;omega)
theorem Ad {m a:List (List CD)} (h:a.length=m.length) (c:Int):(jf m a c).length=m.length:=by
  unfold jf
  split
  · exact h
  · rw [List.length_map,ni];unfold bZ;omega
theorem zJ {m a:List (List CD)} (ha:aG a) (hm:aG m) (c:Int):aG (rc m a c):=Dk (po (yR _ _ _) (by rw [kY];exact ha.1)) hm _
theorem u6 {m a:List (List CD)} (h:a.length=m.length) (c:Int):(rc m a c).length=m.length:=Ad (by rw [List.length_map,kY];exact h) _
theorem Ui {n:Nat} (h:n≤1000):aG (List.replicate n [CD.int 0]):=by
  rw [show List.replicate n [CD.int 0] =(List.replicate n 0).map ac from by rw [List.map_replicate];rfl]
  exact po (Bz n) (by rw [List.length_replicate];exact h)
theorem zM {m a:List (List CD)} (hm:aG m) (k:Nat):∀ i,aG (j9 m a k i)
  | 0=>Ui hm.1
  | i+1=>zJ (zM hm k i) hm _
theorem CC (m a:List (List CD)) (k:Nat):∀ i,(j9 m a k i).length=m.length
  | 0=>List.length_replicate
  | i+1=>u6 (CC m a k i) _
theorem uO (m:List (List CD)):∀ i,(kB m i).length=m.length
  | 0=>by rw [kB,List.length_set,List.length_replicate]
  | i+1=>u6 (uO m i) _
theorem NK {n:Nat} (h:0<n):(List.replicate n [CD.int 0]).set 0 [CD.int 1] =((List.replicate n 0).set 0 1).map ac:=by
  rw [List.map_set,List.map_replicate]
  rfl
theorem tB {m:List (List CD)} (hm:aG m) (h0:0<m.length):∀ i,aG (kB m i)
  | 0=>by
    rw [kB,NK h0]
    exact po (dV (Bz _) (by exact ⟨by decide,by decide⟩) 0) (by rw [List.length_set,List.length_replicate];exact hm.1)
  | i+1=>zJ (tB hm h0 i) hm _
theorem Vq:RN:=by
  rintro l _ ⟨h2,h16,hw,hodd,htop⟩ _ _
  have c1:decide ((l.length:Int)<1)=false:=decide_eq_false (by omega)
  have c2:decide ((16:Int)<(l.length:Int))=false:=decide_eq_false (by omega)
  have c3:decide (bU .u64 ((l.getD 0 []).getD 0 (CD.int 0)).toInt 1=0)=false:=decide_eq_false hodd
  have e4:((l.length:Int)-1).toNat=l.length-1:=by omega
  have c4:decide (((l.getD ((l.length:Int)-1).toNat []).getD 0 (CD.int 0)).toInt=0)=false:=by rw [e4];exact decide_eq_false htop
  have c9:decide ((l.length:Int)=1)=false:=decide_eq_false (by omega)
  have hl:aG l:=⟨by omega,hw⟩
  refine ⟨fun _=>⟨by omega,by omega⟩,fun _=>by omega,fun _=>⟨fun _=>⟨by omega,by omega⟩,fun _=>⟨by omega,by omega⟩,fun _=>by omega,fun _=>⟨fun _=>⟨by omega,by omega⟩,fun _=>by omega,ab (fun h=> ?_) fun _=>⟨by omega,⟨⟨rfl,rfl,by omega,by omega,rfl⟩,trivial⟩,?_⟩⟩⟩⟩
  · rw [c1,c2,c3,c4,c9] at h
    cases h
  · rintro l1 x n l2 v q _ _ _ ⟨e1,e2,h0,h1,rfl⟩
    subst e1 e2
    obtain ⟨i,rfl⟩:=Int.eq_ofNat_of_zero_le h0
    rw [Int.toNat_natCast]
    refine ab (fun h=> ?_) fun h _=> ?_
    · have h:=of_decide_eq_true h
      refine ⟨⟨by omega,by omega⟩,by omega,⟨by omega,by omega⟩,⟨rfl,rfl,by omega,by omega,?_⟩,by omega⟩
      rw [show ((i:Int)+1).toNat=i+1 from by omega]
      rfl
    · have h:=of_decide_eq_false h
      have hi:i=6:=by omega
      subst hi
      rw [Int.toNat_natCast]
      have hs:(List.replicate l2.length [CD.int 0]).set 0 (((List.replicate l2.length [CD.int 0]).getD 0 []).set 0 (CD.int 1))=kB l2 0:=by
        rw [kB]
        congr 1
        rw [List.getD_eq_getElem?_getD,List.getElem?_replicate,if_pos (by omega)]
        rfl
      refine ⟨⟨by omega,by omega,by omega,by omega⟩,⟨by omega,by rw [List.length_replicate];omega⟩,by rw [List.length_replicate];omega,fun _=>⟨⟨by omega,by omega⟩,⟨⟨rfl,by omega,by omega,rfl,rfl,hs⟩,trivial⟩,?_⟩⟩
      rintro n k l4 v4 l5 _ _ ⟨rfl,h0,h1,rfl,rfl,rfl⟩
      obtain ⟨j,rfl⟩:=Int.eq_ofNat_of_zero_le h0
      rw [Int.toNat_natCast]
      refine ab (fun h=> ?_) fun h=> ?_
      · have h:=of_decide_eq_true h
        refine ⟨⟨tB hl (by omega) _,hl⟩,⟨by omega,by omega⟩,⟨rfl,by omega,by omega,rfl,rfl,?_⟩,by omega⟩
        rw [show ((j:Int)+1).toNat=j+1 from by omega]
        rfl
      · have h:=of_decide_eq_false h
        refine ⟨rfl,rfl,rfl,?_⟩
        rw [c7,aR,show j=128*l4.length from by omega]
theorem WI:af (base.with yl) 143 (ag DY):=am Uc Tryz.func143 (by kernel_rfl) (by kernel_rfl) Tryz.call143 acz Vq
theorem OV:(base.with xn).Ok:=ae Uc WI
theorem Zv:Pw:=by
  rintro a m v q _ _ _ ⟨ha,hm⟩ _
  have hm1:=hm.1
  have ha1:=ha.1
  have hb:=ut ha.2 a.length
  have hz:List.replicate ((m.length:Int)).toNat [CD.int 0] =j9 m a (bd a a.length).toNat ((bd a a.length).toNat-(bd a a.length-1+1).toNat):=by
    rw [Int.toNat_natCast,show (bd a a.length).toNat-(bd a a.length-1+1).toNat=0 from by omega]
    rfl
  refine ⟨⟨by omega,by omega,by omega,by omega⟩,ha,⟨by omega,by omega⟩,⟨⟨rfl,rfl,rfl,rfl,by omega,by omega,hz⟩,trivial⟩,?_⟩
  rintro a' o n m' v' q' _ _ _ _ ⟨e1,e2,e3,e4,h0,h1,rfl⟩
  subst e1 e2 e3 e4
  refine ab (fun h=> ?_) fun h=> ?_
  · have h:=of_decide_eq_true h
    obtain ⟨j,rfl⟩:=Int.eq_ofNat_of_zero_le h
    refine ⟨⟨h,by decide,by show (j:Int)≤9223372036854775807;omega⟩,⟨by omega,by omega⟩,by omega,⟨h,by decide⟩,by omega,⟨zM hm _ _,hm⟩,⟨by omega,by omega⟩,⟨rfl,rfl,rfl,rfl,by omega,by omega,?_⟩,by omega⟩
    rw [show ((j:Int)+1).toNat=j+1 from by omega,show ((j:Int)-1+1).toNat=j from by omega]
    generalize hK:(bd a' a'.length).toNat=K
    have hj:j<K:=by omega
    rw [show K-j=(K-(j+1))+1 from by omega,j9,show K-1-(K-(j+1))=j from by omega]
    rw [show ((j:Int) / 64).toNat=j / 64 from by omega,show ((j%64:Nat):Int)=(j:Int)%64 from by omega]
    rfl
  · have h:=of_decide_eq_false h
    refine ⟨?_,rfl,rfl,rfl⟩
    rw [cw,aR,show (n+1).toNat=0 from by omega,Nat.sub_zero]
theorem Xj:af (base.with xn) 144 (ag sV):=am OV Tryz.func144 (by kernel_rfl) (by kernel_rfl) Tryz.call144 adP Zv
theorem RE:(base.with w9).Ok:=ae OV Xj
end Go.Proofs.YteiecapbaeajdaaGreatDoor
namespace Go.Proofs.YteiecapbaeajdaaGreatDoor
open Go Go.Avc
set_option linter.unusedVariables false
abbrev u32:Pat:= .int .u32
abbrev i32:Pat:= .int .i32
abbrev wJ:BPat:= .cells 318 [u32,i32,u32,.arrI 780 .u64,.arrI 36 .u64]
abbrev M0:Pat:= .iface 259 (.agg [.ptr 0 0])
abbrev qSe:BPat:= .cells 300 [M0,.own 2,i64,i64,i64]
abbrev qSo:BPat:= .cells 300 [.iface 259 (.agg [.ptr 1 0]),.own 2,i64,i64,i64]
noncomputable def d9 (l:List (List CD)):List Int:=hid (ck ((((cw pR ((aL l l.length).map ac)).drop 0).take 4).map fun r=>(r.getD 0 .d0).toInt))
def lL (l:List (List CD)):List (List CD):=jx (List.replicate 3 [.int 0,.int 0,.int 0,.int 0]) 2 1 l
noncomputable def hU:List Int:=hid (List.replicate 780 0)
noncomputable def kx:List Int:=hid (List.replicate 36 0)
def mJ (l:List Int):Prop:=ax (l.map ac)
noncomputable def LL:Ct:= {ps:= [rb],bs:= [],pre:=fun | [.r l] =>ax l∧l.length≤400 | _=>False,res:=fun | [.r l] => .ret w4 [] [.li (d9 l)] | _=>aj}
noncomputable def JU:Ct:= {ps:= [rz],bs:= [],pre:=fun | [.li t] =>mJ t | _=>False,res:=fun | [.li t] => .ret w4 [] [.li (d9 (t.map ac))] | _=>aj}
noncomputable def GS:Ct:= {ps:= [],bs:= [],pre:=fun _=>True,res:=fun _=> .ret (.ptr 0 0) [wJ] [.i 0,.i 0,.i 0,.li hU,.li kx]}
noncomputable def JT:Ct:= {ps:= [],bs:= [],pre:=fun _=>True,res:=fun _=> .ret M0 [wJ] [.i 0,.i 0,.i 0,.li hU,.li kx]}
def FU:Ct:= {ps:= [.agg [.skip]],bs:= [],pre:=fun _=>True,res:=fun _=> .ret i64 [] [.i 2]}
def DO:Ct:= {ps:= [.agg [.skip]],bs:= [],pre:=fun _=>True,res:=fun _=> .ret i64 [] [.i 3]}
def EU:Ct:= {ps:= [M0,.rd CO],bs:= [wJ],pre:=fun | [.r l,.i _,.i _,.i _,.li _,.li _] =>l.length≤1 | _=>False,res:=fun
  | [.r l,.i a,.i b,.i c,.li u,.li v] => .ret (.tup [.ptr 1 0,i64]) [wJ,qSe,oe] [.i 0,.i a,.i b,.i c,.li u,.li v,.i 0,.i 2,.i 0,.r (lL l)]
  | _=>aj}
def Lw:Ct:= {ps:= [M0,.rd CO],bs:= [wJ],pre:=fun | [.r l,.i _,.i _,.i _,.li _,.li _] =>l.length≤1 | _=>False,res:=fun
  | [.r l,.i a,.i b,.i c,.li u,.li v] => .ret (.ptr 1 0) [wJ,qSe,oe] [.i a,.i b,.i c,.li u,.li v,.i 0,.i 2,.i 0,.r (lL l)]
  | _=>aj}
noncomputable def Lq:Ct:= {ps:= [rz],bs:= [],pre:=fun | [.li t] =>mJ t | _=>False,res:=fun
  | [.li t] => .ret (.ptr 0 0) [qSo,wJ,oe] [.i 0,.i 2,.i 0,.i 0,.i 0,.i 0,.li hU,.li kx,.r (lL [bn (d9 (t.map ac))])]
  | _=>aj}
end Go.Proofs.YteiecapbaeajdaaGreatDoor
namespace Go.Proofs.YteiecapbaeajdaaGreatDoor
open Go Go.Avc Go.Proofs
set_option linter.unusedVariables false
set_option maxRecDepth 100000
def P98:Prop:= ∀ (l:List (List CD)),
 l.length≤9223372036854775807→
 ax l∧l.length≤400→
 True∧
 ((0:Int)≤0∧0≤(↑(4:Nat):Int)∧(↑(4:Nat):Int)≤(↑(4:Nat):Int)∧0 < (↑(4:Nat):Int))∧
 pJ
 [[.int 4891460686036598785],[.int 2896914383306846353],[.int 13281191951274694749],
 [.int 3486998266802970665]] ∧
 (l.length≤1000∧ax l)∧
 (aG (List.map ac (aL l l.length))∧
 aG
 [[.int 4891460686036598785],[.int 2896914383306846353],[.int 13281191951274694749],
 [.int 3486998266802970665]])∧
 (4:Nat)≤
 (cw
 [[.int 4891460686036598785],[.int 2896914383306846353],[.int 13281191951274694749],
 [.int 3486998266802970665]]
 (List.map ac (aL l l.length))).length∧
 (4:Nat)≤
 (cw
 [[.int 4891460686036598785],[.int 2896914383306846353],[.int 13281191951274694749],
 [.int 3486998266802970665]]
 (List.map ac (aL l l.length))).length∧
 aq
 (List.map (fun r=>(r.getD 0 (.int 0)).toInt)
 (List.take 4
 (List.drop 0
 (cw
 [[.int 4891460686036598785],[.int 2896914383306846353],[.int 13281191951274694749],
 [.int 3486998266802970665]]
 (List.map ac (aL l l.length))))))∧
 ck
 (List.map (fun r=>(r.getD 0 (.int 0)).toInt)
 (List.take 4
 (List.drop 0
 (cw
 [[.int 4891460686036598785],[.int 2896914383306846353],[.int 13281191951274694749],
 [.int 3486998266802970665]]
 (List.map ac (aL l l.length))))))=
 d9 l
theorem e98:av w9 Tryz.f98 LL au=P98:=by kernel_rfl
noncomputable def Hx:ai:=al w9 98 (ag LL)
def P86:Prop:= ∀ (l:List Int),
 l.length=(32:Nat)→
 mJ l→
 ((0:Int)≤(0:Int)∧(0:Int)≤(↑(32:Nat):Int)∧(↑(32:Nat):Int)≤(↑(32:Nat):Int)∧(0:Int) < (↑(32:Nat):Int))∧
 (ax (List.map (fun x=> [CD.int x]) (List.take 32 (List.drop 0 l)))∧
 (List.map (fun x=> [CD.int x]) (List.take 32 (List.drop 0 l))).length≤(400:Nat))∧
 d9 (List.map (fun x=> [CD.int x]) (List.take 32 (List.drop 0 l)))=
 d9 (List.map ac l)
theorem e86:av Hx Tryz.f86 JU au=P86:=by kernel_rfl
noncomputable def Ht:ai:=al Hx 86 (ag JU)
def QF:Prop:= True→
 (0:Int)=0∧
 (0:Int)=0∧
 (0:Int)=0∧
 (List.replicate 780 0)=
 hU∧
 (List.replicate 36 0)=
 kx
theorem acx:av Ht Tryz.f132 GS au=QF:=by kernel_rfl
noncomputable def x7:ai:=al Ht 132 (ag GS)
def P85:Prop:= True→
 True∧
 (0:Int)=0∧
 (0:Int)=0∧
 (0:Int)=0∧
 hU=hU∧kx=kx
theorem e85:av x7 Tryz.f85 JT au=P85:=by kernel_rfl
noncomputable def EK:ai:=al x7 85 (ag JT)
def Pd:Prop:= True→(2:Int)=2
theorem adm:av EK Tryz.f345 FU au=Pd:=by kernel_rfl
noncomputable def zg:ai:=al EK 345 (ag FU)
def TO:Prop:= True→(3:Int)=3
theorem abU:av zg Tryz.f346 DO au=TO:=by kernel_rfl
noncomputable def yj:ai:=al zg 346 (ag DO)
def PB:Prop:= ∀ (l:List (List CD)) (n n_1 n_2:Int) (l_1 l_2:List Int),
 l.length≤9223372036854775807→
 l_1.length=780→
 l_2.length=36→
 l.length≤1→
 l.length≤9223372036854775807→
 True∧
 True∧
 ((-9223372036854775808:Int)≤3 - 2∧(3:Int) - 2≤9223372036854775807)∧
 bif decide ((3:Int) - 2 < ↑l.length) then
 Miss 2
 {n:=0,ov:= [],tm:= [SV.tup [SV.nilp,SV.int IntKind.i64 1]],hp:= [Blk.cells (318:TypeId) [SV.int IntKind.u32 n,SV.int IntKind.i32 n_1,SV.int IntKind.u32 n_2,SV.arrI 780 IntKind.u64 l_1,SV.arrI 36 IntKind.u64 l_2]],G:= []}
 else
 True∧
 ((0:Int)≤3∧(3:Int)≤3∧(↑(32:Nat):Int)*3≤140737488355328∧(3:Int)≤9223372036854775807)∧
 True∧
 True∧
 ((0:Int)≤2∧2≤(↑(3:Nat):Int)∧(↑(3:Nat):Int)≤(↑(3:Nat):Int)∧2 < (↑(3:Nat):Int))∧
 (0:Int)=0∧
 n=n∧
 n_1=n_1∧
 n_2=n_2∧
 l_1=l_1∧
 l_2=l_2∧
 (0:Int)=0∧
 (2:Int)=2∧
 (0:Int)=0∧
 jx
 [[CD.int ([(0:Int),0,0,0].getD 0 0),
 CD.int ([(0:Int),0,0,0].getD 1 0),
 CD.int ([(0:Int),0,0,0].getD 2 0),
 CD.int ([(0:Int),0,0,0].getD 3 0)],
 [CD.int ([(0:Int),0,0,0].getD 0 0),
 CD.int ([(0:Int),0,0,0].getD 1 0),
 CD.int ([(0:Int),0,0,0].getD 2 0),
 CD.int ([(0:Int),0,0,0].getD 3 0)],
 [CD.int ([(0:Int),0,0,0].getD 0 0),
 CD.int ([(0:Int),0,0,0].getD 1 0),
 CD.int ([(0:Int),0,0,0].getD 2 0),
 CD.int ([(0:Int),0,0,0].getD 3 0)]]
 2 1 l=
 lL l
theorem acg:av yj Tryz.f131 EU au=PB:=by kernel_rfl
noncomputable def xR:ai:=al yj 131 (ag EU)
def P84:Prop:= ∀ (l:List (List CD)) (n n_1 n_2:Int) (l_1 l_2:List Int),
 l.length≤9223372036854775807→
 l_1.length=780→
 l_2.length=36→
 l.length≤1→
 l.length≤1∧
 n=n∧
 n_1=n_1∧
 n_2=n_2∧
 l_1=l_1∧
 l_2=l_2∧
 (0:Int)=0∧(2:Int)=2∧(0:Int)=0∧lL l=lL l
theorem e84:av xR Tryz.f84 Lw au=P84:=by kernel_rfl
noncomputable def Hv:ai:=al xR 84 (ag Lw)
def P46:Prop:= ∀ (l:List Int),
 l.length=32→
 mJ l→
 True∧
 mJ l∧
 (1:Nat)≤1∧
 (0:Int)=0∧
 (2:Int)=2∧
 (0:Int)=0∧
 (0:Int)=0∧
 (0:Int)=0∧
 (0:Int)=0∧
 hU=hU∧
 kx=kx∧
 lL
 [[CD.int ((d9 (List.map ac l)).getD 0 0),
 CD.int ((d9 (List.map ac l)).getD 1 0),
 CD.int ((d9 (List.map ac l)).getD 2 0),
 CD.int ((d9 (List.map ac l)).getD 3 0)]] =
 lL
 [bn (d9 (List.map ac l))]
theorem e46:av Hv Tryz.f46 Lq au=P46:=by kernel_rfl
noncomputable def Gy:ai:=al Hv 46 (ag Lq)
end Go.Proofs.YteiecapbaeajdaaGreatDoor
namespace Go.Proofs.YteiecapbaeajdaaGreatDoor
open Go Go.Avc Go.Proofs
set_option linter.unusedVariables false
set_option linter.unusedSimpArgs false
set_option maxRecDepth 100000
theorem LX:pJ pR:=by
  refine ⟨by decide,by decide,fun i=> ?_,by decide,by decide⟩
  unfold pR
  rw [cA]
  exact jj i
theorem G0:aG pR:=⟨by decide,LX.2.2.1⟩
theorem qc {l:List (List CD)} (h:l.length≤400) (hb:ax l):aG ((aL l l.length).map ac):=po (uS l _) (by rw [d8];omega)
theorem N8 {m a:List (List CD)} (hm:aG m):aG (cw m a):=by rw [cw,aR];exact zM hm _ _
theorem K0 (m a:List (List CD)):(cw m a).length=m.length:=by rw [cw,aR];exact CC m a _ _
theorem Jo {l:List (List CD)} (h:ce l) (n:Nat):aq ((l.take n).map fun r=>(r.getD 0 (CD.int 0)).toInt):=fun j=>by
  rw [List.getD_eq_getElem?_getD,List.getElem?_map,List.getElem?_take]
  split
  · cases hj:l[j]? with
    | none=>exact bg
    | some r=>
      have e:l.getD j [] =r:=by rw [List.getD_eq_getElem?_getD,hj];rfl
      have:=h j
      unfold rv at this
      rw [e] at this
      exact this
  · exact bg
theorem acl:P98:=by
  rintro l _ ⟨hb,hl⟩
  have hlen:(4:Nat)≤(cw pR ((aL l l.length).map ac)).length:=by rw [K0];decide
  refine ⟨trivial,⟨by decide,by decide,by decide,by decide⟩,LX,⟨by omega,hb⟩,⟨qc hl hb,G0⟩,hlen,hlen,?_,?_⟩
  · rw [List.drop_zero]
    exact Jo (N8 G0).2 4
  · rw [d9,aR]
    rfl
theorem acT:af (base.with w9) 98 (ag LL):=am RE Tryz.func98 (by kernel_rfl) (by kernel_rfl) Tryz.call98 e98 acl
theorem c98:(base.with Hx).Ok:=ae RE acT
theorem adR:P86:=by
  intro t ht hy
  have e:((t.drop 0).take 32).map (fun x=> [CD.int x])=t.map ac:=by
    rw [List.drop_zero,List.take_of_length_le (by omega)]
    rfl
  rw [e]
  exact ⟨⟨by decide,by decide,by decide,by decide⟩,⟨hy,by rw [List.length_map];omega⟩,rfl⟩
theorem acS:af (base.with Hx) 86 (ag JU):=am c98 Tryz.func86 (by kernel_rfl) (by kernel_rfl) Tryz.call86 e86 adR
theorem c86:(base.with Ht).Ok:=ae c98 acS
theorem YA:QF:=fun _=>⟨rfl,rfl,rfl,(by rw [hU,aR]),(by rw [kx,aR])⟩
theorem Wz:af (base.with Ht) 132 (ag GS):=am c86 Tryz.func132 (by kernel_rfl) (by kernel_rfl) Tryz.call132 acx YA
theorem RQ:(base.with x7).Ok:=ae c86 Wz
theorem acI:P85:=fun _=>⟨trivial,rfl,rfl,rfl,rfl,rfl⟩
theorem adX:af (base.with x7) 85 (ag JT):=am RQ Tryz.func85 (by kernel_rfl) (by kernel_rfl) Tryz.call85 e85 acI
theorem c85:(base.with EK).Ok:=ae RQ adX
theorem Y7:Pd:=fun _=>rfl
theorem Xq:af (base.with EK) 345 (ag FU):=am c85 Tryz.func345 (by kernel_rfl) (by kernel_rfl) Tryz.call345 adm Y7
theorem PW:(base.with zg).Ok:=ae c85 Xq
theorem Ws:TO:=fun _=>rfl
theorem XS:af (base.with zg) 346 (ag DO):=am PW Tryz.func346 (by kernel_rfl) (by kernel_rfl) Tryz.call346 abU Ws
theorem OQ:(base.with yj).Ok:=ae PW XS
theorem Wa:PB:=by
  rintro l a b c u v _ _ _ h _
  refine ⟨trivial,trivial,⟨by decide,by decide⟩,ab (fun k=> ?_) fun _=>⟨trivial,⟨by decide,by decide,by decide,by decide⟩,trivial,trivial,⟨by decide,by decide,by decide,by decide⟩,rfl,rfl,rfl,rfl,rfl,rfl,rfl,rfl,rfl,rfl⟩⟩
  have:=of_decide_eq_true k
  omega
theorem VS:af (base.with yj) 131 (ag EU):=am OQ Tryz.func131 (by kernel_rfl) (by kernel_rfl) Tryz.call131 acg Wa
theorem Ry:(base.with xR).Ok:=ae OQ VS
theorem aeQ:P84:=fun l a b c u v _ _ _ h=>⟨h,rfl,rfl,rfl,rfl,rfl,rfl,rfl,rfl,rfl⟩
theorem aed:af (base.with xR) 84 (ag Lw):=am Ry Tryz.func84 (by kernel_rfl) (by kernel_rfl) Tryz.call84 e84 aeQ
theorem c84:(base.with Hv).Ok:=ae Ry aed
theorem acP:P46:=fun t _ h=>⟨trivial,h,Nat.le_refl 1,rfl,rfl,rfl,rfl,rfl,rfl,rfl,rfl,rfl⟩
theorem abQ:af (base.with Hv) 46 (ag Lq):=am c84 Tryz.func46 (by kernel_rfl) (by kernel_rfl) Tryz.call46 e46 acP
theorem c46:(base.with Gy).Ok:=ae c84 abQ
end Go.Proofs.YteiecapbaeajdaaGreatDoor
namespace Go.Proofs.YteiecapbaeajdaaGreatDoor
open Go Go.Avc
set_option linter.unusedVariables false
def jy (l:List (List CD)):List (List CD):=aF (aB (aa l)).1
noncomputable def mB (k:Int) (l:List (List CD)):List Int:=cN k (jy l)
abbrev LS:BPat:= .cells 128 [.ptr 1 0,.arrI 32 .u8,.iface 133 (.agg [.ptr 2 0])]
abbrev qTe:BPat:= .cells 128 [.ptr 1 0,.arrI 32 .u8,.iface 137 (.agg [.ptr 2 0])]
abbrev MK:BPat:= .cells 298 [uN,.own 3,i64,i64,i64]
abbrev qSf:BPat:= .cells 300 [.iface 259 (.agg [.ptr 3 0]),.own 4,i64,i64,i64]
noncomputable def KG:Ct:= {ps:= [i64,rb],bs:= [],pre:=fun | [.i k,.r l] =>dY l | _=>False,res:=fun
  | [.i k,.r l] => .ite (decide (k≠1)&&decide (k≠2)) (.ret (.tup [.nilp,i64,i64]) [] [.i (-1),.i 15])
      (.ite (decide ((aB (aa l)).2.2=0))
        (.ite (decide (k=2)) (.ret (.tup [.ptr 0 0,i64,i64]) [qTe,gA,qSf,wJ,oe] [.i (-1),.i 0,.li (mB k l),.r (jy l),.i 0,.i 0,.i 2,.i 0,.i 0,.i 0,.i 0,.li hU,.li kx,.r (lL [bn (d9 ((mB k l).map ac))])])
          (.ret (.tup [.ptr 0 0,i64,i64]) [LS,gA,MK,ob] [.i (-1),.i 0,.li (mB k l),.r (jy l),.i 0,.i 0,.i 136,.i 0,.r (iB ((mB k l).map ac))]))
        (.ret (.tup [.nilp,i64,i64]) [] [.i (aB (aa l)).2.1,.i (aB (aa l)).2.2]))
  | _=>aj}
end Go.Proofs.YteiecapbaeajdaaGreatDoor
namespace Go.Proofs.YteiecapbaeajdaaGreatDoor
open Go Go.Avc Go.Proofs
set_option linter.unusedVariables false
set_option maxRecDepth 100000
def P21:Prop:= ∀ (n:Int) (l:List (List CD)),
 l.length≤9223372036854775807→
 dY l→
 bif decide (n≠1) && decide (n≠2) then
 bif decide (n≠1) && decide (n≠2) then (-1:Int)=(-1:Int)∧(15:Int)=15
 else
 bif decide ((aB (aa l)).snd.snd=0) then
 bif decide (n=2) then
 Miss (2:Nat)
 {n:=0,ov:= [],tm:= [SV.tup [SV.nilp,SV.int IntKind.i64 (-1:Int),SV.int IntKind.i64 (15:Int)]],hp:= [],G:= []}
 else
 Miss (2:Nat)
 {n:=0,ov:= [],tm:= [SV.tup [SV.nilp,SV.int IntKind.i64 (-1:Int),SV.int IntKind.i64 (15:Int)]],hp:= [],G:= []}
 else
 (-1:Int)=(aB (aa l)).snd.fst∧
 15=(aB (aa l)).snd.snd
 else
 dY l∧
 bif decide ((aB (aa l)).snd.snd=0) then
 (aF (aB (aa l)).fst).length≤1000000∧
 ((n=1∨n=2)∧
 qk (aF (aB (aa l)).fst))∧
 True∧
 bif decide (n=2) then
 mJ
 (cN n
 (aF (aB (aa l)).fst))∧
 bif decide (n≠1) && decide (n≠2) then
 Miss (2:Nat)
 {n:=0,ov:= [],tm:= [SV.tup [SV.ptr (1:Nat) (0:Nat),SV.int IntKind.i64 (-1:Int),SV.int IntKind.i64 (0:Int)]],hp:= [Blk.cells (185:TypeId) [SV.rd [CSh.int IntKind.i64,CSh.int IntKind.i64,CSh.int IntKind.i64,CSh.str] (aF (aB (aa l)).fst),SV.int IntKind.i64 (0:Int),SV.nilp],Blk.cells (128:Nat) [SV.ptr (0:Nat) (0:Nat),SV.arrI (32:Nat) IntKind.u8 (cN n (aF (aB (aa l)).fst)),SV.iface (137:Nat) (SV.agg [SV.ptr (5:Nat) (0:Nat)])],Blk.own (116:TypeId) [CSh.int IntKind.i64,CSh.int IntKind.i64,CSh.int IntKind.i64,CSh.str] (aF (aB (aa l)).fst),Blk.cells (298:TypeId) [SV.iface (253:TypeId) (SV.agg []),SV.own (4:Nat),SV.int IntKind.i64 (0:Int),SV.int IntKind.i64 (136:Int),SV.int IntKind.i64 (0:Int)],Blk.own (5:TypeId) [CSh.int IntKind.u8] (iB (List.map ac (cN n (aF (aB (aa l)).fst)))),Blk.cells (300:TypeId) [SV.iface (259:TypeId) (SV.agg [SV.ptr (6:Nat) (0:Nat)]),SV.own (7:Nat),SV.int IntKind.i64 (0:Int),SV.int IntKind.i64 (2:Int),SV.int IntKind.i64 (0:Int)],Blk.cells (318:TypeId) [SV.int IntKind.u32 (0:Int),SV.int IntKind.i32 (0:Int),SV.int IntKind.u32 (0:Int),SV.arrI (780:Nat) IntKind.u64 hU,SV.arrI (36:Nat) IntKind.u64 kx],Blk.own (76:TypeId) [CSh.int IntKind.u64,CSh.int IntKind.u64,CSh.int IntKind.u64,CSh.int IntKind.u64] (lL [bn (d9 (List.map ac (cN n (aF (aB (aa l)).fst))))])],G:= []}
 else
 bif decide ((aB (aa l)).snd.snd=0) then
 bif decide (n=2) then
 (-1:Int)=(-1:Int)∧
 (0:Int)=0∧
 cN n
 (aF (aB (aa l)).fst)=
 mB n l∧
 aF (aB (aa l)).fst=
 jy l∧
 (0:Int)=0∧
 (0:Int)=0∧
 (2:Int)=2∧
 (0:Int)=0∧
 (0:Int)=0∧
 (0:Int)=0∧
 (0:Int)=0∧
 hU=hU∧
 kx=kx∧
 lL
 [bn
 (d9
 (List.map ac
 (cN n
 (aF
 (aB (aa l)).fst))))] =
 lL
 [bn
 (d9
 (List.map ac (mB n l)))]
 else
 Miss (2:Nat)
 {n:=0,ov:= [],tm:= [SV.tup [SV.ptr (1:Nat) (0:Nat),SV.int IntKind.i64 (-1:Int),SV.int IntKind.i64 (0:Int)]],hp:= [Blk.cells (185:TypeId) [SV.rd [CSh.int IntKind.i64,CSh.int IntKind.i64,CSh.int IntKind.i64,CSh.str] (aF (aB (aa l)).fst),SV.int IntKind.i64 (0:Int),SV.nilp],Blk.cells (128:Nat) [SV.ptr (0:Nat) (0:Nat),SV.arrI (32:Nat) IntKind.u8 (cN n (aF (aB (aa l)).fst)),SV.iface (137:Nat) (SV.agg [SV.ptr (5:Nat) (0:Nat)])],Blk.own (116:TypeId) [CSh.int IntKind.i64,CSh.int IntKind.i64,CSh.int IntKind.i64,CSh.str] (aF (aB (aa l)).fst),Blk.cells (298:TypeId) [SV.iface (253:TypeId) (SV.agg []),SV.own (4:Nat),SV.int IntKind.i64 (0:Int),SV.int IntKind.i64 (136:Int),SV.int IntKind.i64 (0:Int)],Blk.own (5:TypeId) [CSh.int IntKind.u8] (iB (List.map ac (cN n (aF (aB (aa l)).fst)))),Blk.cells (300:TypeId) [SV.iface (259:TypeId) (SV.agg [SV.ptr (6:Nat) (0:Nat)]),SV.own (7:Nat),SV.int IntKind.i64 (0:Int),SV.int IntKind.i64 (2:Int),SV.int IntKind.i64 (0:Int)],Blk.cells (318:TypeId) [SV.int IntKind.u32 (0:Int),SV.int IntKind.i32 (0:Int),SV.int IntKind.u32 (0:Int),SV.arrI (780:Nat) IntKind.u64 hU,SV.arrI (36:Nat) IntKind.u64 kx],Blk.own (76:TypeId) [CSh.int IntKind.u64,CSh.int IntKind.u64,CSh.int IntKind.u64,CSh.int IntKind.u64] (lL [bn (d9 (List.map ac (cN n (aF (aB (aa l)).fst))))])],G:= []}
 else
 Miss (2:Nat)
 {n:=0,ov:= [],tm:= [SV.tup [SV.ptr (1:Nat) (0:Nat),SV.int IntKind.i64 (-1:Int),SV.int IntKind.i64 (0:Int)]],hp:= [Blk.cells (185:TypeId) [SV.rd [CSh.int IntKind.i64,CSh.int IntKind.i64,CSh.int IntKind.i64,CSh.str] (aF (aB (aa l)).fst),SV.int IntKind.i64 (0:Int),SV.nilp],Blk.cells (128:Nat) [SV.ptr (0:Nat) (0:Nat),SV.arrI (32:Nat) IntKind.u8 (cN n (aF (aB (aa l)).fst)),SV.iface (137:Nat) (SV.agg [SV.ptr (5:Nat) (0:Nat)])],Blk.own (116:TypeId) [CSh.int IntKind.i64,CSh.int IntKind.i64,CSh.int IntKind.i64,CSh.str] (aF (aB (aa l)).fst),Blk.cells (298:TypeId) [SV.iface (253:TypeId) (SV.agg []),SV.own (4:Nat),SV.int IntKind.i64 (0:Int),SV.int IntKind.i64 (136:Int),SV.int IntKind.i64 (0:Int)],Blk.own (5:TypeId) [CSh.int IntKind.u8] (iB (List.map ac (cN n (aF (aB (aa l)).fst)))),Blk.cells (300:TypeId) [SV.iface (259:TypeId) (SV.agg [SV.ptr (6:Nat) (0:Nat)]),SV.own (7:Nat),SV.int IntKind.i64 (0:Int),SV.int IntKind.i64 (2:Int),SV.int IntKind.i64 (0:Int)],Blk.cells (318:TypeId) [SV.int IntKind.u32 (0:Int),SV.int IntKind.i32 (0:Int),SV.int IntKind.u32 (0:Int),SV.arrI (780:Nat) IntKind.u64 hU,SV.arrI (36:Nat) IntKind.u64 kx],Blk.own (76:TypeId) [CSh.int IntKind.u64,CSh.int IntKind.u64,CSh.int IntKind.u64,CSh.int IntKind.u64] (lL [bn (d9 (List.map ac (cN n (aF (aB (aa l)).fst))))])],G:= []}
 else
 bif decide (n≠1) && decide (n≠2) then
 Miss (2:Nat)
 {n:=0,ov:= [],tm:= [SV.tup [SV.ptr (1:Nat) (0:Nat),SV.int IntKind.i64 (-1:Int),SV.int IntKind.i64 (0:Int)]],hp:= [Blk.cells (185:TypeId) [SV.rd [CSh.int IntKind.i64,CSh.int IntKind.i64,CSh.int IntKind.i64,CSh.str] (aF (aB (aa l)).fst),SV.int IntKind.i64 (0:Int),SV.nilp],Blk.cells (128:Nat) [SV.ptr (0:Nat) (0:Nat),SV.arrI (32:Nat) IntKind.u8 (cN n (aF (aB (aa l)).fst)),SV.iface (133:Nat) (SV.agg [SV.ptr (3:Nat) (0:Nat)])],Blk.own (116:TypeId) [CSh.int IntKind.i64,CSh.int IntKind.i64,CSh.int IntKind.i64,CSh.str] (aF (aB (aa l)).fst),Blk.cells (298:TypeId) [SV.iface (253:TypeId) (SV.agg []),SV.own (4:Nat),SV.int IntKind.i64 (0:Int),SV.int IntKind.i64 (136:Int),SV.int IntKind.i64 (0:Int)],Blk.own (5:TypeId) [CSh.int IntKind.u8] (iB (List.map ac (cN n (aF (aB (aa l)).fst))))],G:= []}
 else
 bif decide ((aB (aa l)).snd.snd=0) then
 bif decide (n=2) then
 Miss (2:Nat)
 {n:=0,ov:= [],tm:= [SV.tup [SV.ptr (1:Nat) (0:Nat),SV.int IntKind.i64 (-1:Int),SV.int IntKind.i64 (0:Int)]],hp:= [Blk.cells (185:TypeId) [SV.rd [CSh.int IntKind.i64,CSh.int IntKind.i64,CSh.int IntKind.i64,CSh.str] (aF (aB (aa l)).fst),SV.int IntKind.i64 (0:Int),SV.nilp],Blk.cells (128:Nat) [SV.ptr (0:Nat) (0:Nat),SV.arrI (32:Nat) IntKind.u8 (cN n (aF (aB (aa l)).fst)),SV.iface (133:Nat) (SV.agg [SV.ptr (3:Nat) (0:Nat)])],Blk.own (116:TypeId) [CSh.int IntKind.i64,CSh.int IntKind.i64,CSh.int IntKind.i64,CSh.str] (aF (aB (aa l)).fst),Blk.cells (298:TypeId) [SV.iface (253:TypeId) (SV.agg []),SV.own (4:Nat),SV.int IntKind.i64 (0:Int),SV.int IntKind.i64 (136:Int),SV.int IntKind.i64 (0:Int)],Blk.own (5:TypeId) [CSh.int IntKind.u8] (iB (List.map ac (cN n (aF (aB (aa l)).fst))))],G:= []}
 else
 (-1:Int)=(-1:Int)∧
 (0:Int)=0∧
 cN n
 (aF (aB (aa l)).fst)=
 mB n l∧
 aF (aB (aa l)).fst=
 jy l∧
 (0:Int)=0∧
 (0:Int)=0∧
 (136:Int)=136∧
 (0:Int)=0∧
 iB
 (List.map ac
 (cN n
 (aF (aB (aa l)).fst)))=
 iB
 (List.map ac (mB n l))
 else
 Miss (2:Nat)
 {n:=0,ov:= [],tm:= [SV.tup [SV.ptr (1:Nat) (0:Nat),SV.int IntKind.i64 (-1:Int),SV.int IntKind.i64 (0:Int)]],hp:= [Blk.cells (185:TypeId) [SV.rd [CSh.int IntKind.i64,CSh.int IntKind.i64,CSh.int IntKind.i64,CSh.str] (aF (aB (aa l)).fst),SV.int IntKind.i64 (0:Int),SV.nilp],Blk.cells (128:Nat) [SV.ptr (0:Nat) (0:Nat),SV.arrI (32:Nat) IntKind.u8 (cN n (aF (aB (aa l)).fst)),SV.iface (133:Nat) (SV.agg [SV.ptr (3:Nat) (0:Nat)])],Blk.own (116:TypeId) [CSh.int IntKind.i64,CSh.int IntKind.i64,CSh.int IntKind.i64,CSh.str] (aF (aB (aa l)).fst),Blk.cells (298:TypeId) [SV.iface (253:TypeId) (SV.agg []),SV.own (4:Nat),SV.int IntKind.i64 (0:Int),SV.int IntKind.i64 (136:Int),SV.int IntKind.i64 (0:Int)],Blk.own (5:TypeId) [CSh.int IntKind.u8] (iB (List.map ac (cN n (aF (aB (aa l)).fst))))],G:= []}
 else
 bif decide ((aB (aa l)).snd.snd≠0) then
 bif decide (n≠1) && decide (n≠2) then
 (aB (aa l)).snd.fst=(-1:Int)∧
 (aB (aa l)).snd.snd=15
 else
 bif decide ((aB (aa l)).snd.snd=0) then
 bif decide (n=2) then
 Miss (2:Nat)
 {n:=0,ov:= [],tm:= [SV.tup [SV.nilp,SV.int IntKind.i64 (aB (aa l)).snd.fst,SV.int IntKind.i64 (aB (aa l)).snd.snd]],hp:= [],G:= []}
 else
 Miss (2:Nat)
 {n:=0,ov:= [],tm:= [SV.tup [SV.nilp,SV.int IntKind.i64 (aB (aa l)).snd.fst,SV.int IntKind.i64 (aB (aa l)).snd.snd]],hp:= [],G:= []}
 else
 (aB (aa l)).snd.fst=(aB (aa l)).snd.fst∧
 (aB (aa l)).snd.snd=(aB (aa l)).snd.snd
 else False
theorem e21:av Gy Tryz.f21 KG au=P21:=by kernel_rfl
noncomputable def uJ:ai:=al Gy 21 (ag KG)
end Go.Proofs.YteiecapbaeajdaaGreatDoor
namespace Go.Proofs.YteiecapbaeajdaaGreatDoor
open Go Go.Avc Go.Proofs
set_option linter.unusedVariables false
set_option linter.unusedSimpArgs false
set_option maxRecDepth 100000
theorem TP {L:List Int} (h:∀ j,0≤L.getD j 0∧L.getD j 0<256) (n:Nat):mJ (L.take n):=fun j=>by
  rw [cA,List.getD_eq_getElem?_getD,List.getElem?_take]
  split
  · rw [← List.getD_eq_getElem?_getD];exact h j
  · exact ⟨by decide,by decide⟩
theorem V1 (h:Hs):mJ (fin h):=by rw [fin,aR];exact TP (Ao _) 32
theorem Sz (l:List (List CD)):mJ (pp l):=by rw [pp,aR];exact V1 _
theorem PG (k:Int) (l:List (List CD)):mJ (cN k l):=by
  unfold cN
  split
  · exact Sz _
  · intro j
    rw [cA,List.getD_eq_getElem?_getD,List.getElem?_replicate]
    split <;>exact ⟨by decide,by decide⟩
theorem acs:P21:=by
  intro k l _ hp
  have both:∀ {p:Prop} [Decidable p],decide p=true→decide p=false→False:=fun h1 h2=>by rw [h1] at h2;cases h2
  refine ab (fun h=>ab (fun _=>⟨rfl,rfl⟩) fun h'=>by rw [h] at h';cases h') fun h=>⟨hp,ab (fun e=> ?_) fun e=>ab (fun _=>ab (fun h'=>by rw [h] at h';cases h') fun _=>ab (fun e'=>(both e' e).elim) fun _=>⟨rfl,rfl⟩) fun e'=> ?_⟩
  · have hl:=Nq (aa l)
    have hr:(aF (aB (aa l)).1).length≤1024:=by rw [wV];exact hl
    have hk:k=1∨k=2:=by
      simp only [Bool.and_eq_false_iff,decide_eq_false_iff_not] at h
      omega
    refine ⟨by omega,⟨hk,by unfold qk;omega⟩,trivial,ab (fun k2=>⟨PG _ _,ab (fun h'=>by rw [h] at h';cases h') fun _=>ab (fun _=>ab (fun _=> ?_) fun k2'=>(both k2 k2').elim) fun e'=>(both e e').elim⟩) fun k2=>ab (fun h'=>by rw [h] at h';cases h') fun _=>ab (fun _=>ab (fun k2'=>(both k2' k2).elim) fun _=> ?_) fun e'=>(both e e').elim⟩
    · exact ⟨rfl,rfl,rfl,rfl,rfl,rfl,rfl,rfl,rfl,rfl,rfl,rfl,rfl,rfl⟩
    · exact ⟨rfl,rfl,rfl,rfl,rfl,rfl,rfl,rfl,rfl⟩
  · exact absurd (Decidable.not_not.1 (of_decide_eq_false e')) (of_decide_eq_false e)
theorem adL:af (base.with Gy) 21 (ag KG):=am c46 Tryz.func21 (by kernel_rfl) (by kernel_rfl) Tryz.call21 e21 acs
theorem SF:(base.with uJ).Ok:=ae c46 adL
end Go.Proofs.YteiecapbaeajdaaGreatDoor
namespace Go.Proofs.YteiecapbaeajdaaGreatDoor
open Go Go.Avc
set_option linter.unusedVariables false
abbrev gAe:BPat:= .cells 185 [.rd gH,i64,.ptr 4 0]
abbrev oP:List BPat:= [LS,gA,MK,ob]
abbrev wn:List BPat:= [LS,gAe,MK,ob,eB]
noncomputable def c5 (k t n:Int) (d:List (List CD)) (x:Sp):Sp:=ay (ap k t n d) x (ap k t n d).length
noncomputable def bJ (x:Sp):List Int×Int×Int×Sp:=ar (c5 2 3 1 [] x)
def ql (k t n:Int) (d it:List (List CD)) (at':Int) (x:Sp):Prop:=
  cS it at'∧eV 800000000 x∧((k=0∧t=1∧ax d∧d.length≤900∧bq d=0∧ie it at' 1 1 d.length=true)∨(k=2∧n=1∧ie it at' 2 3 1=true∧(bJ x).2.2.1=0)∨(k=4∧at'=it.length))
noncomputable def cP (k:Int) (d:List (List CD)) (at':Int) (x:Sp):Int×Sp:=if k=0 then (at'+1,c5 1 1 d.length d x) else if k=2 then (at'+1,(bJ x).2.2.2) else (at',x)
noncomputable def sF (k:Int) (x:Sp):List (List CD):=if k=2 then (kg (bJ x).1).map ac else []
abbrev uo:List CSh:= [.int .i64,.int .i64,.int .i64,.sl [.int .u8]]
abbrev Sl:List CSh:= [.int .i64,.sl [.int .u8]]
def cC (l:List (List CD)) (i c:Nat):Int:=((l.getD i []).getD c .d0).toInt
def cD (l:List (List CD)) (i:Nat):List (List CD):=((l.getD i []).getD 3 .d0).toSl
noncomputable def iH (l:List (List CD)) (x:Sp):Nat→Int×Sp
  | 0=>(0,x)
  | i+1=>cP (cC l i 0) (cD l i) (iH l x i).1 (iH l x i).2
noncomputable def iU (l:List (List CD)) (x:Sp):Nat→List (List CD)
  | 0=> []
  | i+1=>iU l x i++ [[.int 0,.sl (sF (cC l i 0) (iH l x i).2)]]
noncomputable def dc (p:List (List CD)):Sp:=(0,136,0,iB ((mB 1 p).map ac))
def Fz:Ct:= {ps:= [.ptr 0 0],bs:=oP,pre:=fun _=>True,res:=fun
  | [.li tg,.r it,.i at',.i a,.i b,.i c,.r s] => .ret i64 oP [.i 0,.li tg,.r it,.i at',.i a,.i b,.i c,.r s]
  | _=>aj}
def Gm:Ct:= {ps:= [.ptr 0 0],bs:=wn,pre:=fun _=>True,res:=fun
  | [.li tg,.r it,.i at',.i a,.i b,.i c,.r s,.i w] => .ret i64 wn [.i w,.li tg,.r it,.i at',.i a,.i b,.i c,.r s,.i w]
  | _=>aj}
def G1:Ct:= {ps:= [.ptr 0 0,q7],bs:=oP,pre:=fun | [.i _,.i _,.i _,.r _,.li _,.r it,.i at',.i _,.i _,.i _,.r _] =>cS it at' | _=>False,res:=fun
  | [.i k,.i t,.i n,.r _,.li tg,.r it,.i at',.i a,.i b,.i c,.r s] => .ite (ie it at' k t n) (.ret i64 oP [.i 0,.li tg,.r it,.i (at'+1),.i a,.i b,.i c,.r s]) (.ret i64 wn [.i 10,.li tg,.r it,.i at',.i a,.i b,.i c,.r s,.i 10])
  | _=>aj}
def Ed:Ct:= {ps:= [.ptr 0 0,q7],bs:=wn,pre:=fun | [.i _,.i _,.i _,.r _,.li _,.r it,.i at',.i _,.i _,.i _,.r _,.i w] =>cS it at'∧w≠0 | _=>False,res:=fun
  | [.i k,.i t,.i n,.r _,.li tg,.r it,.i at',.i a,.i b,.i c,.r s,.i w] => .ret i64 wn [.i w,.li tg,.r it,.i at',.i a,.i b,.i c,.r s,.i w]
  | _=>aj}
noncomputable def YM:List Dat→Prop
  | [.i t,.r d,.li _,.r it,.i at',.i a,.i b,.i c,.r s] =>t=1∧ax d∧d.length≤900∧bq d=0∧cS it at'∧ie it at' 1 1 d.length=true∧eV 800000000 (a,b,c,s)
  | _=>False
noncomputable def Jq:Ct:= {ps:= [.ptr 0 0,i64,rb],bs:=oP,pre:=YM,res:=fun
  | [.i t,.r d,.li tg,.r it,.i at',.i a,.i b,.i c,.r s] => .ret i64 oP [.i 0,.li tg,.r it,.i (at'+1),.i (c5 1 1 d.length d (a,b,c,s)).1,.i (c5 1 1 d.length d (a,b,c,s)).2.1,.i (c5 1 1 d.length d (a,b,c,s)).2.2.1,.r (c5 1 1 d.length d (a,b,c,s)).2.2.2]
  | _=>aj}
noncomputable def V9:List Dat→Prop
  | [.i n,.li _,.r it,.i at',.i a,.i b,.i c,.r s] =>n=1∧cS it at'∧ie it at' 2 3 1=true∧eV 800000000 (a,b,c,s)∧(bJ (a,b,c,s)).2.2.1=0
  | _=>False
noncomputable def Kz:Ct:= {ps:= [.ptr 0 0,i64],bs:=oP,pre:=V9,res:=fun
  | [.i n,.li tg,.r it,.i at',.i a,.i b,.i c,.r s] => .ret (.tup [.own 4,i64]) [LS,gA,MK,ob,oe] [.i 0,.li tg,.r it,.i (at'+1),.i (bJ (a,b,c,s)).2.2.2.1,.i (bJ (a,b,c,s)).2.2.2.2.1,.i (bJ (a,b,c,s)).2.2.2.2.2.1,.r (bJ (a,b,c,s)).2.2.2.2.2.2,.r [bn (bJ (a,b,c,s)).1]]
  | _=>aj}
def FO:Ct:= {ps:= [.ptr 0 0],bs:=oP,pre:=fun _=>True,res:=fun
  | [.li tg,.r it,.i at',.i a,.i b,.i c,.r s] => .ite (decide (at'=it.length)) (.ret i64 oP [.i 0,.li tg,.r it,.i at',.i a,.i b,.i c,.r s]) (.ret i64 wn [.i 12,.li tg,.r it,.i at',.i a,.i b,.i c,.r s,.i 12])
  | _=>aj}
def GR:Ct:= {ps:= [.ptr 0 0],bs:=wn,pre:=fun _=>True,res:=fun
  | [.li tg,.r it,.i at',.i a,.i b,.i c,.r s,.i w] => .ret i64 wn [.i w,.li tg,.r it,.i at',.i a,.i b,.i c,.r s,.i w]
  | _=>aj}
noncomputable def We:List Dat→Prop
  | [.i k,.i t,.i n,.r d,.li _,.r it,.i at',.i a,.i b,.i c,.r s] =>ql k t n d it at' (a,b,c,s)
  | _=>False
noncomputable def J9:Ct:= {ps:= [.agg [i64,i64,i64,rb],.ptr 0 0],bs:=oP,pre:=We,res:=fun
  | [.i k,.i t,.i n,.r d,.li tg,.r it,.i at',.i a,.i b,.i c,.r s] => .ret (.agg [i64,rb]) oP [.i 0,.r (sF k (a,b,c,s)),.li tg,.r it,.i (cP k d at' (a,b,c,s)).1,.i (cP k d at' (a,b,c,s)).2.1,.i (cP k d at' (a,b,c,s)).2.2.1,.i (cP k d at' (a,b,c,s)).2.2.2.1,.r (cP k d at' (a,b,c,s)).2.2.2.2]
  | _=>aj}
noncomputable def Zr:List Dat→Ann
  | [.i k,.i t,.i n,.r d,.li tg,.r it,.i at',.i a,.i b,.i c,.r s] => {cut:= [],loop:= [(11,[la 70 [(4,.ptr 4 0),(9,.ptr 5 0),(47,.rd CO),(48,i64),(49,i64)] (oP++ [.cells 86 [i64,.nils],.cells 86 [i64,.own 6],ob]) (fun
      | [.r l',.i m,.i i,.li tg',.r it',.i at2,.i a',.i b',.i c',.r s',.i _,.i e,.r o] =>l'= [bn (bJ (a,b,c,s)).1] ∧m=1∧e=0∧tg'=tg∧it'=it∧at2=at'+1∧(a',b',c',s')=(bJ (a,b,c,s)).2.2.2∧((i=0∧o= [])∨(i=1∧o=(kg (bJ (a,b,c,s)).1).map ac))
      | _=>False) (fun | [_,.i m,.i i,_,_,_,_,_,_,_,_,_,_] =>(m-i).toNat | _=>0)])]}
  | _=> {cut:= [],loop:= []}
noncomputable def bD (l p:List (List CD)):List (List CD):=hid (iU l (dc p) l.length)
noncomputable def oA (k:Int) (p l:List (List CD)):Prop:=k=1∧dY p∧(aB (aa p)).2.2=0∧l.length≤200∧∀ i,i<l.length→ql (cC l i 0) (cC l i 1) (cC l i 2) (cD l i) (jy p) (iH l (dc p) i).1 (iH l (dc p) i).2
noncomputable def Kq:Ct:= {ps:= [.agg [i64,rb,.own 0]],bs:= [.own 84 uo],pre:=fun | [.i k,.r p,.r l] =>oA k p l | _=>False,res:=fun
  | [.i k,.r p,.r l] => .ret (.tup [.own 1,i64,i64]) [.own 84 uo,.own 86 Sl] [.i (-1),.i 0,.r l,.r (bD l p)]
  | _=>aj}
noncomputable def Zb:List Dat→Ann
  | [.i k,.r p,.r l] => {cut:= [],loop:= [(6,[la 39 [(5,.ptr 1 0),(8,.own 5),(25,.own 0),(26,i64),(27,i64)] [.own 84 uo,.cells 128 [.ptr 2 0,.arrI 32 .u8,.iface 133 (.agg [.ptr 3 0])],gA,.cells 298 [uN,.own 4,i64,i64,i64],ob,.own 86 Sl] (fun
      | [.i n,.i i,.r l',.li tg,.r it,.i at',.i a,.i b,.i c,.r s,.r o] =>n=l.length∧0≤i∧i≤n∧l'=l∧it=jy p∧(at',a,b,c,s)=iH l (dc p) i.toNat∧o=iU l (dc p) i.toNat
      | _=>False) (fun | [.i n,.i i,_,_,_,_,_,_,_,_,_] =>(n-i).toNat | _=>0)])]}
  | _=> {cut:= [],loop:= []}
abbrev IZ:BPat:= .cells 90 [rb]
def a9 (l:List (List CD)):Nat→Int
  | 0=>0
  | i+1=>dQ .i64 (a9 l i) (cn .i64 (IntKind.i64.wrap (rv l i)) (8*(i:Int)))
def JS:Ct:= {ps:= [rb],bs:= [],pre:=fun | [.r l] =>l.length≤1000000 | _=>False,res:=fun | [.r l] => .ret (.own 0) [ob] [.r l] | _=>aj}
def Ju:Ct:= {ps:= [.ptr 0 0,i64],bs:= [IZ],pre:=fun | [.i n,.r l] =>0≤n∧n≤l.length∧l.length≤1000000 | _=>False,res:=fun | [.i n,.r l] => .ret rb [IZ] [.r (l.take n.toNat),.r (l.drop n.toNat)] | _=>aj}
def Li:Ct:= {ps:= [.ptr 0 0,i64],bs:= [IZ],pre:=fun | [.i w,.r l] =>0≤w∧w≤2∧w≤l.length∧l.length≤1000000∧ax l | _=>False,res:=fun | [.i w,.r l] => .ret i64 [IZ] [.i (a9 (l.take w.toNat) w.toNat),.r (l.drop w.toNat)] | _=>aj}
def Xb:List Dat→Ann
  | [.i w,.r l] => {cut:= [],loop:= [(3,[la 26 [(5,i64),(10,rb),(11,i64),(12,i64)] [IZ] (fun | [.i x,.r l',.i n,.i i,.r rest] =>l'=l.take w.toNat∧n=w∧0≤i∧i≤n∧x=a9 (l.take w.toNat) i.toNat∧rest=l.drop w.toNat | _=>False) (fun | [_,_,.i n,.i i,_] =>(n-i).toNat | _=>0)])]}
  | _=> {cut:= [],loop:= []}
end Go.Proofs.YteiecapbaeajdaaGreatDoor
