/-
 AVC, part H: slices that are made, and grow.
-/
import Derived.Test.YteiecapbaeajdaaGreatDoorJ1
import Derived.ChangeKeysEq
open Option.some renaming injEq→ada
open List renaming eq_nil_of_length_eq_zero→ath,toArray→atk,range→asg,replicate→ab0,replicate_succ→atl,flatten_cons→atm,ext_getElem?→ais,size_toArray→ash,take_left→atr,length_take→ajw,nil_append→asp,getElem?_take→aky,toList_toArray→ar7,getD→arY,mem_range→atu,append_nil→aiz,take_of_length_le→agv,getElem?_append_left→aeU
open Nat renaming add_mul→adS,eq_zero_or_pos→ati,le_refl→ar5,mul_le_mul_right→apW,min_eq_left→ato,zero_add→aeE,min→ats,min_le_left→att,le_trans→aty,lt_of_lt_of_le→asG,ne_of_lt→atz
open Array renaming range→atj,ext'→ar6,toList_map→atn,size_append→atp,toList_append→atq,length_toList→asc,any_toList→atv,getElem?_eq_some_iff→asu,eq_empty_of_size_eq_zero→atw,toArray_toList→atx,getD_eq_getD_getElem?→atA
open Option renaming getD_none→atB
namespace Go.Avc
set_option linter.unusedVariables false
set_option linter.unusedSimpArgs false
section
variable {P:Program} {Im:Nat→Prop} {ι:Nat→Option Value} {w:World}
theorem yn {e:List CSh} {sz:Nat} (he:e.length=sz):∀ {parts:List (Nat×SV)} {vparts:List (Nat×Value)} {j:Nat} {rows:LD} {cur:Array Value} {va vr:List Value},jH Im ι w parts vparts→kF e j parts=some rows→
  cur.toList=va++vr→va.length=j*sz→vr.length=parts.length*sz→∃ (r:Array Value) (xs:List Value),Instr.fill (fun i=>some (i*sz,sz)) cur vparts=some r∧r.toList=va++xs∧FlatRel Im w e rows xs
 | [],vparts,j,rows,cur,va,vr,hp,h,hc,hl,hr=>by
  cases (show vparts= [] from hp)
  simp only [kF,ada] at h
  subst h
  have:vr= [] :=ath (by simpa using hr)
  subst this
  exact ⟨cur,[],rfl,hc,.nil e⟩
 | (i,s)::rest,vparts,j,rows,cur,va,vr,hp,h,hc,hl,hr=>by
  obtain ⟨v,vs',rfl,hv,hr'⟩:=hp
  unfold kF at h
  split at h
  ·rename_i hij
   subst hij
   split at h
   ·rename_i xs hxs
    split at h
    ·rename_i row rows' hrow hrows
     simp only [ada] at h
     subst h
     have hvc:=tY hxs hv
     have hrr:=qA hrow (pG hvc)
     have hvl:v.cells.toList.length=sz:=hrr.length.1.trans he
     have hvr:sz≤vr.length:=by rw [hr];simp [adS]
     have hf:=mP (place:=fun i=>some (i*sz,sz)) (cur:=cur) (i:=i) (v:=v) (rest:=vs') (vm:=vr.take sz) (vd:=vr.drop sz) rfl (by rw [hc];simp) hl (by simp;omega) hvl
     have hadd:(i+1)*sz=i*sz+sz:=by rw [adS,Nat.one_mul]
     obtain ⟨r,ys,h1,h2,h3⟩:=yn he (cur:=(va++(v.cells.toList++vr.drop sz)).toArray) (va:=va++v.cells.toList) (vr:=vr.drop sz) hr' hrows (by simp) (by rw [ce,hl,hvl,hadd]) (by simp [hr,adS])
     exact ⟨r,v.cells.toList++ys,by rw [hf];exact h1,by rw [h2,fE],.cons _ _ _ _ _ hrr h3⟩
    ·cases h
   ·cases h
  ·cases h
theorem t9 {e:List CSh} :∀ {parts:List (Nat×SV)} {j:Nat} {rows:LD},kF e j parts=some rows→rows.length=parts.length
 | [],j,rows,h=>by simp only [kF,ada] at h;subst h;rfl
 | (i,s)::rest,j,rows,h=>by
  unfold kF at h
  split at h
  ·split at h
   ·split at h
    ·rename_i h2
     simp only [ada] at h
     subst h
     simp [t9 h2]
    ·cases h
   ·cases h
  ·cases h
theorem BU:∀ {parts:List (Nat×SV)} {vparts:List (Nat×Value)} {j:Nat} {svs:List SV} {cur:Array Value} {va vr:List Value},jH Im ι w parts vparts→uv j parts=some svs→
  cur.toList=va++vr→va.length=j→vr.length=parts.length→∃ (r:Array Value) (xs:List Value),Instr.fill (fun i=>some (i*1,1)) cur vparts=some r∧r.toList=va++xs∧VRels Im ι w svs xs∧svs.length=parts.length
 | [],vparts,j,svs,cur,va,vr,hp,h,hc,hl,hr=>by
  cases (show vparts= [] from hp)
  simp only [uv,ada] at h
  subst h
  have:vr= [] :=ath (by simpa using hr)
  subst this
  exact ⟨cur,[],rfl,hc,rfl,rfl⟩
 | (i,s)::rest,vparts,j,svs,cur,va,vr,hp,h,hc,hl,hr=>by
  obtain ⟨v,vs',rfl,hv,hr'⟩:=hp
  unfold uv at h
  split at h
  ·rename_i hij
   subst hij
   split at h
   ·rename_i hone
    split at h
    ·rename_i xs hxs
     simp only [ada] at h
     subst h
     have hcells:v.cells.toList= [v] :=by
      have h1:=wO hone hv
      cases v <;>first | rfl | (simp [Value.oneCell'] at h1)
     have hvr:1≤vr.length:=by rw [hr];simp
     have hf:=mP (place:=fun i=>some (i*1,1)) (cur:=cur) (i:=i) (v:=v) (rest:=vs') (va:=va) (vm:=vr.take 1) (vd:=vr.drop 1) rfl (by rw [hc,List.take_append_drop]) (by omega) (by simp;omega) (by rw [hcells];rfl)
     rw [hcells] at hf
     obtain ⟨r,ys,h1,h2,h3,h4⟩:=BU (cur:=(va++([v] ++vr.drop 1)).toArray) (va:=va++ [v]) (vr:=vr.drop 1) hr' hxs (by simp) (by simp [hl]) (by simp [hr])
     exact ⟨r,v::ys,by rw [hf];exact h1,by rw [h2,fE];rfl,⟨v,ys,rfl,hv,h3⟩,by simp [h4]⟩
    ·cases h
   ·cases h
  ·cases h
theorem PZ {e:List CSh} {rows:LD} {xs:List Value} {E:TypeId} {n:Nat} (hf:FlatRel Im w e rows xs) (hn:rows.length=n) (hm:n≤maxLen):
  OwnV (w.alloc (.cells xs.toArray E)) E e.length (.slice (some ⟨w.heap.size,0,none⟩) n n) rows.length xs:=by
 subst hn
 refine ⟨hf.length,?_⟩
 rcases ati rows.length with h0 | h0
 ·exact .inl ⟨_,by rw [h0],h0⟩
 ·exact .inr ⟨w.heap.size,rows.length,xs.toArray,rfl,heap_alloc_new w _,ar5 _,h0,hm,by simp [hf.length],by rw [← hf.length];simp⟩
theorem Ca {zero:TypeId→Option (List SV)} (hz:mn P zero) (hIm:∀ i,Im i→i<w.heap.size) {T:TypeId} {len:Nat} {parts:List (Nat×SV)} {vparts:Array (Nat×Value)} (hp:jH Im ι w parts vparts.toList):
  bi P Im ι w ((do let y ← Instr.buildSlice T len vparts;pure (.value y):Sem Next).run P w) (rM P zero T len parts):=by
 unfold rM
 split
 ·rename_i E hu
  split
  ·rename_i e z he hzE
   split
   ·rename_i hlen
    split
    ·rename_i hsz
     split
     ·rename_i rows hrows
      split
      ·rename_i hsmall
       split
       ·trivial
       ·rename_i he0
        obtain ⟨z',h1,h2,h3⟩:=jN (w:=w) hz hzE
        have hrl:=t9 hrows
        have hcellsE:P.cellsOf E≠0:=by omega
        have hbig:¬ len*P.cellsOf E > 2 ^ 24:=by rw [← hsz];omega
        have key:∀ zc:Array Value,∃ xs,Instr.fill (fun i=>some (i*P.cellsOf E,P.cellsOf E)) ((atj (len*P.cellsOf E)).map (zc[· % zc.size]!)) vparts.toList=some (atk xs)∧FlatRel Im w e rows xs:=by
         intro zc
         obtain ⟨r,xs,h4,h5,h6⟩:=yn (cur:=(atj (len*P.cellsOf E)).map (zc[· % zc.size]!)) (va:= []) (vr:=((atj (len*P.cellsOf E)).map (zc[· % zc.size]!)).toList) (j:=0) hsz hp hrows rfl (by simp) (by rw [hlen];simp)
         have hr:r=xs.toArray:=by apply ar6;simpa using h5
         exact ⟨xs,by rw [← hr];exact h4,h6⟩
        have hbuild:∃ xs,(Instr.buildSlice T len vparts).run P w= .ok (.slice (some ⟨w.heap.size,0,none⟩) len len) (w.alloc (.cells (atk xs) E))∧FlatRel Im w e rows xs:=by
         by_cases h0:len*P.cellsOf E=0
         ·obtain ⟨xs,h4,h6⟩:=key #[]
          refine ⟨xs,?_,h6⟩
          unfold Instr.buildSlice
          simp only [Sem.run_bind,run_underlying hu,Result.andThen_ok,cJ hcellsE,if_neg hbig,if_pos h0,Sem.run_pure,h4]
          rfl
         ·obtain ⟨xs,h4,h6⟩:=key z'.cells
          refine ⟨xs,?_,h6⟩
          unfold Instr.buildSlice
          simp only [Sem.run_bind,run_underlying hu,Result.andThen_ok,cJ hcellsE,if_neg hbig,if_neg h0,h1,Sem.run_pure,h4]
          rfl
        obtain ⟨xs,hbuild,h6⟩:=hbuild
        refine ⟨_,_,xs,aJ hbuild,World.grownBy_alloc w _ none,⟨_,_,_,rfl,fun _=>rfl⟩,PZ h6 (by omega) (by simp [maxLen];have:len≤len*e.length:=Nat.le_mul_of_pos_right _ (by omega);omega),h6,fun k hk=> ?_⟩
        simp only [aB] at hk
        split at hk
        ·cases hk
        ·cases hk;exact ar5 _
      ·trivial
     ·split
      ·rename_i svs hsvs
       split
       ·rename_i he1
        split
        ·rename_i hsmall
         have hc1:P.cellsOf E=1:=by omega
         obtain ⟨z',h1,h2,h3⟩:=jN (w:=w) hz hzE
         have hbig:¬ len*P.cellsOf E > 2 ^ 24:=by rw [hc1];omega
         have key:∀ zc:Array Value,∃ xs,Instr.fill (fun i=>some (i*P.cellsOf E,P.cellsOf E)) ((atj (len*P.cellsOf E)).map (zc[· % zc.size]!)) vparts.toList=some (atk xs)∧VRels Im ι w svs xs∧svs.length=len:=by
          intro zc
          rw [hc1]
          obtain ⟨r,xs,h4,h5,h6,h7⟩:=BU (cur:=(atj (len*1)).map (zc[· % zc.size]!)) (va:= []) (vr:=((atj (len*1)).map (zc[· % zc.size]!)).toList) (j:=0) hp hsvs rfl rfl (by rw [hlen];simp)
          have hr:r=xs.toArray:=by apply ar6;simpa using h5
          exact ⟨xs,by rw [← hr];exact h4,h6,by omega⟩
         have hbuild:∃ xs,(Instr.buildSlice T len vparts).run P w= .ok (.slice (some ⟨w.heap.size,0,none⟩) len len) (w.alloc (.cells (atk xs) E))∧VRels Im ι w svs xs∧svs.length=len:=by
          by_cases h0:len*P.cellsOf E=0
          ·obtain ⟨xs,h4,h6⟩:=key #[]
           refine ⟨xs,?_,h6⟩
           unfold Instr.buildSlice
           simp only [Sem.run_bind,run_underlying hu,Result.andThen_ok,cJ (show P.cellsOf E≠0 by omega),if_neg hbig,if_pos h0,Sem.run_pure,h4]
           rfl
          ·obtain ⟨xs,h4,h6⟩:=key z'.cells
           refine ⟨xs,?_,h6⟩
           unfold Instr.buildSlice
           simp only [Sem.run_bind,run_underlying hu,Result.andThen_ok,cJ (show P.cellsOf E≠0 by omega),if_neg hbig,if_neg h0,h1,Sem.run_pure,h4]
           rfl
         obtain ⟨xs,hbuild,h6,h7⟩:=hbuild
         refine ⟨_,_,aJ hbuild,World.grownBy_alloc w _ none,?_⟩
         have hsize:(w.alloc (.cells (atk xs) E)).heap.size=w.heap.size+1:=Array.size_push _
         have hlat:Later Im ι w (fun i=>Im i∨(w.heap.size≤i∧i<(w.alloc (.cells (atk xs) E)).heap.size)) ι (w.alloc (.cells (atk xs) E)):=⟨fun _ h=> .inl h,fun _ _ h=>h,fun i hi=>heap_alloc_old w _ _ (hIm i hi)⟩
         refine ⟨⟨w.heap.size,0,none⟩,xs,by rw [h7],by rw [h7];simp [maxLen];omega,.inr ⟨ar5 _,by rw [hsize];exact Nat.lt_succ_self _⟩,VRels.mono hlat _ _ h6,fun j x hx=> ?_⟩
         have e1:(⟨w.heap.size,0,none⟩:Addr).add j=⟨w.heap.size,j,none⟩:=by
          unfold Addr.add
          split
          ·rename_i h;subst h;rfl
          ·simp
         rw [e1,World.cell?_alloc_at _ _ _ _ rfl,List.getElem?_toArray]
         exact hx
        ·trivial
       ·trivial
      ·trivial
    ·trivial
   ·trivial
  ·trivial
 ·trivial
theorem zj {zc:Array Value} (h0:0<zc.size):∀ n,(asg (n*zc.size)).map (fun j=>zc[j%zc.size]!)=(ab0 n zc.toList).flatten
 | 0=>by simp
 | n+1=>by
  rw [adS,Nat.one_mul,Nat.add_comm,List.range_add,List.map_append,List.map_map,atl,atm]
  congr 1
  ·apply ais
   intro j
   by_cases hj:j<zc.size
   ·simp [hj,Nat.mod_eq_of_lt hj]
   ·simp [hj]
  ·rw [← zj h0 n]
   apply List.map_congr_left
   intro j _
   simp
theorem lB {e:List CSh} {row:List CD} {vs:List Value} (h:RowRel Im w e row vs):∀ n,FlatRel Im w e (ab0 n row) (ab0 n vs).flatten
 | 0=> .nil e
 | n+1=>by
  rw [atl,atl,atm]
  exact .cons _ _ _ _ _ h (lB h n)
theorem Qx {zc:Array Value} (h0:0<zc.size) {n m:Nat} (h:n≤m):((madeCells zc (m*zc.size)).toList.take (n*zc.size))=(ab0 n zc.toList).flatten:=by
 rw [← zj h0]
 have:n*zc.size≤m*zc.size:=apW _ h
 simp only [madeCells,atn,Array.toList_range,← List.map_take,List.take_range]
 rw [ato this]
theorem C4 {zero:TypeId→Option (List SV)} (hz:mn P zero) {T:TypeId} {len cap:SV} {vl vc:Value} (hl:VRel Im ι w len vl) (hc:VRel Im ι w cap vc):
  bi P Im ι w ((do let y ← Instr.makeSlice T vl vc;pure (.value y):Sem Next).run P w) (uh P zero T len cap):=by
 unfold uh
 split
 ·rename_i E k n k' c hu
  cases hl
  cases hc
  split
  ·rename_i e z he hzE
   split
   ·rename_i row hrow
    split
    ·trivial
    ·rename_i he0
     intro hn
     obtain ⟨i,zv,h1,h2,h3,h4⟩:=hz E z hzE
     have hrr:=qA hrow (pG (h4 Im ι w))
     have hsz:zv.cells.size=e.length:=by simpa using hrr.length.1
     have hb:(i.bytes:Int)*c≤281474976710656:=by
      have:P.bytesOf E=i.bytes:=by simp [Program.bytesOf,h1]
      rw [← this];omega
     have hr:=run_make (P:=P) w T E i zv hu h1 h2 k k' n c hn.1 hn.2.1 hb hn.2.2.2
     rw [← h3] at hr
     refine ⟨_,_,(ab0 n.toNat zv.cells.toList).flatten,aJ hr,World.grownBy_alloc w _ none,⟨_,_,_,rfl,fun h=>by cases h⟩,⟨?_,?_⟩,lB hrr n.toNat,?_⟩
     ·rw [(lB hrr n.toNat).length]
     ·simp only [List.length_replicate]
      by_cases hc0:c.toNat=0
      ·left
       have hn0:n.toNat=0:=by omega
       exact ⟨_,by rw [hc0,hn0],hn0⟩
      ·right
       refine ⟨w.heap.size,c.toNat,_,rfl,heap_alloc_new w _,by omega,by omega,by simp [maxLen];omega,by rw [size_madeCells,hsz],?_⟩
       rw [← hsz]
       exact Qx (by omega) (by omega)
     ·intro g hg
      simp only [aB] at hg
      split at hg
      ·cases hg
      ·simp only [ada] at hg
       omega
   ·trivial
  ·trivial
 ·trivial
theorem vU {T T2 E ty:TypeId} {i:TypeInfo} {d2:TypeDesc} (ht:P.underlying T=some (.slice E)) (ht2:P.underlying T2=some d2) (hd2:d2= .string∨∃ E2,d2= .slice E2) (hi:P.info? E=some i)
  {a:Option Addr} {n cap:Nat} {x:Value} {m:Nat} {news:List Value} (hlen:(Builtin.lenOf x).run P w= .ok m w) (hnew:(Builtin.firstCells i.size m x).run P w= .ok news.toArray w) (hroom:n+m≤cap) {w':World}
  (hst:∀ b,a=some b→(storeCells (b.add (n*i.size)) news).run P w= .ok () w') (hnone:a=none→w'=w):
  (Builtin.append_ #[T,T2] ty #[.slice a n cap,x]).run P w= .ok (.slice a (n+m) cap) w':=by
 cases a with
 | none=>
  cases hnone rfl
  rcases hd2 with rfl | ⟨E2,rfl⟩ <;>simp [Builtin.append_,run_underlying ht,run_underlying ht2,sizeOf,typeInfo,hi,hlen,hroom,hnew]
 | some b=>
  have h:=hst b rfl
  rcases hd2 with rfl | ⟨E2,rfl⟩ <;>simp [Builtin.append_,run_underlying ht,run_underlying ht2,sizeOf,typeInfo,hi,hlen,hroom,hnew,h]
theorem sd {T T2 E ty:TypeId} {i:TypeInfo} {z:Value} {d2:TypeDesc} (ht:P.underlying T=some (.slice E)) (ht2:P.underlying T2=some d2) (hd2:d2= .string∨∃ E2,d2= .slice E2) (hi:P.info? E=some i) (hz:i.zero=some z)
  {a:Option Addr} {n cap:Nat} {x:Value} {m:Nat} {olds news:List Value} (hlen:(Builtin.lenOf x).run P w= .ok m w) (hold:(Builtin.firstCells i.size n (.slice a n cap)).run P w.drew= .ok olds.toArray w.drew)
  (hnew:(Builtin.firstCells i.size m x).run P w.drew= .ok news.toArray w.drew) (hroom:cap<n+m) (h63:n+m≤9223372036854775807) (hfit:Builtin.nextslicecap (n+m) cap*i.bytes≤281474976710656):
  (Builtin.append_ #[T,T2] ty #[.slice a n cap,x]).run P w=
   .ok (.slice (some ⟨w.heap.size,0,none⟩) (n+m) (grownCap w (n+m) cap E)) (w.drew.alloc (.cells (olds.toArray++news.toArray++Builtin.zeroCells z.cells (grownCap w (n+m) cap E-(n+m))) E)):=by
 have hn:¬ (n+m≤cap):=by omega
 have h63':¬ (9223372036854775807<((n:Int)+(m:Int))):=by omega
 have h48':¬ (281474976710656<Builtin.nextslicecap (n+m) cap*i.bytes):=by omega
 rcases hd2 with rfl | ⟨E2,rfl⟩ <;>simp [Builtin.append_,run_underlying ht,run_underlying ht2,sizeOf,typeInfo,zeroValue,hi,hz,hlen,hn,h63',h48',Question.forced,hold,hnew,newRow,grownCap] <;>(congr 2;apply ar6;simp [fE])
theorem D1 {T T2 E ty:TypeId} {i:TypeInfo} {z:Value} {d2:TypeDesc} (ht:P.underlying T=some (.slice E)) (ht2:P.underlying T2=some d2) (hd2:d2= .string∨∃ E2,d2= .slice E2) (hi:P.info? E=some i) (hz:i.zero=some z)
  {sz:Nat} (hsz:i.size=sz) (hzs:z.cells.size=sz) {a:Option Addr} {n:Nat} {olds:List Value} (hol:olds.length=n*sz) (hold:(Builtin.firstCells sz n (.slice a n n)).run P w.drew= .ok olds.toArray w.drew)
  {x:Value} {m:Nat} {news:List Value} (hlen:(Builtin.lenOf x).run P w= .ok m w) (hnl:news.length=m*sz)
  (hnew:∀ w':World,w'.heap=w.heap→(Builtin.firstCells sz m x).run P w'= .ok news.toArray w') (hm:0<m)
  (h63:n+m≤9223372036854775807) (hbytes:(n+m)*i.bytes≤140737488355328):
  ∃ v' w',(Builtin.append_ #[T,T2] ty #[.slice a n n,x]).run P w= .ok v' w'∧w.grownBy w' none∧(∃ a n c,v'= .slice a n c)∧OwnV w' E sz v' (n+m) (olds++news)∧∀ k,aB v'=some k→w.heap.size≤k:=by
 subst hsz
 have hlx:(olds++news).length=(n+m)*i.size:=by rw [ce,hol,hnl,adS]
 have hge:=grownCap_ge w (n+m) n E
 have hcm:grownCap w (n+m) n E≤maxLen:=grownCap_le_maxLen w (n+m) n E (by simp [maxLen];omega)
 refine ⟨_,_,sd ht ht2 hd2 hi hz hlen hold (hnew w.drew rfl) (by omega) h63 (growslice_fits (by omega) hbytes),⟨rfl,rfl,rfl,by simp,fun k hk _=>(heap_alloc_old w.drew _ k hk:_)⟩,⟨_,_,_,rfl⟩,⟨hlx,.inr ⟨w.heap.size,_,_,rfl,heap_alloc_new w.drew _,hge,by omega,hcm,?_,?_⟩⟩,?_⟩
 ·simp only [atp,ash,size_zeroCells,hzs,hol,hnl,← adS]
  congr 1
  omega
 ·simp only [atq,fE]
  rw [← fE,← hlx]
  exact atr
 ·intro k hk
  simp only [aB] at hk
  split at hk
  ·cases hk
  ·simp only [ada] at hk;omega
theorem ph {T T2 E ty:TypeId} {i:TypeInfo} {z:Value} {d2:TypeDesc} (ht:P.underlying T=some (.slice E)) (ht2:P.underlying T2=some d2) (hd2:d2= .string∨∃ E2,d2= .slice E2) (hi:P.info? E=some i) (hz:i.zero=some z)
  {sz:Nat} (hsz:i.size=sz) (hsz0:0<sz) (hzs:z.cells.size=sz) {v:Value} {n:Nat} {xs:List Value} (hown:OwnV w E sz v n xs)
  {x:Value} {m:Nat} {news:List Value} (hlen:(Builtin.lenOf x).run P w= .ok m w) (hnl:news.length=m*sz)
  (hnew:∀ w':World,w'.heap=w.heap→(Builtin.firstCells sz m x).run P w'= .ok news.toArray w') (h1:∀ u∈news,u.oneCell'=true)
  (h63:n+m≤9223372036854775807) (hbytes:(n+m)*i.bytes≤140737488355328):
  ∃ v' w',(Builtin.append_ #[T,T2] ty #[v,x]).run P w= .ok v' w'∧w.grownBy w' (aB v)∧(∃ a n c,v'= .slice a n c)∧OwnV w' E sz v' (n+m) (xs++news)∧∀ k,aB v'=some k→aB v=some k∨w.heap.size≤k:=by
 subst hsz
 have hxl:=hown.1
 have hlx:(xs++news).length=(n+m)*i.size:=by rw [ce,hxl,hnl,adS]
 have grown:∀ (old:Nat),old<n+m→∀ row:Option Nat,
   OwnV (w.drew.alloc (.cells (xs.toArray++news.toArray++Builtin.zeroCells z.cells (grownCap w (n+m) old E-(n+m))) E)) E i.size (.slice (some ⟨w.heap.size,0,none⟩) (n+m) (grownCap w (n+m) old E)) (n+m) (xs++news)∧
   w.grownBy (w.drew.alloc (.cells (xs.toArray++news.toArray++Builtin.zeroCells z.cells (grownCap w (n+m) old E-(n+m))) E)) row∧
   ∀ k,aB (.slice (some ⟨w.heap.size,0,none⟩) (n+m) (grownCap w (n+m) old E))=some k→w.heap.size≤k:=by
  intro old ho row
  have hge:=grownCap_ge w (n+m) old E
  have hcm:grownCap w (n+m) old E≤maxLen:=grownCap_le_maxLen w (n+m) old E (by simp [maxLen];omega)
  refine ⟨⟨hlx,.inr ⟨w.heap.size,_,_,rfl,heap_alloc_new w.drew _,hge,by omega,hcm,?_,?_⟩⟩,⟨rfl,rfl,rfl,by simp,fun k hk _=>(heap_alloc_old w.drew _ k hk:_)⟩,?_⟩
  ·simp only [atp,ash,size_zeroCells,hzs,hxl,hnl,← adS]
   congr 1
   omega
  ·simp only [atq,fE]
   rw [← fE,← hlx]
   exact atr
  ·intro k hk
   simp only [aB] at hk
   split at hk
   ·cases hk
   ·simp only [ada] at hk;omega
 have hold:∀ (a:Option Addr) (cap:Nat),(∀ j u,xs[j]? =some u→∃ b,a=some b∧w.cell? (b.add j)=some u)→(Builtin.firstCells i.size n (.slice a n cap)).run P w.drew= .ok xs.toArray w.drew:=by
  intro a cap ha
  cases a with
  | none=>
   have:xs= [] :=by
    cases xs with
    | nil=>rfl
    | cons u us=>obtain ⟨b,hb,_⟩:=ha 0 u rfl;cases hb
   subst this
   exact run_firstCells_none w.drew i.size n n cap
  | some b=>exact run_firstCells_some (P:=P) w.drew i.size n b n cap xs hxl (fun j u hu=>by obtain ⟨b',hb,hc⟩:=ha j u hu;cases hb;simpa using hc)
 rcases hown.2 with ⟨a,rfl,rfl⟩ | ⟨g,cap,cur,rfl,hg,hnc,hc0,hcm,hcs,htake⟩
 ·have hx:xs= [] :=ath (by simpa using hxl)
  subst hx
  by_cases hm:m=0
  ·subst hm
   have hn:news= [] :=ath (by simpa using hnl)
   subst hn
   refine ⟨.slice a 0 0,w,?_,⟨rfl,rfl,rfl,ar5 _,fun _ _ _=>rfl⟩,⟨_,_,_,rfl⟩,⟨by simp,.inl ⟨a,rfl,rfl⟩⟩,fun k hk=>by cases a <;>simp [aB] at hk⟩
   exact vU ht ht2 hd2 hi hlen (hnew w rfl) (ar5 _) (fun b _=>rfl) (fun _=>rfl)
  ·have hgr:=grown 0 (by omega) (aB (.slice a 0 0))
   exact ⟨_,_,sd ht ht2 hd2 hi hz hlen (hold a 0 (fun j u hu=>by simp at hu)) (hnew w.drew rfl) (by omega) h63 (growslice_fits (by omega) hbytes),hgr.2.1,⟨_,_,_,rfl⟩,hgr.1,fun k hk=> .inr (hgr.2.2 k hk)⟩
 ·by_cases hroom:n+m≤cap
  ·have hfit:n*i.size+news.length≤cur.size:=by rw [hnl,hcs,← adS];exact apW _ hroom
   have hst:=run_storeCells_at P g (n*i.size) E news 0 cur w hg (by simpa using hfit) h1
   simp only [Nat.add_zero] at hst
   have hst':∀ b,some (⟨g,0,none⟩:Addr)=some b→(storeCells (b.add (n*i.size)) news).run P w= .ok () (w.setRow g (cur.toList.take (n*i.size)++news++cur.toList.drop (n*i.size+news.length)).toArray):=by
    intro b hb
    cases hb
    rw [aS,aeE]
    exact hst
   have hfg:aB (.slice (some ⟨g,0,none⟩) n cap)=some g:=by simp only [aB];rw [if_neg (by omega)]
   refine ⟨_,_,vU ht ht2 hd2 hi hlen (hnew w rfl) hroom hst' (fun h=>by cases h),⟨rfl,rfl,rfl,by simp,fun k _ hk=>setRow_other w g k _ (fun e=>hk (by rw [hfg,e]))⟩,⟨_,_,_,rfl⟩,⟨hlx,.inr ⟨g,cap,_,rfl,setRow_heap w g cur _ E _ hg,hroom,hc0,hcm,?_,?_⟩⟩,fun k hk=> .inl ?_⟩
   ·simp only [ash,ce,ajw,eH,asc]
    omega
   ·rw [htake,← hlx]
    exact atr
   ·rw [hfg]
    simp only [aB] at hk
    rw [if_neg (by omega)] at hk
    exact hk
  ·have hgr:=grown cap (by omega) (aB (.slice (some ⟨g,0,none⟩) n cap))
   exact ⟨_,_,sd ht ht2 hd2 hi hz hlen (hold (some ⟨g,0,none⟩) cap (fun j u hu=>⟨_,rfl,qE hown (by omega) j u hu⟩)) (hnew w.drew rfl) (by omega) h63 (growslice_fits (by omega) hbytes),hgr.2.1,⟨_,_,_,rfl⟩,hgr.1,fun k hk=> .inr (hgr.2.2 k hk)⟩
end
section
variable {P:Program} {Im:Nat→Prop} {ι:Nat→Option Value} {w:World}
theorem kv (w':World) (sz c:Nat):(Builtin.firstCells sz 0 (.slice none 0 c)).run P w'= .ok #[] w':=run_firstCells_none w' sz 0 0 c
theorem Mf {hp:List Blk} (hh:HV Im ι w hp) {y:SV} {vy:Value} {e:List CSh} {m:LD} (h:FM hp y=some (e,m)) (hy:VRel Im ι w y vy):
  ∃ news:List Value,(Builtin.lenOf vy).run P w= .ok m.length w∧news.length=m.length*e.length∧(∀ w':World,w'.heap=w.heap→(Builtin.firstCells e.length m.length vy).run P w'= .ok news.toArray w')∧FlatRel Im w e m news:=by
 unfold FM at h
 split at h
 ·rename_i l
  simp only [ada,Prod.mk.injEq] at h
  obtain ⟨rfl,rfl⟩:=h
  obtain ⟨rfl,hl⟩:=hy
  refine ⟨(l.map fun b=>(b.toNat:Int)).map (Value.int .u8),?_,?_,?_,?_⟩
  ·simp [Builtin.lenOf,il,aj]
  ·simp [aj]
  ·intro w' _
   have e1:(⟨l.toArray⟩:ByteArray).extract 0 (aj l).length=⟨l.toArray⟩:=by
    rw [x8 _ _ _ (by simp [aj])]
    simp [aj]
   simp only [Builtin.firstCells,e1,Sem.run_pure]
   congr 1
   simp [Function.comp_def]
  ·have e1:aj l=(l.map fun b=>(b.toNat:Int)).map fun x=> [CD.int x] :=by simp [aj,Function.comp_def]
   rw [e1]
   exact tw _
 ·obtain ⟨a,cap,rfl,h1,h2,h3⟩:=sW hh h hy
  have hlen:(Builtin.lenOf (.slice a m.length cap)).run P w= .ok m.length w:=by simp [Builtin.lenOf]
  by_cases hz:m= []
  ·subst hz
   refine ⟨[],hlen,by simp,fun w' _=> ?_,.nil e⟩
   cases a with
   | none=>exact kv w' _ _
   | some ad=>exact run_firstCells_some (P:=P) w' e.length 0 ad 0 cap [] (by simp) (by simp)
  ·obtain ⟨ad,xs,rfl,h4,h5⟩:=h3 (List.length_pos_iff.2 hz)
   refine ⟨xs,hlen,h4.length,fun w' hw=> ?_,h4⟩
   exact run_firstCells_some (P:=P) w' e.length m.length ad m.length cap xs h4.length (fun j u hu=>by
    have:=h5 j u hu
    simpa [World.cell?,hw] using this)
theorem Lc {zero:TypeId→Option (List SV)} (hz:mn P zero) {hp:List Blk} (hh:HV Im ι w hp) {T T2 ty:TypeId} {x y:SV} {vx vy:Value} (hx:VRel Im ι w x vx) (hy:VRel Im ι w y vy):
  bi P Im ι w ((do let r ← Builtin.append_ #[T,T2] ty #[vx,vy];pure (.value r):Sem Next).run P w) (Cs P hp zero T T2 x y):=by
 unfold Cs
 split
 ·rename_i E d2 hu hu2
  split
  ·rename_i e z he hzE
   split
   ·rename_i hsz
    split
    ·trivial
    ·rename_i he0
     split
     ·rename_i hd2
      have hd2':d2= .string∨∃ E2,d2= .slice E2:=by
       cases d2 <;>simp [ZE] at hd2 ⊢
      split
      ·rename_i e2 m hm
       split
       ·rename_i hbe
        have hee:=CSh.beqs_eq _ _ hbe
        subst hee
        obtain ⟨i,zv,h1,h2,h3,h4⟩:=hz E z hzE
        have hisz:i.size=e.length:=by rw [hsz];simp [Program.cellsOf,h1]
        have hby:P.bytesOf E=i.bytes:=by simp [Program.bytesOf,h1]
        have hnews:∃ news:List Value,(Builtin.lenOf vy).run P w= .ok m.length w∧news.length=m.length*e.length∧(∀ w':World,w'.heap=w.heap→(Builtin.firstCells e.length m.length vy).run P w'= .ok news.toArray w')∧FlatRel Im w e m news:=by
         split at hm
         ·simp only [ada,Prod.mk.injEq] at hm
          obtain ⟨_,rfl⟩:=hm
          cases hy
          exact ⟨[],by simp [Builtin.lenOf],by simp,fun w' _=>kv w' _ _,.nil e⟩
         ·simp only [ada,Prod.mk.injEq] at hm
          obtain ⟨_,rfl⟩:=hm
          obtain ⟨a,rfl⟩:=hy
          refine ⟨[],by simp [Builtin.lenOf],by simp,fun w' _=> ?_,.nil e⟩
          cases a with
          | none=>exact kv w' _ _
          | some ad=>exact run_firstCells_some (P:=P) w' e.length 0 ad 0 0 [] (by simp) (by simp)
         ·exact Mf hh hm hy
        obtain ⟨news,n1,n2,n3,n4⟩:=hnews
        split
        ·cases hx
         rintro ⟨hb1,hb2⟩
         have hown:OwnV w E e.length (.slice none 0 0) 0 [] :=⟨by simp,.inl ⟨none,rfl,rfl⟩⟩
         obtain ⟨v',w',r1,r2,r3,r4,r5⟩:=ph (ty:=ty) hu hu2 hd2' h1 h2 hisz (by omega) (by rw [h3,hisz]) hown n1 n2 n3 n4.cells (by omega) (by rw [← hby,aeE];omega)
         simp only [aeE,asp] at r4
         obtain ⟨ra,rn,rc,r3⟩:=r3
         exact ⟨v',w',news,aJ r1,r2,⟨ra,rn,rc,r3,fun h=>by cases h⟩,r4,n4,fun k hk=>(r5 k hk).resolve_left (by simp [aB])⟩
        ·obtain ⟨a,rfl⟩:=hx
         rintro ⟨hb1,hb2⟩
         have hown:OwnV w E e.length (.slice a 0 0) 0 [] :=⟨by simp,.inl ⟨a,rfl,rfl⟩⟩
         obtain ⟨v',w',r1,r2,r3,r4,r5⟩:=ph (ty:=ty) hu hu2 hd2' h1 h2 hisz (by omega) (by rw [h3,hisz]) hown n1 n2 n3 n4.cells (by omega) (by rw [← hby,aeE];omega)
         simp only [aeE,asp] at r4
         have hf:aB (.slice a 0 0)=none:=by cases a <;>simp [aB]
         rw [hf] at r2 r5
         obtain ⟨ra,rn,rc,r3⟩:=r3
         exact ⟨v',w',news,aJ r1,r2,⟨ra,rn,rc,r3,fun h=>by cases h⟩,r4,n4,fun k hk=>(r5 k hk).resolve_left (by simp)⟩
        ·rename_i e' l
         split
         ·rename_i hbe'
          have hee':=CSh.beqs_eq _ _ hbe'
          subst hee'
          split
          ·trivial
          ·rename_i r rs
           rintro ⟨hb1,hb2⟩
           obtain ⟨hcr,a,rfl⟩:=hx
           obtain ⟨_,_,ev,_,_,hc3⟩:=CRel.slice hcr
           injection ev with ev1 ev2 ev3
           subst ev1
           generalize hm':r::rs=m at *
           have hm0:0<m.length:=by rw [← hm'];simp
           have hold:∃ olds:List Value,FlatRel Im w e l olds∧(Builtin.firstCells i.size l.length (.slice a l.length l.length)).run P w.drew= .ok olds.toArray w.drew:=by
            rcases ati l.length with h0 | h0
            ·have hl0:l= [] :=ath h0
             subst hl0
             refine ⟨[],.nil e,?_⟩
             cases a with
             | none=>exact kv w.drew _ _
             | some ad=>exact run_firstCells_some (P:=P) w.drew i.size 0 ad 0 0 [] (by simp) (by simp)
            ·obtain ⟨ad,xs,rfl,_,h5,h6⟩:=hc3 h0
             exact ⟨xs,h5,run_firstCells_some (P:=P) w.drew i.size l.length ad l.length l.length xs (by rw [hisz];exact h5.length) (fun j u hu=>by simpa using h6 j u hu)⟩
           obtain ⟨olds,ho1,ho2⟩:=hold
           obtain ⟨v',w',r1,r2,r3,r4,r5⟩:=D1 (ty:=ty) hu hu2 hd2' h1 h2 hisz (by rw [h3,hisz]) ho1.length (by rw [← hisz];exact ho2) n1 n2 n3 hm0 (by omega) (by rw [← hby];omega)
           obtain ⟨ra,rn,rc,r3⟩:=r3
           refine ⟨v',w',olds++news,aJ r1,r2,⟨ra,rn,rc,r3,fun h=>by cases h⟩,?_,ho1.append n4,r5⟩
           rw [ce]
           exact r4
         ·trivial
        ·rename_i b
         obtain ⟨hb,_⟩:=hx
         split
         ·rename_i E' e' l hbl
          split
          ·rename_i hEE
           subst hEE
           split
           ·rename_i hbe'
            have hee':=CSh.beqs_eq _ _ hbe'
            subst hee'
            rintro ⟨hb1,hb2⟩
            obtain ⟨xs,hown,hf⟩:=hh.own hbl hb
            obtain ⟨v',w',r1,r2,r3,r4,r5⟩:=ph (ty:=ty) hu hu2 hd2' h1 h2 hisz (by omega) (by rw [h3,hisz]) hown n1 n2 n3 n4.cells (by omega) (by rw [← hby];omega)
            refine ⟨vx,v',w',xs++news,hb,aJ r1,r2,r3,?_,hf.append n4,r5⟩
            rw [ce]
            exact r4
           ·trivial
          ·trivial
         ·trivial
        ·trivial
       ·trivial
      ·trivial
     ·trivial
   ·trivial
  ·trivial
 ·trivial
theorem SU {hp:List Blk} (hh:HV Im ι w hp) {x:SV} {vx:Value} {run:Result Next} (hx:VRel Im ι w x vx)
  (hr:∀ (n:Nat) a c,vx= .slice a n c→run= .ok (.value (goInt n)) w):bi P Im ι w run (lenOf hp x):=by
 unfold lenOf
 split
 ·rename_i e l
  obtain ⟨a,cap,rfl,h1,h2,_⟩:=CRel.slice hx
  exact ⟨by simp [maxLen] at h2;omega,_,hr _ _ _ rfl,rfl⟩
 ·cases hx
  exact ⟨_,hr 0 _ _ rfl,rfl⟩
 ·obtain ⟨a,rfl⟩:=hx
  exact ⟨_,hr 0 _ _ rfl,rfl⟩
 ·rename_i b c N lo n
  obtain ⟨r,cap,h1,rfl,h2,h3,h4⟩:=hx
  exact ⟨by simp [maxLen] at h3;omega,_,hr _ _ _ rfl,rfl⟩
 ·rename_i b sz lo n
  obtain ⟨r,m,cap,cap',h1,h0,rfl,h2,h3⟩:=hx
  exact ⟨by simp [maxLen] at h3;omega,_,hr _ _ _ rfl,rfl⟩
 ·rename_i b
  obtain ⟨h1,_⟩:=hx
  split
  ·rename_i T e l hb
   obtain ⟨xs,h2,h3⟩:=hh.own hb h1
   obtain ⟨a,cap,rfl,h4,h5,_⟩:=h2.slice
   exact ⟨by simp [maxLen] at h5;omega,_,hr _ _ _ rfl,rfl⟩
  ·rename_i e l hb
   obtain ⟨a,cap,rfl,h4,h5,_⟩:=CRel.slice (hh.ro hb h1)
   exact ⟨by simp [maxLen] at h5;omega,_,hr _ _ _ rfl,rfl⟩
  ·trivial
 ·trivial
theorem Mz (k:IntKind) (n:Int) (h:k= .i64) (h2:O7 n):k.wrap n=n:=by
 subst h
 rw [IntKind.wrap_i64]
 unfold O7 at h2
 omega
theorem pZ {k:IntKind} {n:Int} {run:Result Next} (hr:run= .ok (.value (.int k (k.wrap n))) w):bi P Im ι w run (rF k n):=by
 unfold rF
 split
 ·intro hn
  rw [Mz _ n rfl hn] at hr
  exact ⟨_,hr,rfl⟩
 ·exact ⟨_,hr,rfl⟩
theorem ui (k:IntKind) (n:Int) (h0:0≤n) (h1:n≤k.max):k.wrap n=n:=by
 cases k <;>simp [IntKind.wrap,IntKind.max,IntKind.signed,IntKind.bits] at* <;>omega
theorem RG {op:BinOp} {k:IntKind} {a b:Int} (hop:op≠ .shl∧op≠ .shr):
  bi P Im ι w ((do let y ← binOp op 0 (.int k a) (.int k b);pure (.value y):Sem Next).run P w) (OP op k a b):=by
 cases op <;>simp only [OP]
 case add=>exact pZ (by simp [binOp,Op.intArith])
 case sub=>exact pZ (by simp [binOp,Op.intArith])
 case mul=>exact pZ (by simp [binOp,Op.intArith])
 case quo=>
  rintro ⟨h0,h1,h2⟩
  have h3:¬ b=0:=by omega
  have h4:a.tdiv b=a / b:=Int.tdiv_eq_ediv_of_nonneg h0
  have h5:k.wrap (a / b)=a / b:=ui k _ (Int.ediv_nonneg h0 (by omega)) (Int.le_trans (Int.ediv_le_self _ h0) h2)
  exact ⟨_,by simp [binOp,Op.intDiv,h3,h4,h5],rfl⟩
 case rem=>
  rintro ⟨h0,h1⟩
  have h3:¬ b=0:=by omega
  have h4:a.tmod b=a%b:=Int.tmod_eq_emod_of_nonneg h0
  exact ⟨_,by simp [binOp,Op.intDiv,h3,h4],rfl⟩
 case and=>exact ⟨_,by simp [binOp,Op.intBits,dp],rfl⟩
 case or=>exact ⟨_,by simp [binOp,Op.intBits,iq],rfl⟩
 case xor=>exact ⟨_,by simp [binOp,Op.intBits,wV],rfl⟩
 case andNot=>exact ⟨_,by simp [binOp,Op.intBits,lC],rfl⟩
 case shl=>exact absurd rfl hop.1
 case shr=>exact absurd rfl hop.2
 case eql=>exact ⟨_,by simp [binOp,Op.intCmp];rfl,rfl⟩
 case neq=>exact ⟨_,by simp [binOp,Op.intCmp];rfl,rfl⟩
 case lss=>exact ⟨_,by simp [binOp,Op.intCmp],rfl⟩
 case leq=>exact ⟨_,by simp [binOp,Op.intCmp],rfl⟩
 case gtr=>exact ⟨_,by simp [binOp,Op.intCmp],rfl⟩
 case geq=>exact ⟨_,by simp [binOp,Op.intCmp],rfl⟩
theorem yR {dT sT ty elem:TypeId} {base a:Option Addr} {dLen dCap sLen sCap sz:Nat} {cs:List Value} {w':World} (hu:P.underlying dT=some (.slice elem)) (hq:∃ i,P.info? elem=some i∧i.size=sz)
  (hn:cs.length=ats sLen dLen*sz) (hsrc:(a=none∧cs= [])∨∃ ad,a=some ad∧∀ j v,cs[j]? =some v→w.cell? (ad.add j)=some v) (hst:(match base with | some b=>storeCells b cs | none=>pure ()).run P w= .ok () w'):
  (Builtin.copy_ #[dT,sT] ty #[.slice base dLen dCap,.slice a sLen sCap]).run P w= .ok (goInt (ats sLen dLen)) w':=by
 obtain ⟨i,hq,hi⟩:=hq
 have hf:(Builtin.firstCells sz (ats sLen dLen) (.slice a sLen sCap)).run P w= .ok cs.toArray w:=by
  rcases hsrc with ⟨rfl,rfl⟩ | ⟨ad,rfl,hc⟩
  ·rfl
  ·have:=run_loadCells_list (P:=P) w ad cs hc
   rw [hn] at this
   exact this
 cases base with
 | none=>
  simp only [Sem.run_pure] at hst
  simp [Builtin.copy_,run_underlying hu,Builtin.lenOf,sizeOf,typeInfo,hq,hi,hf]
  cases hst;rfl
 | some b=>
  simp only at hst
  simp [Builtin.copy_,run_underlying hu,Builtin.lenOf,sizeOf,typeInfo,hq,hi,hf,hst]
theorem HS {α:Type} (A cs:List α) (p N:Nat) (h:p+cs.length≤N) (hN:N≤A.length):(A.take p++cs++A.drop (p+cs.length)).take N=(A.take N).take p++(cs++(A.take N).drop (p+cs.length)):=by
 apply ais
 intro j
 simp only [aky,List.getElem?_append,List.getElem?_drop,ce,ajw]
 by_cases h1:j<p
 ·have e1:j<N:=by omega
  have e2:j<min p A.length+cs.length:=by omega
  have e3:j<min p A.length:=by omega
  have e4:j<min p (min N A.length):=by omega
  simp [h1,e1,e2,e3,e4]
 ·have e3:¬ j<min p A.length:=by omega
  have e4:¬ j<min p (min N A.length):=by omega
  have m1:min p A.length=p:=by omega
  have m2:min p (min N A.length)=p:=by omega
  rw [if_neg e4,m2,m1]
  by_cases h2:j<p+cs.length
  ·have e5:j-p<cs.length:=by omega
   have e6:j<N:=by omega
   simp [h2,e5,e6,h1]
  ·have e5:¬ j-p<cs.length:=by omega
   have e8:p+cs.length+(j-(p+cs.length))=j:=by omega
   have e9:p+cs.length+(j-p-cs.length)=j:=by omega
   rw [if_neg h2,if_neg e5,e8,e9]
theorem DB {hp:List Blk} (hh:HV Im ι w hp) {x:SV} {vx:Value} {b:Nat} {T:TypeId} {e:List CSh} {l:LD} {lo n:Nat} (h:Dm hp x=some (b,T,e,l,lo,n)) (hx:VRel Im ι w x vx):
  ∃ v xs,ι b=some v∧OwnV w T e.length v l.length xs∧FlatRel Im w e l xs∧lo+n≤l.length∧
   ((n=0∧∃ a c,vx= .slice a 0 c)∨∃ g cap c',v= .slice (some ⟨g,0,none⟩) l.length cap∧0<cap∧vx= .slice (some ⟨g,lo*e.length,none⟩) n c'):=by
 unfold Dm at h
 split at h
 ·rename_i b'
  obtain ⟨h1,_⟩:=hx
  split at h
  ·rename_i T' e' l' hb
   simp only [ada,Prod.mk.injEq] at h
   obtain ⟨rfl,rfl,rfl,rfl,rfl,rfl⟩:=h
   obtain ⟨xs,h2,h3⟩:=hh.own hb h1
   refine ⟨vx,xs,h1,h2,h3,by omega,?_⟩
   rcases h2.2 with ⟨a,rfl,h0⟩ | ⟨g,cap,cur,rfl,hg,hc,h0,hm,hs,ht⟩
   ·exact .inl ⟨h0,a,0,rfl⟩
   ·exact .inr ⟨g,cap,cap,rfl,h0,by rw [Nat.zero_mul]⟩
  ·cases h
 ·rename_i b' sz lo' n'
  obtain ⟨r,m,cap,cap',h1,h0,rfl,h4,h5⟩:=hx
  split at h
  ·rename_i T' e' l' hb
   split at h
   ·rename_i hsz
    simp only [ada,Prod.mk.injEq] at h
    obtain ⟨rfl,rfl,rfl,rfl,rfl,rfl⟩:=h
    obtain ⟨xs,h2,h3⟩:=hh.own hb h1
    obtain ⟨cur,_,hm,_⟩:=h2.at h0
    subst hm
    exact ⟨_,xs,h1,h2,h3,h4,.inr ⟨r,cap,cap',rfl,h0,by rw [hsz]⟩⟩
   ·cases h
  ·cases h
 ·cases h
theorem FlatRel.cast {e e':List CSh} {l l':LD} {xs xs':List Value} (h:FlatRel Im w e l xs) (h1:e=e') (h2:l=l') (h3:xs=xs'):FlatRel Im w e' l' xs':=by subst h1 h2 h3;exact h
theorem LE {T:TypeId} {g cap:Nat} {e:List CSh} {l m:LD} {xs cs:List Value} {lo n:Nat} (he:0<e.length) (h2:OwnV w T e.length (.slice (some ⟨g,0,none⟩) l.length cap) l.length xs) (h0:0<cap) (h3:FlatRel Im w e l xs) (hlo:lo+n≤l.length) (hm:FlatRel Im w e (m.take n) cs):
  ∃ w' xs',(storeCells ⟨g,lo*e.length,none⟩ cs).run P w= .ok () w'∧w.grownBy w' (aB (.slice (some ⟨g,0,none⟩) l.length cap))∧w'.heap.size=w.heap.size∧OwnV w' T e.length (.slice (some ⟨g,0,none⟩) l.length cap) (gj l lo n m).length xs'∧FlatRel Im w e (gj l lo n m) xs':=by
 obtain ⟨cur,hg,_,hnc,hcm,hcs,ht⟩:=h2.at h0
 have hcl:cs.length=min n m.length*e.length:=by rw [hm.length,ajw]
 have hfit:lo*e.length+cs.length≤l.length*e.length:=by
  rw [hcl,← adS]
  exact apW _ (by omega)
 have hfit2:l.length*e.length≤cap*e.length:=apW _ hnc
 have hcl2:cur.toList.length=cap*e.length:=by simpa using hcs
 have hst:=run_storeCells_at P g (lo*e.length) T cs 0 cur w hg (by omega) hm.cells
 have hsl:(gj l lo n m).length=l.length:=by unfold gj;simp;omega
 refine ⟨_,xs.take (lo*e.length)++(cs++xs.drop (lo*e.length+cs.length)),hst,⟨rfl,rfl,rfl,by simp,fun k _ hk=>setRow_other w g k _ (fun he=>hk (by subst he;simp [aB];omega))⟩,by simp,?_,?_⟩
 ·rw [hsl]
  refine ⟨by have:=h2.1;simp;omega,.inr ⟨g,cap,_,rfl,setRow_heap w g _ _ _ _ hg,hnc,h0,hcm,by simp;omega,?_⟩⟩
  rw [← ht,ar7,Nat.add_zero]
  exact HS _ _ _ _ (by omega) (by omega)
 ·have s1:=(h3.split lo (by omega)).1
  have s2:=(h3.split (lo+min n m.length) (by omega)).2
  have:=s1.append (hm.append s2)
  refine this.cast rfl rfl ?_
  rw [hcl,adS]
theorem Pi {hp:List Blk} (hh:HV Im ι w hp) {T T2 ty:TypeId} {x y:SV} {vx vy:Value} (hx:VRel Im ι w x vx) (hy:VRel Im ι w y vy):
  bi P Im ι w ((do let v ← Builtin.copy_ #[T,T2] ty #[vx,vy];pure (.value v):Sem Next).run P w) (K3 P hp T x y):=by
 unfold K3
 split
 ·rename_i E b T' e l lo n hu hd
  obtain ⟨v,xs,hb,h2,h3,hlo,hv⟩:=DB hh hd hx
  split
  ·rename_i e2 m hs
   split
   ·rename_i hE
    split
    ·trivial
    ·rename_i he
     split
     ·rename_i hee
      have hee:=CSh.beqs_eq _ _ hee
      subst hee
      have hq:∃ i,P.info? E=some i∧i.size=e.length:=by
       obtain ⟨i,hi⟩:=dM (P:=P) (T:=E) (by omega)
       refine ⟨i,hi,?_⟩
       rw [← hE];simp [Program.cellsOf,hi]
      have hsrc:∃ a cap,vy= .slice a m.length cap∧(0<m.length→∃ ad ys,a=some ad∧FlatRel Im w e m ys∧∀ j x,ys[j]? =some x→w.cell? (ad.add j)=some x):=by
       unfold Tn at hs
       split at hs
       ·simp only [ada,Prod.mk.injEq] at hs
        obtain ⟨_,rfl⟩:=hs
        cases hy
        exact ⟨_,_,rfl,fun h=>by simp at h⟩
       ·simp only [ada,Prod.mk.injEq] at hs
        obtain ⟨_,rfl⟩:=hs
        obtain ⟨a,rfl⟩:=hy
        exact ⟨_,_,rfl,fun h=>by simp at h⟩
       ·obtain ⟨a,cap,k1,_,_,k2⟩:=sW hh hs hy
        exact ⟨a,cap,k1,k2⟩
      obtain ⟨a,scap,rfl,hm⟩:=hsrc
      have hcells:∃ cs,FlatRel Im w e (m.take n) cs∧cs.length=ats m.length n*e.length∧((a=none∧cs= [])∨∃ ad,a=some ad∧∀ j v,cs[j]? =some v→w.cell? (ad.add j)=some v):=by
       by_cases h0:m.length=0
       ·have:m= [] :=ath h0
        subst this
        refine ⟨[],by rw [List.take_nil];exact .nil _,by simp,?_⟩
        cases a with
        | none=>exact .inl ⟨rfl,rfl⟩
        | some ad=>exact .inr ⟨ad,rfl,fun j v h=>by simp at h⟩
       ·obtain ⟨ad,ys,rfl,k1,k2⟩:=hm (by omega)
        have hs2:=(k1.split (ats m.length n) (att _ _)).1
        refine ⟨_,hs2.cast rfl ?_ rfl,?_,.inr ⟨ad,rfl,fun j v hj=> ?_⟩⟩
        ·show m.take (min m.length n)=m.take n
         rw [Nat.min_comm,← List.take_take,List.take_length]
        ·have:=hs2.length
         rw [this,ajw]
         congr 1
         exact ato (att _ _)
        ·rw [aky] at hj
         split at hj
         ·exact k2 _ _ hj
         ·cases hj
      obtain ⟨cs,c1,c2,c3⟩:=hcells
      rcases hv with ⟨rfl,a',c',rfl⟩ | ⟨g,cap,c',rfl,h0,rfl⟩
      ·have hcs:cs= [] :=ath (by rw [c2];simp)
       subst hcs
       have hrun:=yR (P:=P) (w:=w) (w':=w) (sT:=T2) (ty:=ty) (base:=a') (a:=a) (dLen:=0) (dCap:=c') (sLen:=m.length) (sCap:=scap) hu hq c2 c3 (by cases a' <;>rfl)
       have hl:gj l lo 0 m=l:=by unfold gj;simp
       refine ⟨v,w,xs,_,hb,aJ hrun,⟨rfl,rfl,rfl,ar5 _,fun k _ _=>rfl⟩,rfl,?_,?_⟩
       ·rw [hl];exact h2
       ·rw [hl];exact h3
      ·obtain ⟨w',xs',k1,k2,k3,k4,k5⟩:=LE (P:=P) (m:=m) (by omega) h2 h0 h3 hlo c1
       have hrun:=yR (P:=P) (w:=w) (w':=w') (sT:=T2) (ty:=ty) (base:=some ⟨g,lo*e.length,none⟩) (a:=a) (dLen:=n) (dCap:=c') (sLen:=m.length) (sCap:=scap) hu hq c2 c3 k1
       exact ⟨_,w',xs',_,hb,aJ hrun,k2,k3,k4,k5⟩
     ·trivial
   ·trivial
  ·trivial
 ·trivial
theorem Mj {zero:TypeId→Option (List SV)} (hz:mn P zero) {hp:List Blk} (hh:HV Im ι w hp) {T ty:TypeId} {x:SV} {vx:Value} (hx:VRel Im ι w x vx):
  bi P Im ι w ((do let v ← Builtin.clear_ #[T] ty #[vx];pure (.value v):Sem Next).run P w) (FA P hp zero T x):=by
 unfold FA
 split
 ·rename_i E b T' e l lo n hu hd
  obtain ⟨v,xs,hb,h2,h3,hlo,hv⟩:=DB hh hd hx
  split
  ·rename_i z hzE
   split
   ·rename_i row hrow
    split
    ·trivial
    ·rename_i he
     obtain ⟨i,zv,g1,g2,g3,g4⟩:=hz E z hzE
     have hrr:=qA hrow (pG (g4 Im ι w))
     have hsz:zv.cells.size=e.length:=by simpa using hrr.length.1
     have none_case:n=0→(∃ a c,vx= .slice a 0 c)→bi P Im ι w ((do let v ← Builtin.clear_ #[T] ty #[vx];pure (.value v):Sem Next).run P w) (.cpy b (.own T' e (gj l lo n (ab0 n row)))):=by
      rintro rfl ⟨a,c,rfl⟩
      have hl:gj l lo 0 (ab0 0 row)=l:=by unfold gj;simp
      refine ⟨v,w,xs,.tuple #[],hb,?_,⟨rfl,rfl,rfl,ar5 _,fun k _ _=>rfl⟩,rfl,?_,?_⟩
      ·cases a <;>simp [Builtin.clear_,run_underlying hu]
      ·rw [hl];exact h2
      ·rw [hl];exact h3
     rcases hv with ⟨h0,hv⟩ | ⟨g,cap,c',rfl,h0,rfl⟩
     ·exact none_case h0 hv
     ·cases n with
      | zero=>exact none_case rfl ⟨_,_,rfl⟩
      | succ n=>
       have hfl:=lB hrr (n+1)
       obtain ⟨w',xs',k1,k2,k3,k4,k5⟩:=LE (P:=P) (m:=ab0 (n+1) row) (by omega) h2 h0 h3 hlo (hfl.cast rfl (by rw [List.take_replicate,Nat.min_self]) rfl)
       refine ⟨_,w',xs',.tuple #[],hb,?_,k2,k3,k4,k5⟩
       have hzl:(Builtin.zeroCells zv.cells (n+1)).toList=(ab0 (n+1) zv.cells.toList).flatten:=by
        rw [← zj (by omega)]
        simp [Builtin.zeroCells]
       have hzv:(zeroValue E).run P w= .ok zv w:=by simp [zeroValue,typeInfo,g1,g2]
       simp [Builtin.clear_,run_underlying hu,hzv,hzl,k1]
   ·trivial
  ·trivial
 ·trivial
theorem HL {zero:TypeId→Option (List SV)} (hz:mn P zero) {hp:List Blk} (hh:HV Im ι w hp) {b:Builtin} {Ts:List TypeId} {ty:TypeId} {consts:Array Bool} {xs:List SV} {vs:List Value} (hx:VRels Im ι w xs vs):
  bi P Im ι w ((builtin b Ts.toArray ty consts vs.toArray).run P w) (ye P hp zero b Ts xs):=by
 unfold ye
 split
 ·rename_i T x
  obtain ⟨vx,vs',rfl,h1,h2⟩:=hx
  cases (show vs'= [] from h2)
  split
  ·rename_i n E x' hu
   exact ⟨_,by simp [builtin,Builtin.len_,run_underlying hu];rfl,rfl⟩
  ·rename_i l hu
   obtain ⟨rfl,hl⟩:=h1
   exact ⟨by simpa [maxLen] using hl,_,by simp [builtin,Builtin.len_,run_underlying hu,il];rfl,rfl⟩
  ·rename_i E hu
   refine SU hh h1 (fun n a c hn=> ?_)
   subst hn
   simp [builtin,Builtin.len_,run_underlying hu]
  ·trivial
 ·rename_i T T2 x y
  obtain ⟨vx,vs',rfl,h1,vy,vs'',rfl,h2,h3⟩:=hx
  cases (show vs''= [] from h3)
  exact Lc hz hh h1 h2
 ·rename_i T T2 x y
  obtain ⟨vx,vs',rfl,h1,vy,vs'',rfl,h2,h3⟩:=hx
  cases (show vs''= [] from h3)
  have:=Pi (P:=P) (T:=T) (T2:=T2) (ty:=ty) hh h1 h2
  simpa [builtin] using this
 ·rename_i T x
  obtain ⟨vx,vs',rfl,h1,h2⟩:=hx
  cases (show vs'= [] from h2)
  have:=Mj (P:=P) (T:=T) (ty:=ty) hz hh h1
  simpa [builtin] using this
 ·rename_i k a k' b'
  obtain ⟨vx,vs',rfl,h1,vy,vs'',rfl,h2,h3⟩:=hx
  cases (show vs''= [] from h3)
  cases h1
  cases h2
  split
  ·rename_i hk
   subst hk
   refine ⟨.int k (min a b'),?_,rfl⟩
   have:(if b'<a then b' else a)=min a b':=by rw [Int.min_def];split <;>split <;>omega
   simp [builtin,Builtin.min_,Builtin.min2,this]
  ·trivial
 ·rename_i k a k' b'
  obtain ⟨vx,vs',rfl,h1,vy,vs'',rfl,h2,h3⟩:=hx
  cases (show vs''= [] from h3)
  cases h1
  cases h2
  split
  ·rename_i hk
   subst hk
   refine ⟨.int k (max a b'),?_,rfl⟩
   have:(if a<b' then b' else a)=max a b':=by rw [Int.max_def];split <;>split <;>omega
   simp [builtin,Builtin.max_,Builtin.max2,this]
  ·trivial
 ·trivial
end
section
variable {P:Program} {Im:Nat→Prop} {ι:Nat→Option Value} {w:World}
theorem RB (op:BinOp) (T:TypeId) (k:IntKind) (a b:Int):binOp op T (.int k a) (.int k b)=binOp op 0 (.int k a) (.int k b):=by cases op <;>simp [binOp]
theorem Pw (P:Program):∃ n,P.depth=n+2:=⟨2*(P.types.size+Made.depth),rfl⟩
theorem Me (P:Program):∃ n,P.depth=n+3:=by
 refine ⟨2*(P.types.size+Made.depth)-1,?_⟩
 show 2*(P.types.size+100)+2=2*(P.types.size+100)-1+3
 omega
theorem aO {op:BinOp} {T:TypeId} {x y:Operand} {a b:Value} (h:(∀ c d,¬ (a= .agg c∧b= .agg d))∧¬ (a= .nilIface∧b= .nilIface)):(eqGuard op T x y a b).run P w= .ok () w:=by
 unfold eqGuard
 cases op <;>cases a <;>cases b <;>first
  | rfl
  | (exfalso;exact h.1 _ _ ⟨rfl,rfl⟩)
  | (exfalso;exact h.2 ⟨rfl,rfl⟩)
theorem tt {op:BinOp} {T:TypeId} {x y:Operand} {a b:Array Value} (h:P.eqGuardType P.depth T=false):(eqGuard op T x y (.agg a) (.agg b)).run P w= .ok () w:=by
 unfold eqGuard
 cases op <;>first
  | rfl
  | simp [h]
theorem wi:∀ {fs:List Field} {j:Nat} {cs ds:List SV} {r:Bool} {pa pb va vb:List Value} {d:Nat},cb P fs j cs ds=some r→CellsRel Im ι w cs va→CellsRel Im ι w ds vb→pa.length=j→pb.length=j→
  (Op.eqFields (d+1) (pa++va).toArray (pb++vb).toArray fs).run P w= .ok r w
 | [],j,[],[],r,pa,pb,va,vb,d,h,h1,h2,_,_=>by
  simp only [cb,ada] at h
  subst h
  rfl
 | f::fs,j,c::cs,e::ds,r,pa,pb,va,vb,d,h,h1,h2,hpa,hpb=>by
  unfold cb at h
  split at h
  ·rename_i hoff
   split at h
   ·cases h
   ·rename_i hname
    have step:∀ (x y:Value) (va' vb':List Value) (q:Bool) (u:TypeDesc),va=x::va'→vb=y::vb'→P.underlying f.type=some u→jz P f.type=some false→
      (Op.equalIn (d+1) f.type x y).run P w= .ok q w→∀ r',(Op.eqFields (d+1) (pa++va).toArray (pb++vb).toArray fs).run P w= .ok r' w→
      (Op.eqFields (d+1) (pa++va).toArray (pb++vb).toArray (f::fs)).run P w= .ok (q&&r') w:=by
     intro x y va' vb' q u hva hvb hu hag hq r' hr'
     have g1:(pa++va).toArray[f.offset]? =some x:=by rw [hva,hoff];simp [← hpa]
     have g2:(pb++vb).toArray[f.offset]? =some y:=by rw [hvb,hoff];simp [← hpb]
     unfold Op.eqFields
     rw [if_pos hname]
     simp only [Sem.run_bind,fJ hag g1,fJ hag g2,Result.andThen_ok,hq,Sem.run_ite,Sem.run_pure]
     cases q <;>simp [hr']
    have rest:∀ (x y:Value) (va' vb':List Value) (r':Bool),va=x::va'→vb=y::vb'→CellsRel Im ι w cs va'→CellsRel Im ι w ds vb'→cb P fs (j+1) cs ds=some r'→
      (Op.eqFields (d+1) (pa++va).toArray (pb++vb).toArray fs).run P w= .ok r' w:=by
     intro x y va' vb' r' hva hvb k1 k2 k3
     have:=wi (pa:=pa++ [x]) (pb:=pb++ [y]) (d:=d) k3 k1 k2 (by simp [hpa]) (by simp [hpb])
     rw [hva,hvb]
     simpa using this
    split at h
    ·rename_i k0 k a k' b hu
     split at h
     ·rename_i hk
      subst hk
      split at h
      ·rename_i r' hr'
       simp only [ada] at h
       subst h
       obtain ⟨xa,va',rfl,_,k1,k2⟩:=bm h1
       obtain ⟨x,rfl,hx⟩:=bD (s:= .int k a) rfl k1
       cases hx
       obtain ⟨xb,vb',rfl,_,k3,k4⟩:=bm h2
       obtain ⟨y,rfl,hy⟩:=bD (s:= .int k b) rfl k3
       cases hy
       refine step _ _ va' vb' _ _ rfl rfl hu (by simp [jz,hu]) ?_ r' (rest _ _ va' vb' r' rfl rfl k2 k4 hr')
       simp [Op.equalIn,run_underlying hu]
       rfl
      ·cases h
     ·cases h
    ·rename_i a b hu
     split at h
     ·rename_i r' hr'
      simp only [ada] at h
      subst h
      obtain ⟨xa,va',rfl,_,k1,k2⟩:=bm h1
      obtain ⟨x,rfl,hx⟩:=bD (s:= .bool a) rfl k1
      cases hx
      obtain ⟨xb,vb',rfl,_,k3,k4⟩:=bm h2
      obtain ⟨y,rfl,hy⟩:=bD (s:= .bool b) rfl k3
      cases hy
      refine step _ _ va' vb' _ _ rfl rfl hu (by simp [jz,hu]) ?_ r' (rest _ _ va' vb' r' rfl rfl k2 k4 hr')
      simp [Op.equalIn,run_underlying hu]
      rfl
     ·cases h
    ·rename_i a b hu
     split at h
     ·rename_i r' hr'
      simp only [ada] at h
      subst h
      obtain ⟨xa,va',rfl,_,k1,k2⟩:=bm h1
      obtain ⟨x,rfl,hx⟩:=bD (s:= .str a) rfl k1
      obtain ⟨rfl,_⟩:=hx
      obtain ⟨xb,vb',rfl,_,k3,k4⟩:=bm h2
      obtain ⟨y,rfl,hy⟩:=bD (s:= .str b) rfl k3
      obtain ⟨rfl,_⟩:=hy
      refine step _ _ va' vb' _ _ rfl rfl hu (by simp [jz,hu]) ?_ r' (rest _ _ va' vb' r' rfl rfl k2 k4 hr')
      have hb:((⟨a.toArray⟩:ByteArray)==⟨b.toArray⟩)=decide (a=b):=by
       rw [beq_toListBytes,ByteArray.toList_eq,ByteArray.toList_eq]
       simp only [ar7]
       by_cases hab:a=b
       ·subst hab;simp
       ·rw [decide_eq_false hab];exact beq_eq_false_iff_ne.2 hab
      simp [Op.equalIn,run_underlying hu,hb]
     ·cases h
    ·cases h
  ·cases h
 | [],_,[],_::_,_,_,_,_,_,_,h,_,_,_,_=>by simp [cb] at h
 | [],_,_::_,_,_,_,_,_,_,_,h,_,_,_,_=>by simp [cb] at h
 | _::_,_,[],_,_,_,_,_,_,_,h,_,_,_,_=>by simp [cb] at h
 | _::_,_,_::_,[],_,_,_,_,_,_,h,_,_,_,_=>by simp [cb] at h
theorem vh:∀ {fs:List Field} {j:Nat} {cs ds:List SV} {r:Bool} {n:Nat},cb P fs j cs ds=some r→(fs.any fun f=>f.name != "_" &&P.eqGuardType (n+1) f.type)=false
 | [],_,_,_,_,_,_=>rfl
 | f::fs,j,c::cs,e::ds,r,n,h=>by
  unfold cb at h
  split at h
  ·split at h
   ·cases h
   ·have sub:∀ {r':Bool},cb P fs (j+1) cs ds=some r'→P.eqGuardType (n+1) f.type=false→((f::fs).any fun f=>f.name != "_" &&P.eqGuardType (n+1) f.type)=false:=by
     intro r' hr' hg
     rw [List.any_cons,hg,Bool.and_false,Bool.false_or]
     exact vh hr'
    split at h
    ·rename_i hu
     split at h
     ·split at h
      ·rename_i hr'
       exact sub hr' (by simp [Program.eqGuardType,hu])
      ·cases h
     ·cases h
    ·rename_i hu
     split at h
     ·rename_i hr'
      exact sub hr' (by simp [Program.eqGuardType,hu])
     ·cases h
    ·rename_i hu
     split at h
     ·rename_i hr'
      exact sub hr' (by simp [Program.eqGuardType,hu])
     ·cases h
    ·cases h
  ·cases h
 | _::_,_,[],_,_,_,h=>by simp [cb] at h
 | _::_,_,_::_,[],_,_,h=>by simp [cb] at h
theorem rS {E:TypeId} {k0 k:IntKind} (hE:P.underlying E=some (.int k0)) (l l':List Int) (d:Nat):∀ is:List Nat,(∀ i∈is,i<l.length∧i<l'.length)→
  (Op.eqItems (d+1) E 1 (l.map (Value.int k)).toArray (l'.map (Value.int k)).toArray is).run P w= .ok (is.all fun i=>decide (l.getD i 0=l'.getD i 0)) w
 | [],_=>by simp [Op.eqItems]
 | i::is,h=>by
  have hi:=h i (by simp)
  have ih:=rS (k:=k) hE l l' d is (fun j hj=>h j (by simp [hj]))
  have px:(part E (l.map (Value.int k)).toArray (i*1)).run P w= .ok (.int k (l.getD i 0)) w:=fJ (by simp [jz,hE]) (by simp [arY,cH hi.1])
  have py:(part E (l'.map (Value.int k)).toArray (i*1)).run P w= .ok (.int k (l'.getD i 0)) w:=fJ (by simp [jz,hE]) (by simp [arY,cH hi.2])
  have pe:(Op.equalIn (d+1) E (.int k (l.getD i 0)) (.int k (l'.getD i 0))).run P w= .ok (decide (l.getD i 0=l'.getD i 0)) w:=by
   simp [Op.equalIn,run_underlying hE]
   rfl
  simp only [Op.eqItems,Sem.run_bind,px,py,pe,Result.andThen_ok,List.all_cons]
  cases decide (l.getD i 0=l'.getD i 0) <;>simp [ih]
theorem U0 {l l':List Int} {n:Nat} (h1:l.length=n) (h2:l'.length=n):((asg n).all fun i=>decide (l.getD i 0=l'.getD i 0))=decide (l=l'):=by
 by_cases h:l=l'
 ·subst h;simp
 ·rw [decide_eq_false h,List.all_eq_false]
  refine Classical.byContradiction fun hn=>h ?_
  apply List.ext_getElem (h1.trans h2.symm)
  intro i hi hi'
  have:¬ ¬ decide (l.getD i 0=l'.getD i 0)=true:=fun hc=>hn ⟨i,atu.2 (by omega),hc⟩
  simpa [arY,hi,hi'] using this
theorem sY {T E:TypeId} {n:Nat} {k0 k:IntKind} (hu:P.underlying T=some (.array n E)) (hE:P.underlying E=some (.int k0)) (hsz:P.cellsOf E=1) {l l':List Int} (h1:l.length=n) (h2:l'.length=n) (d:Nat):
  (Op.equalIn (d+2) T (.agg (l.map (Value.int k)).toArray) (.agg (l'.map (Value.int k)).toArray)).run P w= .ok (decide (l=l')) w:=by
 obtain ⟨i,hi⟩:=cr hE
 rw [run_equalIn_array w (d+1) _ _ hu hi,hsz,rS hE l l' d _ (fun j hj=>by have:=atu.1 hj;omega),U0 h1 h2]
theorem Qz {fs:List Field} {cs ds:List SV} {r:Bool} {va vb:List Value} (h:OU P fs cs ds=some r) (h1:CellsRel Im ι w cs va) (h2:CellsRel Im ι w ds vb):
  (∀ d,(Op.eqFields (d+2) va.toArray vb.toArray fs).run P w= .ok r w)∧∀ n,(fs.any fun f=>f.name != "_" &&P.eqGuardType (n+2) f.type)=false:=by
 unfold OU at h
 split at h
 ·rename_i f m k l m' k' l'
  split at h
  ·rename_i h0
   split at h
   ·cases h
   ·rename_i hname
    split at h
    ·rename_i n E hu
     split at h
     ·rename_i k0 hE
      split at h
      ·rename_i hm
       split at h
       ·rename_i hm'
        split at h
        ·rename_i hk
         split at h
         ·rename_i hsz
          split at h
          ·rename_i hc
           simp only [ada] at h
           subst h hk
           obtain ⟨e1,vz,rfl,hz⟩:=aD h1
           cases (show vz= [] from hz)
           obtain ⟨e2,vz',rfl,hz'⟩:=aD h2
           cases (show vz'= [] from hz')
           simp only [aiz]
           have e1':=e1.trans hm
           have e2':=e2.trans hm'
           have pt:∀ l:List Int,l.length=n→(part f.type (l.map (Value.int k)).toArray f.offset).run P w= .ok (.agg (l.map (Value.int k)).toArray) w:=fun l hl=>by
            have hag:jz P f.type=some true:=by simp [jz,hu]
            unfold part
            simp only [Sem.run_bind,qs hag,Result.andThen_ok,if_true,xK hu,Sem.run_pure,h0,aeE]
            congr 2
            rw [hc,← hl]
            simp [agv]
           refine ⟨fun d=> ?_,fun n=>by simp [Program.eqGuardType,hu,hE]⟩
           simp only [Op.eqFields]
           rw [if_pos hname]
           simp only [Sem.run_bind,pt l e1',pt l' e2',Result.andThen_ok,sY hu hE hsz e1' e2' d,Sem.run_ite,Sem.run_pure]
           cases decide (l=l') <;>rfl
          ·cases h
         ·cases h
        ·cases h
       ·cases h
      ·cases h
     ·cases h
    ·cases h
  ·cases h
 ·cases h
theorem G9 {T:TypeId} {cs ds:List SV} {r:Bool} {va vb:List Value} (h:Iw P T cs ds=some r) (h1:CellsRel Im ι w cs va) (h2:CellsRel Im ι w ds vb):
  (Op.equal T (.agg va.toArray) (.agg vb.toArray)).run P w= .ok r w∧P.eqGuardType P.depth T=false:=by
 obtain ⟨dd,hdd⟩:=Pw P
 unfold Iw at h
 split at h
 ·rename_i n E hu
  split at h
  ·rename_i k0 m k l m' k' l' hE
   split at h
   ·rename_i hm
    split at h
    ·rename_i hm'
     split at h
     ·rename_i hk
      split at h
      ·rename_i hsz
       simp only [ada] at h
       subst h hk hm hm'
       obtain ⟨e1,vz,rfl,hz⟩:=aD h1
       cases (show vz= [] from hz)
       obtain ⟨e2,vz',rfl,hz'⟩:=aD h2
       cases (show vz'= [] from hz')
       simp only [aiz]
       exact ⟨sY hu hE hsz e1 e2 9998,by rw [hdd];simp [Program.eqGuardType,hu,hE]⟩
      ·cases h
     ·cases h
    ·cases h
   ·cases h
  ·cases h
 ·rename_i fs hu
  split at h
  ·rename_i hst
   have hf:P.fieldsOf T=fs:=by simp [Program.fieldsOf,hu]
   split at h
   ·rename_i r1 hr1
    cases h
    obtain ⟨h3,h5⟩:=Qz hr1 h1 h2
    have h4:=run_equalIn_struct (P:=P) w 9999 T va.toArray vb.toArray (by rw [hf];exact hu) hst
    rw [hf] at h4
    refine ⟨h4.trans (h3 9997),?_⟩
    obtain ⟨d3,hd3⟩:=Me P
    rw [hd3]
    simp only [Program.eqGuardType,hu]
    rw [← atv]
    exact h5 d3
   have h3:=wi (pa:= []) (pb:= []) (d:=9998) h h1 h2 rfl rfl
   have h4:=run_equalIn_struct (P:=P) w 9999 T va.toArray vb.toArray (by rw [hf];exact hu) hst
   rw [hf] at h4
   refine ⟨h4.trans (by simpa using h3),?_⟩
   rw [hdd]
   have h5:=vh (n:=dd) h
   simp only [Program.eqGuardType,hu]
   rw [← atv]
   exact h5
  ·cases h
 ·cases h
theorem yf (d:Nat) {T E:TypeId} (hu:P.underlying T=some (.pointer E)) (o:Option Addr):(Op.equalIn (d+1) T (.pointer o) (.pointer none)).run P w= .ok o.isNone w:=by
 cases o <;>simp [Op.equalIn,run_underlying hu]
theorem zA (d:Nat) {T E:TypeId} (hu:P.underlying T=some (.slice E)) (o:Option Addr) (n c:Nat):(Op.equalIn (d+1) T (.slice o n c) (.slice none 0 0)).run P w= .ok o.isNone w:=by
 cases o <;>simp [Op.equalIn,run_underlying hu]
def D3 (neg b:Bool):Bool:=if neg then !b else b
def Ql (neg:Bool) (r:OR):OR:=if neg then Fc r else r
theorem C3 {x:SV} {vx:Value} (hx:VRel Im ι w x vx) {run:Result Next} (neg:Bool)
  (hr:∀ o:Option Addr,vx= .pointer o→run= .ok (.value (.bool (D3 neg o.isNone))) w):bi P Im ι w run (Ql neg (DI x)):=by
 unfold DI
 split
 ·cases hx
  have:=hr none rfl
  cases neg <;>exact ⟨_,this,rfl⟩
 ·obtain ⟨r,_,rfl⟩:=hx
  have:=hr _ rfl
  cases neg <;>exact ⟨_,this,rfl⟩
 ·obtain ⟨r,_,rfl⟩:=hx
  have:=hr _ rfl
  cases neg <;>exact ⟨_,this,rfl⟩
 ·obtain ⟨r,_,rfl,_⟩:=hx
  have:=hr _ rfl
  cases neg <;>exact ⟨_,this,rfl⟩
 ·obtain ⟨r,_,_,_,_,rfl⟩:=hx
  have:=hr _ rfl
  cases neg <;>exact ⟨_,this,rfl⟩
 ·cases neg <;>trivial
theorem An (d:Nat) {T:TypeId} {a b c} (hu:P.underlying T=some (.func a b c)):(Op.equalIn (d+1) T .nilFunc .nilFunc).run P w= .ok true w:=by
 simp [Op.equalIn,run_underlying hu]
theorem yW (d:Nat) {T:TypeId} {a b c} (hu:P.underlying T=some (.func a b c)) (f:Fn) (x y:Array Value):(Op.equalIn (d+1) T (.func f x y) .nilFunc).run P w= .ok false w:=by
 simp [Op.equalIn,run_underlying hu]
theorem Ex {x:SV} {vx:Value} (hx:VRel Im ι w x vx) {run:Result Next} (neg:Bool)
  (hr:vx= .nilFunc→run= .ok (.value (.bool (D3 neg true))) w) (hr2:∀ f a b,vx= .func f a b→run= .ok (.value (.bool (D3 neg false))) w):bi P Im ι w run (Ql neg (DK x)):=by
 unfold DK
 split
 ·cases hx
  have:=hr rfl
  cases neg <;>exact ⟨_,this,rfl⟩
 ·obtain ⟨vs,rfl,_⟩:=hx
  have:=hr2 _ _ _ rfl
  cases neg <;>exact ⟨_,this,rfl⟩
 ·obtain ⟨vs,rfl,_⟩:=hx
  have:=hr2 _ _ _ rfl
  cases neg <;>exact ⟨_,this,rfl⟩
 ·cases neg <;>trivial
theorem DG {x:SV} {vx:Value} (hx:VRel Im ι w x vx) {run:Result Next} (neg:Bool)
  (hr:∀ (o:Option Addr) n c,vx= .slice o n c→run= .ok (.value (.bool (D3 neg o.isNone))) w):bi P Im ι w run (Ql neg (DT x)):=by
 unfold DT
 split
 ·cases hx
  have:=hr none _ _ rfl
  cases neg <;>exact ⟨_,this,rfl⟩
 ·obtain ⟨a,rfl⟩:=hx
  have:=hr _ _ _ rfl
  cases neg <;>exact ⟨_,this,trivial⟩
 ·rename_i e l
  have key:∃ o n c,vx= .slice o n c∧(o.isNone=true→l= []):=by
   obtain ⟨a,cap,h1,_,_,h4⟩:=CRel.slice hx
   refine ⟨a,_,cap,h1,fun ha=> ?_⟩
   cases l with
   | nil=>rfl
   | cons r rs=>
    obtain ⟨ad,xs,rfl,_⟩:=h4 (by simp)
    simp at ha
  obtain ⟨o,n,c,rfl,hl⟩:=key
  have:=hr _ _ _ rfl
  cases neg
  ·exact ⟨_,this,hl⟩
  ·exact ⟨_,this,fun h=>hl (by simpa [D3] using h)⟩
 ·cases neg <;>trivial
theorem Hu (a b:List UInt8):((⟨a.toArray⟩:ByteArray).toList==(⟨b.toArray⟩:ByteArray).toList)=decide (a=b):=by
 rw [ByteArray.toList_eq,ByteArray.toList_eq]
 simp only [ar7]
 by_cases hab:a=b
 ·subst hab;simp
 ·rw [decide_eq_false hab];exact beq_eq_false_iff_ne.2 hab
theorem Jw (a b:List UInt8):(⟨a.toArray⟩:ByteArray)++⟨b.toArray⟩=⟨(a++b).toArray⟩:=by
 have hd:((⟨a.toArray⟩:ByteArray)++⟨b.toArray⟩).data=(⟨(a++b).toArray⟩:ByteArray).data:=by
  rw [ByteArray.data_append];simp
 cases h1:(⟨a.toArray⟩:ByteArray)++⟨b.toArray⟩
 rw [h1] at hd
 exact congrArg ByteArray.mk hd
theorem cK {op:BinOp} {T:TypeId} {x y:Operand} {a b v:Value} (h1:(eqGuard op T x y a b).run P w= .ok () w) (h2:(binOp op T a b).run P w= .ok v w):
  ((do let r ← (do eqGuard op T x y a b;binOp op T a b:Sem Value);pure (.value r):Sem Next)).run P w= .ok (.value v) w:=by
 simp [h1,h2]
theorem SR {op:BinOp} {T:TypeId} {x y:Operand} {a b:Value} {r:OR} (h1:(eqGuard op T x y a b).run P w= .ok () w) (h2:bi P Im ι w ((do let r ← binOp op T a b;pure (.value r):Sem Next).run P w) r):
  bi P Im ι w ((do let r ← (do eqGuard op T x y a b;binOp op T a b:Sem Value);pure (.value r):Sem Next).run P w) r:=by
 have e:((do let r ← (do eqGuard op T x y a b;binOp op T a b:Sem Value);pure (.value r):Sem Next)).run P w=(do let r ← binOp op T a b;pure (.value r):Sem Next).run P w:=by simp [h1]
 rw [e];exact h2
theorem TC {hp:List Blk} {op:BinOp} {T:TypeId} {ox oy:Operand} {x y:SV} {vx vy:Value} (hx:VRel Im ι w x vx) (hy:VRel Im ι w y vy):
  bi P Im ι w ((do let r ← (do eqGuard op T ox oy vx vy;binOp op T vx vy:Sem Value);pure (.value r):Sem Next).run P w) (OQ P hp op T x y):=by
 unfold OQ
 split
 ·rename_i k a k' b
  cases hx
  cases hy
  intro h0
  have h1:¬ b<0:=by omega
  exact ⟨_,cK (aO (by simp)) (by simp [binOp,Op.shift,h1];rfl),rfl⟩
 ·rename_i k a k' b
  cases hx
  cases hy
  intro h0
  have h1:¬ b<0:=by omega
  exact ⟨_,cK (aO (by simp)) (by simp [binOp,Op.shift,h1];rfl),rfl⟩
 ·rename_i op' k a k' b h1 h2
  cases hx
  cases hy
  split
  ·rename_i hk
   subst hk
   refine SR (aO (by simp)) ?_
   rw [RB]
   exact RG ⟨h1,h2⟩
  ·trivial
 ·rename_i a b
  cases hx
  cases hy
  split
  ·rename_i hu
   exact ⟨_,cK (aO (by simp)) (by simp [binOp,run_equal_bool (P:=P) w T a b hu]),rfl⟩
  ·trivial
 ·rename_i a b
  cases hx
  cases hy
  split
  ·rename_i hu
   exact ⟨_,cK (aO (by simp)) (by simp [binOp,run_equal_bool (P:=P) w T a b hu];rfl),by cases a <;>cases b <;>rfl⟩
  ·trivial
 ·rename_i a b
  obtain ⟨rfl,_⟩:=hx
  obtain ⟨rfl,_⟩:=hy
  exact ⟨.bool (decide (a=b)),cK (aO (by simp)) (by simp only [binOp,Op.stringOp,Hu,Sem.run_pure]),rfl⟩
 ·rename_i a b
  obtain ⟨rfl,_⟩:=hx
  obtain ⟨rfl,_⟩:=hy
  exact ⟨.bool (decide (a≠b)),cK (aO (by simp)) (by simp only [binOp,Op.stringOp,Hu,Sem.run_pure,decide_not,ne_eq]),rfl⟩
 ·rename_i a b
  obtain ⟨rfl,_⟩:=hx
  obtain ⟨rfl,_⟩:=hy
  intro hn
  have h1:¬ (((⟨a.toArray⟩:ByteArray).size+(⟨b.toArray⟩:ByteArray).size:Nat):Int) > IntKind.i64.max:=by
   rw [il,il]
   simp [IntKind.max,IntKind.signed,IntKind.bits]
   omega
  refine ⟨.string ⟨(a++b).toArray⟩,cK (aO (by simp)) ?_,rfl,by simp [maxLen];omega⟩
  simp only [binOp,Op.stringOp,if_neg h1,Jw,Sem.run_pure]
 ·rename_i cs ds
  obtain ⟨va,rfl,h1⟩:=hx
  obtain ⟨vb,rfl,h2⟩:=hy
  split
  ·rename_i r hr
   obtain ⟨h3,h4⟩:=G9 hr h1 h2
   exact ⟨_,cK (tt h4) (by simp [binOp,h3]),rfl⟩
  ·trivial
 ·rename_i cs ds
  obtain ⟨va,rfl,h1⟩:=hx
  obtain ⟨vb,rfl,h2⟩:=hy
  split
  ·rename_i r hr
   obtain ⟨h3,h4⟩:=G9 hr h1 h2
   exact ⟨_,cK (tt h4) (by simp [binOp,h3]),rfl⟩
  ·trivial
 ·rename_i x'
  cases hy
  split
  ·rename_i E hu
   refine C3 hx false (fun o ho=> ?_)
   subst ho
   have h:=yf (w:=w) 9999 hu o
   exact cK (aO (by simp)) (by simp only [binOp,Sem.run_bind];rw [show (Op.equal T (.pointer o) (.pointer none)).run P w= .ok o.isNone w from h];rfl)
  ·trivial
 ·rename_i x'
  cases hy
  split
  ·rename_i E hu
   refine C3 hx true (fun o ho=> ?_)
   subst ho
   have h:=yf (w:=w) 9999 hu o
   exact cK (aO (by simp)) (by simp only [binOp,Sem.run_bind];rw [show (Op.equal T (.pointer o) (.pointer none)).run P w= .ok o.isNone w from h];rfl)
  ·trivial
 ·rename_i x'
  cases hy
  split
  ·rename_i a b c hu
   refine Ex hx false (fun ho=> ?_) fun f x y ho=> ?_
   ·subst ho
    have h:=An (w:=w) 9999 hu
    exact cK (aO (by simp)) (by simp only [binOp,Sem.run_bind];rw [show (Op.equal T .nilFunc .nilFunc).run P w= .ok true w from h];rfl)
   ·subst ho
    have h:=yW (w:=w) 9999 hu f x y
    exact cK (aO (by simp)) (by simp only [binOp,Sem.run_bind];rw [show (Op.equal T (.func f x y) .nilFunc).run P w= .ok false w from h];rfl)
  ·trivial
 ·rename_i x'
  cases hy
  split
  ·rename_i a b c hu
   refine Ex hx true (fun ho=> ?_) fun f x y ho=> ?_
   ·subst ho
    have h:=An (w:=w) 9999 hu
    exact cK (aO (by simp)) (by simp only [binOp,Sem.run_bind];rw [show (Op.equal T .nilFunc .nilFunc).run P w= .ok true w from h];rfl)
   ·subst ho
    have h:=yW (w:=w) 9999 hu f x y
    exact cK (aO (by simp)) (by simp only [binOp,Sem.run_bind];rw [show (Op.equal T (.func f x y) .nilFunc).run P w= .ok false w from h];rfl)
  ·trivial
 ·rename_i x'
  cases hy
  split
  ·rename_i E hu
   refine DG hx false (fun o n c ho=> ?_)
   subst ho
   have h:=zA (w:=w) 9999 hu o n c
   exact cK (aO (by simp)) (by simp only [binOp,Sem.run_bind];rw [show (Op.equal T (.slice o n c) (.slice none 0 0)).run P w= .ok o.isNone w from h];rfl)
  ·trivial
 ·rename_i x'
  cases hy
  split
  ·rename_i E hu
   refine DG hx true (fun o n c ho=> ?_)
   subst ho
   have h:=zA (w:=w) 9999 hu o n c
   exact cK (aO (by simp)) (by simp only [binOp,Sem.run_bind];rw [show (Op.equal T (.slice o n c) (.slice none 0 0)).run P w= .ok o.isNone w from h];rfl)
  ·trivial
 ·trivial
theorem T7 {op:UnOp} {x:SV} {vx:Value} (hx:VRel Im ι w x vx):bi P Im ι w ((do let r ← Op.unary op vx;pure (.value r):Sem Next).run P w) (UZ op x):=by
 unfold UZ
 split
 ·cases hx
  exact ⟨_,by simp [Op.unary],rfl⟩
 ·cases hx
  exact pZ (by simp [Op.unary,Op.intArith])
 ·trivial
end
section
variable {P:Program} {Im:Nat→Prop} {ι:Nat→Option Value} {w:World}
theorem nl {ρ:Operand→SV} {e:Operand→Value} :∀ (xs:List Operand),(∀ x∈xs,VRel Im ι w (ρ x) (e x))→VRels Im ι w (xs.map ρ) (xs.map e)
 | [],_=>rfl
 | x::xs,h=>⟨_,_,rfl,h x (by simp),nl xs fun y hy=>h y (by simp [hy])⟩
theorem sU:∀ {xs ys:List SV} {us vs:List Value},VRels Im ι w xs us→VRels Im ι w ys vs→VRels Im ι w (xs++ys) (us++vs)
 | [],ys,us,vs,h,k=>by cases (show us= [] from h);exact k
 | x::xs,ys,us,vs,h,k=>by
  obtain ⟨v,us',rfl,h1,h2⟩:=h
  exact ⟨v,us'++vs,rfl,h1,sU h2 k⟩
theorem GY:∀ {xs:List SV} {us:List Value},VRels Im ι w xs us→∀ (i:Nat) (s:SV),xs[i]? =some s→∃ v,us[i]? =some v∧VRel Im ι w s v
 | [],us,h,i,s,hi=>by simp at hi
 | x::xs,us,h,0,s,hi=>by
  obtain ⟨v,us',rfl,h1,h2⟩:=h
  simp only [List.getElem?_cons_zero,ada] at hi
  subst hi
  exact ⟨v,rfl,h1⟩
 | x::xs,us,h,i+1,s,hi=>by
  obtain ⟨v,us',rfl,h1,h2⟩:=h
  simpa using GY h2 i s (by simpa using hi)
theorem tb {ρ:Operand→SV} {e:Operand→Value} :∀ (xs:List (Nat×Operand)),(∀ x∈xs.map (·.2),VRel Im ι w (ρ x) (e x))→jH Im ι w (xs.map fun (i,x)=>(i,ρ x)) (xs.map fun (i,x)=>(i,e x))
 | [],_=>rfl
 | (i,x)::xs,h=>⟨_,_,rfl,h x (by simp),tb xs fun y hy=>h y (by
   rw [List.map_cons]
   exact List.mem_cons_of_mem _ hy)⟩
theorem Pf {ρ:Operand→SV} {e:Operand→Value} (o:Option Operand) (h:∀ x,o=some x→VRel Im ι w (ρ x) (e x)):uL Im ι w (o.map ρ) (o.map e):=by
 cases o with
 | none=>rfl
 | some x=>exact ⟨_,rfl,h x rfl⟩
theorem uk {ρ:Operand→SV} {e:Operand→Value} (o:Option Operand) (h:∀ x∈o.toArray,VRel Im ι w (ρ x) (e x)):uL Im ι w (o.map ρ) (o.map e):=
 Pf o fun x hx=>h x (by subst hx;simp)
theorem Ds (d:Nat) {T:TypeId} {ms} (hu:P.underlying T=some (.interface ms)):(Op.equalIn (d+1) T .nilIface .nilIface).run P w= .ok true w:=by
 unfold Op.equalIn
 simp [run_underlying hu]
theorem D8 (d:Nat) {T t:TypeId} {v:Value} {ms} (hu:P.underlying T=some (.interface ms)):(Op.equalIn (d+1) T (.iface t v) .nilIface).run P w= .ok false w:=by
 unfold Op.equalIn
 simp [run_underlying hu]
theorem Pc {op:BinOp} {T:TypeId} {ox oy:Operand} {x:SV} {vx vy:Value} (hx:VRel Im ι w x vx) (hy:VRel Im ι w .nili vy):
  bi P Im ι w ((do let r ← (do eqGuard op T ox oy vx vy;binOp op T vx vy:Sem Value);pure (.value r):Sem Next).run P w) (I6 P op T (pC ox||pC oy) x):=by
 have hy':vy= .nilIface:=hy
 subst hy'
 unfold I6
 split
 ·rename_i ms hu
  cases (show vx= .nilIface from hx)
  split
  ·rename_i hc
   refine ⟨.bool true,?_,rfl⟩
   have hg:(eqGuard .eql T ox oy .nilIface .nilIface).run P w= .ok () w:=by
    cases ox <;>cases oy <;>first | (simp [pC] at hc;done) | rfl
   have h:=Ds (w:=w) 9999 hu
   exact cK hg (by simp only [binOp,Sem.run_bind];rw [show (Op.equal T .nilIface .nilIface).run P w= .ok true w from h];rfl)
  ·trivial
 ·rename_i ms hu
  cases (show vx= .nilIface from hx)
  split
  ·rename_i hc
   refine ⟨.bool false,?_,rfl⟩
   have hg:(eqGuard .neq T ox oy .nilIface .nilIface).run P w= .ok () w:=by
    cases ox <;>cases oy <;>first | (simp [pC] at hc;done) | rfl
   have h:=Ds (w:=w) 9999 hu
   exact cK hg (by simp only [binOp,Sem.run_bind];rw [show (Op.equal T .nilIface .nilIface).run P w= .ok true w from h];rfl)
  ·trivial
 ·rename_i ms t s hu
  obtain ⟨v',rfl,_⟩:=hx
  have h:=D8 (w:=w) (t:=t) (v:=v') 9999 hu
  exact ⟨.bool false,cK (by rfl) (by simp only [binOp,Sem.run_bind];rw [show (Op.equal T (.iface t v') .nilIface).run P w= .ok false w from h];rfl),rfl⟩
 ·rename_i ms t s hu
  obtain ⟨v',rfl,_⟩:=hx
  have h:=D8 (w:=w) (t:=t) (v:=v') 9999 hu
  exact ⟨.bool true,cK (by rfl) (by simp only [binOp,Sem.run_bind];rw [show (Op.equal T (.iface t v') .nilIface).run P w= .ok false w from h];rfl),rfl⟩
 ·trivial
theorem R0 {T:TypeId} {x:SV} {vx:Value} (hx:VRel Im ι w x vx):bi P Im ι w ((do let r ← Instr.makeInterface T vx;pure (.value r):Sem Next).run P w) (Oq P T x):=by
 unfold Oq
 split
 ·trivial
 ·rename_i d hd hu
  refine ⟨.iface T vx,?_,vx,rfl,hx⟩
  cases d <;>first | (exact (hd _ rfl).elim) | simp [Instr.makeInterface,run_underlying hu]
 ·trivial
theorem Dz:∀ {path:List FieldStep} {t xt:TypeId} {s s':SV} {v:Value},rX P path t s=some (xt,s')→VRel Im ι w s v→∃ v',(follow path t (.val v)).run P w= .ok (xt,.val v') w∧VRel Im ι w s' v'
 | [],t,xt,s,s',v,h,hv=>by
  simp only [rX,ada,Prod.mk.injEq] at h
  obtain ⟨rfl,rfl⟩:=h
  exact ⟨v,by simp [follow],hv⟩
 | st::rest,t,xt,s,s',v,h,hv=>by
  unfold rX at h
  split at h
  ·cases h
  ·rename_i hd
   split at h
   ·rename_i fs cs hu
    split at h
    ·rename_i f hf
     split at h
     ·rename_i s1 h1
      obtain ⟨vs,rfl,hc⟩:=hv
      have hp:=Lw (P:=P) (T:=f.type) (off:=f.offset) hc
      rw [h1] at hp
      obtain ⟨v1,g1,g2⟩:=hp
      obtain ⟨v',k1,k2⟩:=Dz h g2
      refine ⟨v',?_,k2⟩
      have g3:(part f.type vs.toArray f.offset).run P w= .ok v1 w:=by
       cases hr:(part f.type vs.toArray f.offset).run P w <;>simp [hr] at g1
       rename_i a w'
       obtain ⟨rfl,rfl⟩:=g1
       rfl
      unfold follow
      simp [run_underlying hu,hf,hd,g3,k1]
     ·cases h
    ·cases h
   ·cases h
theorem Uq {run:Result Next} (hIm:∀ i,Im i→i<w.heap.size) (t c:Bool) {r:OR} (h:bi P Im ι w run r):bi P Im ι w run (Uk t c r):=by
 unfold Uk
 split
 ·rename_i _ T row rows
  obtain ⟨v,w',xs,h1,h2,h3,h4,h5,h6⟩:=h
  refine ⟨v,w',h1,h2,?_⟩
  rcases h4.2 with ⟨a,rfl,h0⟩ | ⟨g,cap,cur,rfl,hg,hc,h0,hm,hs,ht⟩
  ·simp at h0
  ·have hf:=h6 g (by simp [aB];omega)
   have hlt:=(asu.1 hg).1
   refine CRel.sl _ _ _ _ xs hc hm (.inr ⟨hf,hlt⟩) (h5.mono (fun i hi=> .inl hi) fun i hi=>h2.block i (hIm i hi) fun h=>by cases h) (qE h4 h0)
 ·exact h
 ·obtain ⟨v,w',xs,h1,h2,⟨a,n,cp,h3,_⟩,h4⟩:=h
  exact ⟨v,w',xs,h1,h2,⟨a,n,cp,h3,fun h=>by cases h⟩,h4⟩
 ·exact h
theorem JY {ρ:Operand→SV} {recv:Operand} {vr:Value} {name:String} {args:List Operand} {vas:List Value} (hr:VRel Im ι w (ρ recv) vr) (ha:VRels Im ι w (args.map ρ) vas):
  bi P Im ι w ((callMethod vr name vas.toArray).run P w) (CS P ρ recv name args):=by
 unfold CS
 split
 ·rename_i t s hs
  rw [hs] at hr
  obtain ⟨v,rfl,hv⟩:=hr
  split
  ·rename_i i hi
   split
   ·rename_i m hm
    split
    ·rename_i xt s' hf
     split
     ·rename_i f ptr hfn
      split
      ·rename_i r hrc
       obtain ⟨v',h1,h2⟩:=Dz (w:=w) hf hv
       have h3:VRel Im ι w r v'∧(receiverAt xt (.val v') ptr (if m.path.isEmpty then some ((name.splitOn ".").getLastD name) else none)).run P w= .ok v' w:=by
        unfold To at hrc
        split at hrc
        ·rename_i E hu
         split at hrc
         ·rename_i hp
          cases hrc
          subst hp
          exact ⟨h2,by simp [receiverAt,run_underlying hu,Place.get]⟩
         ·cases hrc
        ·rename_i d hd hu
         split at hrc
         ·cases hrc
         ·rename_i hp
          cases hrc
          have hp':ptr=false:=by simpa using hp
          subst hp'
          refine ⟨h2,?_⟩
          cases d <;>first | (exact (hd _ rfl).elim) | simp [receiverAt,run_underlying hu,Place.get]
        ·cases hrc
       refine ⟨v'::vas,⟨v',vas,rfl,h3.1,ha⟩,?_⟩
       have e1:(v'::vas).toArray= #[v'] ++vas.toArray:=by apply ar6;simp
       have hmeth:(method (P.types.size+Made.depth) t v name).run P w= .ok (f,v') w:=by
        obtain ⟨k,hk⟩:∃ k,P.types.size+Made.depth=k+1:=⟨P.types.size+Made.depth-1,by
         have h0:0<Made.depth:=by decide
         omega⟩
        rw [hk]
        unfold method
        have h4:=h3.2
        simp only [Array.isEmpty_iff,List.getLastD_eq_getLast?] at h4
        simp [typeInfo,hi,hm,h1,hfn,h4]
       rw [e1]
       unfold callMethod
       simp only [Sem.run_bind,run_program,hmeth,Result.andThen_ok]
      ·trivial
     ·trivial
    ·trivial
   ·trivial
  ·trivial
 ·trivial
theorem Kv {zero:TypeId→Option (List SV)} (hz:mn P zero) (hIm:∀ i,Im i→i<w.heap.size) {hp:List Blk} (hh:HV Im ι w hp) {ρ:Operand→SV} {e:Operand→Value} {o:Oper}
  (hρ:∀ x∈o.op.operands,VRel Im ι w (ρ x) (e x)):bi P Im ι w ((execOp e o).run P w) (iL P zero ρ hp o.op):=by
 obtain ⟨dst,op,type,pos,after,guard⟩:=o
 cases op <;>simp only [iL] <;>(try exact trivial) <;>simp only [Op.operands] at hρ
 case move x=>exact ⟨_,rfl,hρ x (by simp)⟩
 case assign x=>exact ⟨_,rfl,hρ x (by simp)⟩
 case pick c a b=>
  have hc:=hρ c (by simp)
  split
  ·rename_i t ht
   rw [ht] at hc
   have hc':e c= .bool t:=hc
   refine ⟨fun h=>⟨_,?_,hρ a (by simp)⟩,fun h=>⟨_,?_,hρ b (by simp)⟩⟩
   ·simp [execOp,hc',asBool,h]
   ·simp [execOp,hc',asBool,h]
  ·trivial
 case alloc T=>
  split
  ·rename_i cs hcs
   obtain ⟨z,h1,_,h3⟩:=jN (w:=w) hz hcs
   exact ⟨z.cells.toList,by simp [execOp,Instr.alloc,h1,newVar,newRow],h3 Im ι w⟩
  ·trivial
 case box T x=>
  split
  ·rename_i cs hcs
   exact ⟨(e x).cells.toList,by simp [execOp,Instr.box,newVar,newRow],tY hcs (hρ x (by simp))⟩
  ·trivial
 case build T parts=>
  have:=Mg (P:=P) (w:=w) (Im:=Im) (ι:=ι) hz (T:=T) (parts:=parts.toList.map fun (i,x)=>(i,ρ x)) (vparts:=parts.map fun (i,x)=>(i,e x)) (by
   rw [atn]
   exact tb _ fun x hx=>hρ x (by simpa using hx))
  exact this
 case buildSlice T n parts=>
  have:=Ca (P:=P) (w:=w) (Im:=Im) (ι:=ι) hz hIm (T:=T) (len:=n) (parts:=parts.toList.map fun (i,x)=>(i,ρ x)) (vparts:=parts.map fun (i,x)=>(i,e x)) (by
   rw [atn]
   exact tb _ fun x hx=>hρ x (by simpa using hx))
  exact Uq hIm _ _ this
 case load T a=>exact E1 _ _ (Eu hh (hρ a (by simp)))
 case store T a x=>exact L7 hh (hρ a (by simp)) (hρ x (by simp))
 case nilCheck x=>
  have hx:=hρ x (by simp)
  split
  ·rename_i hp'
   rw [hp'] at hx
   obtain ⟨r,h1,h2⟩:=hx
   exact ⟨_,by simp only [execOp,h2];rfl,r,h1,rfl⟩
  ·rename_i hp'
   rw [hp'] at hx
   obtain ⟨r,h1,h2⟩:=hx
   exact ⟨_,by simp only [execOp,h2];rfl,r,h1,rfl⟩
  ·rename_i hp'
   rw [hp'] at hx
   obtain ⟨ad,xs,h1,h2⟩:=hx
   exact ⟨_,by simp only [execOp,h1];rfl,ad,xs,rfl,h2⟩
  ·rename_i hp'
   rw [hp'] at hx
   obtain ⟨r,n,cap,h1,h2,h3⟩:=hx
   exact ⟨_,by simp only [execOp,h3];rfl,r,n,cap,h1,h2,rfl⟩
  ·rename_i hp'
   rw [hp'] at hx
   obtain ⟨v',h1,h2⟩:=hx
   exact ⟨_,by simp only [execOp,h1];rfl,v',rfl,h2⟩
  ·trivial
 case binOp op T x y yT=>
  have hx:=hρ x (by simp)
  have hy:=hρ y (by simp)
  split
  ·rename_i hn
   rw [hn] at hy
   exact Pc hx hy
  ·exact TC hx hy
 case makeInterface T x=>exact R0 (hρ x (by simp))
 case unOp op T x=>exact T7 (hρ x (by simp))
 case convert src dst x=>exact HK hh (hρ x (by simp))
 case sliceToArrayPointer A x=>exact HP hh (hρ x (by simp))
 case makeSlice T l c=>exact C4 hz (hρ l (by simp)) (hρ c (by simp))
 case slice T x lo hi mx=>
  exact Mi hh (hρ x (by simp)) (uk lo fun y hy=>hρ y (by simp at hy ⊢;simp [hy])) (uk hi fun y hy=>hρ y (by simp at hy ⊢;simp [hy])) (uk mx fun y hy=>hρ y (by simp at hy ⊢;simp [hy]))
 case fieldAddr S x f=>exact DP (hρ x (by simp))
 case field S x f=>exact L4 (hρ x (by simp))
 case indexAddr T x ix=>exact Eh hh (hρ x (by simp)) (hρ ix (by simp))
 case index T x ix=>exact Mh (hρ x (by simp)) (hρ ix (by simp))
 case extract t i=>
  have ht:=hρ t (by simp)
  split
  ·rename_i vs hvs
   rw [hvs] at ht
   obtain ⟨us,h1,h2⟩:=ht
   split
   ·rename_i s hs
    obtain ⟨v,h3,h4⟩:=GY h2 i s hs
    exact ⟨v,by simp [execOp,Instr.extract,h1,h3],h4⟩
   ·trivial
  ·trivial
 case makeFunc fn first captured=>
  cases fn <;>simp only <;>try exact trivial
  rename_i f
  split
  ·rename_i hf
   have hf':first= #[] :=atw hf
   subst hf'
   refine ⟨.func (.func f) #[] (captured.map e),by simp [execOp,Instr.makeFunc],(captured.map e).toList,by rw [atx],?_⟩
   rw [atn]
   exact nl _ fun x hx=>hρ x (by simpa using hx)
  ·split
   ·rename_i hf
    have hf':captured= #[] :=atw hf
    subst hf'
    refine ⟨.func (.func f) (first.map e) #[],by simp [execOp,Instr.makeFunc],(first.map e).toList,by rw [atx],?_⟩
    rw [atn]
    exact nl _ fun x hx=>hρ x (by simpa using hx)
   ·trivial
 case call c=>
  obtain ⟨callee,args,argTypes⟩:=c
  cases callee <;>simp only <;>(try exact trivial) <;>simp only [Call.operands] at hρ
  case value f=>
   have hf:=hρ f (by simp)
   have ha:=nl (ρ:=ρ) (e:=e) (Im:=Im) (ι:=ι) (w:=w) args.toList (fun x hx=>hρ x (by simp at hx ⊢;simp [hx]))
   unfold RD
   split
   ·rename_i g caps hg
    rw [hg] at hf
    obtain ⟨vs,h1,h2⟩:=hf
    refine ⟨args.toList.map e++vs,sU ha h2,?_⟩
    have e1:(args.toList.map e++vs).toArray= #[] ++args.map e++vs.toArray:=by
     apply ar6
     simp
    simp only [execOp,resolve,h1,Deferred.ofValue,pure_bind,invoke,e1]
   ·rename_i g firsts hg
    rw [hg] at hf
    obtain ⟨vs,h1,h2⟩:=hf
    refine ⟨vs++args.toList.map e,sU h2 ha,?_⟩
    have e1:(vs++args.toList.map e).toArray=vs.toArray++args.map e++ #[] :=by
     apply ar6
     simp
    simp only [execOp,resolve,h1,Deferred.ofValue,pure_bind,invoke,e1]
   ·trivial
  case builtin b=>
   have ha:=nl (ρ:=ρ) (e:=e) (Im:=Im) (ι:=ι) (w:=w) args.toList (fun x hx=>hρ x (by simp at hx ⊢;simp [hx]))
   have:=HL (P:=P) (w:=w) hz hh (b:=b) (Ts:=argTypes.toList) (ty:=type) (consts:=args.map fun | .const _=>true | _=>false) ha
   have e1:(args.toList.map e).toArray=args.map e:=by apply ar6;simp
   rw [e1,atx] at this
   simp only [execOp,resolve,pure_bind,invoke]
   exact this
  case invoke recv name=>
   have hr:=hρ recv (by simp)
   have ha:=nl (ρ:=ρ) (e:=e) (Im:=Im) (ι:=ι) (w:=w) args.toList (fun x hx=>hρ x (by simp at hx ⊢;simp [hx]))
   have:=JY (P:=P) (w:=w) (Im:=Im) (ι:=ι) (ρ:=ρ) (name:=name) (args:=args.toList) hr ha
   have e2:(#[e recv] ++args.map e)[0]? =some (e recv):=by rw [Array.getElem?_append_left (by simp)];rfl
   have e3:(#[e recv] ++args.map e).extract 1 (#[e recv] ++args.map e).size=(args.toList.map e).toArray:=by
    apply ar6
    rw [Array.toList_extract,atq]
    simp only [List.extract_eq_take_drop,List.drop_succ_cons,List.drop_zero,List.cons_append,asp]
    rw [atn]
    exact agv (by simp)
   simp only [execOp,resolve,pure_bind,invoke,e2,e3]
   exact this
end
inductive CR where
 | bad
 | need (p:Prop) (c:CR)
 | know (p:Prop) (c:CR)
 | ret (sv:SV) (upd:List (Nat×Blk)) (news:List Blk)
 | anyI (f:Int→CR)
 | anyB (f:Bool→CR)
 | anyL (f:List UInt8→CR)
 | ite (b:Bool) (c1 c2:CR)
structure Ctx where
 P:Program
 zero:TypeId→Option (List SV)
 glob:Nat→Option SV
 spec:FuncId→List SV→List Blk→CR
def bq (hp:List Blk):List (Nat×Blk)→List Blk
 | [] =>hp
 | (b,x)::l=>bq (hp.set b x) l
def CR.wp (hp:List Blk) (K:SV→List Blk→Prop):CR→Prop
 | .bad=>False
 | .need p c=>p∧c.wp hp K
 | .know p c=>p→c.wp hp K
 | .ret sv upd news=>K sv (bq hp upd++news)
 | .anyI f=>∀ n,(f n).wp hp K
 | .anyB f=>∀ n,(f n).wp hp K
 | .anyL f=>∀ n,(f n).wp hp K
 | .ite b c1 c2=>bif b then c1.wp hp K else c2.wp hp K
def aM:Blk→Bool
 | .cells .. =>true
 | .own .. =>true
 | _=>false
section
variable (C:Ctx)
def Qk (c:Bool) (b:Nat):SV:=match c with | true=> .lit b | false=> .own b
def l6 (dst:Option Tmp) (s:AS) (K:AS→Prop):OR→Prop
 | .bad=>False
 | .need p r=>p∧l6 dst s K r
 | .know p r=>p→l6 dst s K r
 | .split b r1 r2=>(b=true→l6 dst s K r1)∧(b=false→l6 dst s K r2)
 | .val sv=>K (s.put dst sv)
 | .new T cs=>K (({s with hp:=s.hp++ [.cells T cs]} :AS).put dst (.ptr s.hp.length 0))
 | .newRo sv=>K (s.put dst sv)
 | .newOwn c T e l=>K (({s with hp:=s.hp++ [.own T e l]} :AS).put dst (Qk c s.hp.length))
 | .upd b blk=>aM (s.hp.getD b .none)=true∧K (({s with hp:=s.hp.set b blk} :AS).put dst .undef)
 | .cpy b blk=>aM (s.hp.getD b .none)=true∧K (({s with hp:=s.hp.set b blk} :AS).put dst .dead)
 | .app b T e l=>aM (s.hp.getD b .none)=true∧K (({s with hp:=s.hp.set b .none++ [.own T e l]} :AS).put dst (.own s.hp.length))
 | .frz b sv=>aM (s.hp.getD b .none)=true∧K (({s with hp:=s.hp.set b .none} :AS).put dst sv)
 | .anyB f=>∀ β,f β→K (s.put dst (.bool β))
 | .call f svs=>(C.spec f svs s.hp).wp s.hp fun sv hp'=>K (({s with hp:=hp'} :AS).put dst sv)
def dz (all:Array Oper) (o:Oper) (s:AS) (yes no:Prop):Prop:=
 match o.guard with
 | none=>yes
 | some (j,want)=>match (all[j]?).bind (·.dst) with
  | some d=>(match aH s.tm d with
   | .bool b=>(b=want→yes)∧(¬ b=want→no)
   | .tup [] =>no
   | _=>False)
  | none=>no
def Sw (want:Bool) (d:Tmp) (s:AS) (yes no:AS→Prop):SV→Prop
 | .bool b=>(b=want→yes (s.put (some d) (.bool want)))∧(b= !want→no (s.put (some d) (.bool (!want))))
 | .tup [] =>no s
 | _=>False
def Ec (want:Bool) (s:AS) (yes no:AS→Prop):Option Tmp→Prop
 | some d=>Sw want d s yes no (aH s.tm d)
 | none=>no s
def AY (all:Array Oper) (s:AS) (yes no:AS→Prop):Option (Nat×Bool)→Prop
 | none=>yes s
 | some (j,want)=>Ec want s yes no ((all[j]?).bind (·.dst))
def qw (all:Array Oper) (o:Oper) (s:AS) (yes no:AS→Prop):Prop:=AY all s yes no o.guard
def tE (all:Array Oper):List Oper→AS→(AS→Prop)→Prop
 | [],s,K=>K s
 | o::rest,s,K=>qw all o s (fun s=>l6 C o.dst s (fun s'=>tE all rest s' K) (iL C.P C.zero (s.ev C.glob) s.hp o.op)) (fun s=>tE all rest (s.put o.dst .undef) K)
end
structure Ent where
 w:World
 Im:Nat→Prop
 ι:Nat→Option Value
 F:Nat→Prop
 dfr:List Deferred
structure MR (E:Ent) (Im:Nat→Prop) (ι:Nat→Option Value) (w:World) (hp:List Blk):Prop where
 imlt:∀ i,Im i→i<w.heap.size
 imm:∀ b v r,aM (hp.getD b .none)=true→ι b=some v→aB v=some r→¬ Im r
 sep:∀ b b' v v' r,aM (hp.getD b .none)=true→aM (hp.getD b' .none)=true→ι b=some v→ι b'=some v'→aB v=some r→aB v'=some r→b=b'
 mine:∀ b v r,aM (hp.getD b .none)=true→ι b=some v→aB v=some r→E.w.heap.size≤r∨E.F r
structure Since (E:Ent) (Im:Nat→Prop) (ι:Nat→Option Value) (w:World):Prop where
 os:w.os=E.w.os
 tape:w.tape=E.w.tape
 output:w.output=E.w.output
 size:E.w.heap.size≤w.heap.size
 block:∀ k,k<E.w.heap.size→¬ E.F k→w.heap[k]? =E.w.heap[k]?
 hd:∀ b v,E.ι b=some v→ι b=some v
 im:∀ i,E.Im i→Im i
 imnew:∀ i,Im i→E.Im i∨E.w.heap.size≤i∨E.F i
def Globs (C:Ctx) (Im:Nat→Prop) (ι:Nat→Option Value) (w:World):Prop:=∀ g sv,C.glob g=some sv→VRel Im ι w sv (.pointer (some ⟨g,0,none⟩))
structure Mem (C:Ctx) (E:Ent) (hp:List Blk) (Im:Nat→Prop) (ι:Nat→Option Value) (w:World):Prop where
 hv:HV Im ι w hp
 mr:MR E Im ι w hp
 since:Since E Im ι w
 glob:Globs C Im ι w
def q9 (n:Nat) (ι:Nat→Option Value):Prop:=∀ b,n≤b→ι b=none
structure Rel (C:Ctx) (E:Ent) (s:AS) (Im:Nat→Prop) (ι:Nat→Option Value) (a:Act) (w:World):Prop where
 defers:a.defers=E.dfr
 size:a.tmps.size=s.tm.length
 tm:∀ t,VRel Im ι w (aH s.tm t) (a.tmps.getD t undef)
 mem:Mem C E s.hp Im ι w
def mG (C:Ctx) (E:Ent) (Im:Nat→Prop) (ι:Nat→Option Value) (w:World) (n:Nat) (K:SV→List Blk→Prop):Ending→World→Prop:=fun e w'=>
 ∃ v sv hp' Im' ι',e= .returned v∧K sv hp'∧VRel Im' ι' w' sv v∧Mem C E hp' Im' ι' w'∧n≤hp'.length∧(∀ b,¬ (n≤b∧b<hp'.length)→ι' b=ι b)∧Later Im ι w Im' ι' w'
def CallSem (P:Program) (f:FuncId) (vs:Array Value) (w:World) (R:Ending→World→Prop):Prop:=
 ((callFunc f vs).run P w= .ok (.enter f vs) w∧Calls P f vs w R)∨∃ v,(callFunc f vs).run P w= .ok (.value v) w∧R (.returned v) w
def b9 (C:Ctx) (f:FuncId) (F:List SV→List Blk→CR):Prop:=
 ∀ svs hp K (R:Nat→Prop),(F svs hp).wp hp (fun sv hp'=>K sv hp'∧∀ b,hp.length≤b→b<hp'.length→R b)→∀ E Im ι w vs,Mem C E hp Im ι w→(∀ b,R b→ι b=none)→VRels Im ι w svs vs→
  CallSem C.P f vs.toArray w (mG C E Im ι w hp.length K)
structure Ctx.Ok (C:Ctx):Prop where
 zero:mn C.P C.zero
 spec:∀ f,b9 C f (C.spec f)
 mixed:C.P.follows .mixedOrders=true
 globE:∀ g sv,C.glob g=some sv→∃ e l i c,sv= .eptr e l i c
section
variable {C:Ctx} {E:Ent} {Im:Nat→Prop} {ι:Nat→Option Value} {w:World}
theorem Mb (v:Value):VRel Im ι w (ur v) v:=by
 unfold ur
 split
 ·rfl
 ·rfl
 ·rename_i s
  split
  ·rename_i h0
   refine ⟨rfl,?_⟩
   show s.data.toList.length≤maxLen
   rw [asc]
   refine aty (show s.data.size≤1000000 from h0) ?_
   decide
  ·trivial
 ·rfl
 ·rfl
 ·rfl
 ·rfl
 ·rfl
theorem jh:∀ (l:List SV) (i:Nat) (x:SV),i<l.length→aH (lZ l i x) i=x
 | [],_,_,h=>by simp at h
 | _::_,0,_,_=>rfl
 | _::l,i+1,x,h=>jh l i x (by simpa using h)
theorem eK:∀ (l:List SV) (i j:Nat) (x:SV),i≠j→aH (lZ l i x) j=aH l j
 | [],_,_,_,_=>rfl
 | _::_,0,0,_,h=>absurd rfl h
 | _::_,0,_+1,_,_=>rfl
 | _::_,_+1,0,_,_=>rfl
 | _::l,i+1,j+1,x,h=>eK l i j x (by omega)
theorem gu:∀ (l:List SV) (i:Nat) (x:SV),(lZ l i x).length=l.length
 | [],_,_=>rfl
 | _::_,0,_=>rfl
 | _::l,i+1,x=>by simp [lZ,gu l i x]
theorem oP:∀ (l:List SV) (i:Nat),l.length≤i→aH l i= .dead
 | [],_,_=>rfl
 | _::_,0,h=>by simp at h
 | _::l,i+1,h=>oP l i (by simpa using h)
theorem tX:∀ (l:List SV) (i:Nat),lZ l i (aH l i)=l
 | [],_=>rfl
 | _::_,0=>rfl
 | x::l,i+1=>by simp [lZ,aH,tX l i]
theorem wu {all:Array Oper} {o:Oper} {s:AS} {yes no:AS→Prop} (h:qw all o s yes no):dz all o s (yes s) (no s):=by
 unfold qw at h
 unfold dz
 cases hg:o.guard with
 | none=>rw [hg] at h;exact h
 | some jw=>
  obtain ⟨j,want⟩:=jw
  rw [hg] at h
  simp only [AY] at h
  dsimp only
  cases hd:(all[j]?).bind (·.dst) with
  | none=>rw [hd] at h;exact h
  | some d=>
   rw [hd] at h
   simp only [Ec] at h
   dsimp only
   have hput:∀ b,aH s.tm d= .bool b→s.put (some d) (.bool b)=s:=fun b hb=>by
    show (⟨lZ s.tm d (.bool b),s.hp⟩:AS)=s
    rw [← hb,tX]
   generalize hv:aH s.tm d=v at *
   unfold Sw at h
   split at h
   ·rename_i b
    have hp:=hput b rfl
    refine ⟨fun e=> ?_,fun e=> ?_⟩
    ·subst e
     have:=h.1 rfl
     rwa [hp] at this
    ·have e':b= !want:=by cases b <;>cases want <;>simp_all
     subst e'
     have:=h.2 rfl
     rwa [hp] at this
   ·exact h
   ·exact h.elim
theorem acH {tm:List SV} {a:Act} (hsz:a.tmps.size=tm.length) {w':World} {Im':Nat→Prop} {ι':Nat→Option Value} (htm:∀ t,VRel Im' ι' w' (aH tm t) (a.tmps.getD t undef)) (d:Nat) {sv:SV} {v:Value} (hv:VRel Im' ι' w' sv v):
  ∀ t,VRel Im' ι' w' (aH (lZ tm d sv) t) ((a.tmps.setIfInBounds d v).getD t undef):=by
 intro t
 by_cases hdt:d=t
 ·subst hdt
  by_cases hlt:d<tm.length
  ·rw [jh _ _ _ hlt]
   simpa [hsz,hlt] using hv
  ·rw [oP _ _ (by rw [gu];omega)]
   trivial
 ·rw [eK _ _ _ _ hdt]
  have:=htm t
  simpa [Array.getElem?_setIfInBounds_ne hdt] using this
theorem Rel.put {s:AS} {a:Act} {hp:List Blk} {Im':Nat→Prop} {ι':Nat→Option Value} {w':World} (h:Rel C E s Im ι a w) (hl:Later Im ι w Im' ι' w') (hm:Mem C E hp Im' ι' w') (dst:Option Tmp) {sv:SV} {v:Value} (hv:VRel Im' ι' w' sv v):
  Rel C E (({s with hp:=hp} :AS).put dst sv) Im' ι' (a.put dst v) w':=by
 have htm:∀ t,VRel Im' ι' w' (aH s.tm t) (a.tmps.getD t undef):=fun t=>VRel.mono hl _ _ (h.tm t)
 cases dst with
 | none=>exact ⟨h.defers,h.size,htm,hm⟩
 | some d=>
  refine ⟨h.defers,?_,acH h.size htm d hv,hm⟩
  simp [Act.put,AS.put,gu,h.size]
theorem Globs.later {Im':Nat→Prop} {ι':Nat→Option Value} {w':World} (h:Globs C Im ι w) (hl:Later Im ι w Im' ι' w'):Globs C Im' ι' w':=fun g sv hg=>VRel.mono hl _ _ (h g sv hg)
theorem BRel.later {Im':Nat→Prop} {ι':Nat→Option Value} {w':World} (hl:Later Im ι w Im' ι' w') {blk:Blk} {v:Value} (hf:∀ r,aM blk=true→aB v=some r→w'.heap[r]? =w.heap[r]?) (h:BRel Im ι w blk v):BRel Im' ι' w' blk v:=by
 cases blk with
 | none=>trivial
 | cells T cs=>
  obtain ⟨r,vs,rfl,h2,h3⟩:=h
  exact ⟨r,vs,rfl,(hf r rfl rfl).trans h2,h3.mono hl⟩
 | own T e l=>
  obtain ⟨xs,⟨h1,h2⟩,h3⟩:=h
  refine ⟨xs,⟨h1,?_⟩,h3.mono hl.im hl.mem⟩
  rcases h2 with h2 | ⟨g,cap,cur,rfl,h4,h5,h6,h7⟩
  ·exact .inl h2
  ·exact .inr ⟨g,cap,cur,rfl,(hf g rfl (by simp [aB];omega)).trans h4,h5,h6,h7⟩
 | ro e l=>exact CRel.mono hl.im hl.mem h
theorem fF {w':World} {row:Option Nat} (hg:w.grownBy w' row) {Im':Nat→Prop} {ι':Nat→Option Value} (himlt:∀ i,Im i→i<w.heap.size) (hrow:∀ k,row=some k→¬ Im k) (him:∀ i,Im i→Im' i) (hι:∀ b v,ι b=some v→ι' b=some v):Later Im ι w Im' ι' w':=
 ⟨him,hι,fun i hi=>hg.block i (himlt i hi) (fun h=>hrow i h.symm hi)⟩
theorem Mem.step {hp hp':List Blk} {Im':Nat→Prop} {ι':Nat→Option Value} {w':World} {row:Option Nat} (c:Nat) (m:Mem C E hp Im ι w) (hg:w.grownBy w' row)
  (hrow:∀ k,row=some k→∃ b v,ι b=some v∧aM (hp.getD b .none)=true∧aB v=some k∧(b=c∨hp'.getD b .none= .none))
  (him:∀ i,Im i→Im' i) (him':∀ i,Im' i→Im i∨(w.heap.size≤i∧i<w'.heap.size)) (hι:∀ b v,ι b=some v→ι' b=some v)
  (hoth:∀ b,b≠c→ι' b=ι b∧(hp'.getD b .none=hp.getD b .none∨hp'.getD b .none= .none))
  (hc:∀ v,ι' c=some v→BRel Im' ι' w' (hp'.getD c .none) v∧∀ k,aM (hp'.getD c .none)=true→aB v=some k→row=some k∨(w.heap.size≤k∧¬ Im' k)):
  Mem C E hp' Im' ι' w'∧Later Im ι w Im' ι' w':=by
 have hnim:∀ k,row=some k→¬ Im k:=fun k hk=>by
  obtain ⟨b,v,h1,h2,h3,_⟩:=hrow k hk
  exact m.mr.imm b v k h2 h1 h3
 have hl:Later Im ι w Im' ι' w':=fF hg m.mr.imlt hnim him hι
 have hrlt:∀ b v k,aM (hp.getD b .none)=true→ι b=some v→aB v=some k→k<w.heap.size:=fun b v k h1 h2 h3=>by
  have hb:=m.hv b v h2
  cases hblk:hp.getD b .none with
  | none=>rw [hblk] at h1;cases h1
  | ro e l=>rw [hblk] at h1;cases h1
  | cells T cs=>
   rw [hblk] at hb
   obtain ⟨r,vs,rfl,h4,_⟩:=hb
   cases h3
   exact (asu.1 h4).1
  | own T e l=>
   rw [hblk] at hb
   obtain ⟨xs,⟨_,h2⟩,_⟩:=hb
   rcases h2 with ⟨a,rfl,_⟩ | ⟨g,cap,cur,rfl,h4,_,h6,_⟩
   ·exfalso
    revert h3
    cases a <;>simp [aB]
   ·simp [aB] at h3
    obtain ⟨_,rfl⟩:=h3
    exact (asu.1 h4).1
 have hrowlt:∀ k,row=some k→k<w.heap.size:=fun k hk=>by
  obtain ⟨b,v,h1,h2,h3,_⟩:=hrow k hk
  exact hrlt b v k h2 h1 h3
 have hold:∀ b v,b≠c→aM (hp'.getD b .none)=true→ι' b=some v→hp'.getD b .none=hp.getD b .none∧ι b=some v∧∀ k,aB v=some k→row≠some k:=fun b v hb h1 h2=>by
  obtain ⟨h3,h4⟩:=hoth b hb
  rw [h3] at h2
  rcases h4 with h4 | h4
  ·refine ⟨h4,h2,fun k hk hk'=> ?_⟩
   obtain ⟨b0,v0,h5,h6,h7,h8⟩:=hrow k hk'
   have:=m.mr.sep b b0 v v0 k (h4 ▸ h1) h6 h2 h5 hk h7
   subst this
   rcases h8 with h8 | h8
   ·exact hb h8
   ·rw [h8] at h1;cases h1
  ·rw [h4] at h1;cases h1
 have hrolt:∀ i,Im' i→¬ Im i→w.heap.size≤i:=fun i h1 h2=>((him' i h1).resolve_left h2).1
 have hfoot:∀ b v k,aM (hp'.getD b .none)=true→ι' b=some v→aB v=some k→¬ Im' k∧(E.w.heap.size≤k∨E.F k):=fun b v k h1 h2 h3=>by
  by_cases hb:b=c
  ·subst hb
   rcases (hc v h2).2 k h1 h3 with h4 | ⟨h4,h5⟩
   ·obtain ⟨b0,v0,h5,h6,h7,_⟩:=hrow k h4
    refine ⟨fun hk=> ?_,m.mr.mine b0 v0 k h6 h5 h7⟩
    have:=hrolt k hk (hnim k h4)
    have:=hrowlt k h4
    omega
   ·exact ⟨h5,.inl (aty m.since.size h4)⟩
  ·obtain ⟨h4,h5,h6⟩:=hold b v hb h1 h2
   rw [h4] at h1
   refine ⟨fun hk=> ?_,m.mr.mine b v k h1 h5 h3⟩
   have:=hrolt k hk (m.mr.imm b v k h1 h5 h3)
   have:=hrlt b v k h1 h5 h3
   omega
 refine ⟨⟨?_,⟨?_,fun b v r h1 h2 h3=>(hfoot b v r h1 h2 h3).1,?_,fun b v r h1 h2 h3=>(hfoot b v r h1 h2 h3).2⟩,⟨hg.os.trans m.since.os,hg.tape.trans m.since.tape,hg.output.trans m.since.output,aty m.since.size hg.size,?_,fun b v h=>hι b v (m.since.hd b v h),fun i h=>him i (m.since.im i h),fun i h=> ?_⟩,m.glob.later hl⟩,hl⟩
 ·intro b v hb
  by_cases hbc:b=c
  ·subst hbc
   exact (hc v hb).1
  ·obtain ⟨h3,h4⟩:=hoth b hbc
   rcases h4 with h4 | h4
   ·rw [h4]
    rw [h3] at hb
    refine BRel.later hl (fun r hr hf=> ?_) (m.hv b v hb)
    exact hg.block r (hrlt b v r hr hb hf) (fun e=>(hold b v hbc (h4.symm ▸ hr) (h3.trans hb)).2.2 r hf e.symm)
   ·rw [h4];trivial
 ·intro i hi
  rcases him' i hi with h | h
  ·exact asG (m.mr.imlt i h) hg.size
  ·exact h.2
 ·intro b b' v v' r h1 h2 h3 h4 h5 h6
  by_cases hb:b=c
  ·by_cases hb':b'=c
   ·rw [hb,hb']
   ·subst hb
    obtain ⟨h7,h8,h9⟩:=hold b' v' hb' h2 h4
    rcases (hc v h3).2 r h1 h5 with h10 | ⟨h10,_⟩
    ·exact absurd h10 (h9 r h6)
    ·have:=hrlt b' v' r (h7 ▸ h2) h8 h6
     omega
  ·by_cases hb':b'=c
   ·subst hb'
    obtain ⟨h7,h8,h9⟩:=hold b v hb h1 h3
    rcases (hc v' h4).2 r h2 h6 with h10 | ⟨h10,_⟩
    ·exact absurd h10 (h9 r h5)
    ·have:=hrlt b v r (h7 ▸ h1) h8 h5
     omega
   ·obtain ⟨h7,h8,_⟩:=hold b v hb h1 h3
    obtain ⟨h9,h10,_⟩:=hold b' v' hb' h2 h4
    exact m.mr.sep b b' v v' r (h7 ▸ h1) (h9 ▸ h2) h8 h10 h5 h6
 ·intro k hk hF
  refine (hg.block k (asG hk m.since.size) fun e=> ?_).trans (m.since.block k hk hF)
  obtain ⟨b,v,h1,h2,h3,_⟩:=hrow k e.symm
  rcases m.mr.mine b v k h2 h1 h3 with h | h
  ·omega
  ·exact hF h
 ·rcases him' i h with h | h
  ·exact m.since.imnew i h
  ·exact .inr (.inl (aty m.since.size h.1))
end
end Go.Avc
namespace Go.Avc
set_option linter.unusedVariables false
set_option linter.unusedSimpArgs false
def ιset (ι:Nat→Option Value) (c:Nat) (v:Value):Nat→Option Value:=fun b=>if b=c then some v else ι b
theorem ιset_same (ι:Nat→Option Value) (c:Nat) (v:Value):ιset ι c v c=some v:=by simp [ιset]
theorem ιset_other (ι:Nat→Option Value) (c:Nat) (v:Value) {b:Nat} (h:b≠c):ιset ι c v b=ι b:=by simp [ιset,h]
theorem ιset_keeps {ι:Nat→Option Value} {c:Nat} (hc:ι c=none) (v:Value):∀ b u,ι b=some u→ιset ι c v b=some u:=fun b u h=>by
 by_cases hb:b=c
 ·subst hb;rw [hc] at h;cases h
 ·rw [ιset_other _ _ _ hb,h]
theorem tu (hp:List Blk) (x:Blk) {b:Nat} (h:b≠hp.length):(hp++ [x]).getD b .none=hp.getD b .none:=by
 simp only [ay]
 by_cases hb:b<hp.length
 ·rw [aeU hb]
 ·have e1:(hp++ [x])[b]? =none:=gd (by simp;omega)
  have e2:hp[b]? =none:=gd (by omega)
  rw [e1,e2]
theorem vC (hp:List Blk) (x:Blk):(hp++ [x]).getD hp.length .none=x:=by simp [ay]
theorem gK (hp:List Blk) (x:Blk) {b c:Nat} (h:b≠c):(hp.set c x).getD b .none=hp.getD b .none:=by
 simp only [ay,List.getElem?_set_ne (Ne.symm h)]
theorem mV {hp:List Blk} {b:Nat} (h:aM (hp.getD b .none)=true):b<hp.length:=by
 rcases Nat.lt_or_ge b hp.length with h' | h'
 ·exact h'
 ·rw [ay,gd h'] at h;cases h
theorem ft (hp:List Blk) (x:Blk) {b:Nat} (h:b<hp.length):(hp.set b x).getD b .none=x:=by
 simp [ay,h]
section
variable {C:Ctx} {E B:Ent} {Im:Nat→Prop} {ι:Nat→Option Value} {w:World} {hp hp':List Blk}
theorem ND {c:Nat} {T:TypeId} {cs:List SV} {vs:List Value} (m:Mem C E hp Im ι w) (hc:ι c=none) (h1:∀ b,b≠c→hp'.getD b .none=hp.getD b .none) (h2:hp'.getD c .none= .cells T cs) (hcs:CellsRel Im ι w cs vs):
  Mem C E hp' Im (ιset ι c (.pointer (some ⟨w.heap.size,0,none⟩))) (w.alloc (.cells vs.toArray T))∧Later Im ι w Im (ιset ι c (.pointer (some ⟨w.heap.size,0,none⟩))) (w.alloc (.cells vs.toArray T)):=by
 have hg:=World.grownBy_alloc w (.cells vs.toArray T) none
 refine Mem.step c m hg (fun k h=>by cases h) (fun _ h=>h) (fun _ h=> .inl h) (ιset_keeps hc _) (fun b hb=>⟨ιset_other _ _ _ hb,.inl (h1 b hb)⟩) fun v hv=> ?_
 rw [ιset_same] at hv
 cases hv
 rw [h2]
 have hl:=fF hg m.mr.imlt (fun k h=>by cases h) (Im':=Im) (fun _ h=>h) (ιset_keeps hc (.pointer (some ⟨w.heap.size,0,none⟩)))
 refine ⟨⟨w.heap.size,vs,rfl,(by show (w.heap.push _)[w.heap.size]? =_;exact Array.getElem?_push_size),hcs.mono hl⟩,fun k _ hk=> .inr ?_⟩
 cases hk
 exact ⟨ar5 _,fun h=>Nat.lt_irrefl _ (m.mr.imlt _ h)⟩
theorem Hz {Im:Nat→Prop} {ι:Nat→Option Value} {w:World} {c:Bool} {b:Nat} {v:Value} (h:ι b=some v) (hs:∃ a n cp,v= .slice a n cp∧(c=true→cp=n)):VRel Im ι w (Qk c b) v:=by
 obtain ⟨a,n,cp,rfl,hc⟩:=hs
 cases c with
 | true=>cases hc rfl;exact ⟨h,a,n,rfl⟩
 | false=>exact ⟨h,a,n,cp,rfl⟩
theorem Gm {c:Nat} {T:TypeId} {e:List CSh} {l:LD} {xs:List Value} {v:Value} {w':World} (m:Mem C E hp Im ι w) (hc:ι c=none) (h1:∀ b,b≠c→hp'.getD b .none=hp.getD b .none) (h2:hp'.getD c .none= .own T e l)
  (hg:w.grownBy w' none) (ho:OwnV w' T e.length v l.length xs) (hf:FlatRel Im w e l xs) (hk:∀ k,aB v=some k→w.heap.size≤k):
  Mem C E hp' Im (ιset ι c v) w'∧Later Im ι w Im (ιset ι c v) w':=by
 refine Mem.step c m hg (fun k h=>by cases h) (fun _ h=>h) (fun _ h=> .inl h) (ιset_keeps hc _) (fun b hb=>⟨ιset_other _ _ _ hb,.inl (h1 b hb)⟩) fun v' hv=> ?_
 rw [ιset_same] at hv
 cases hv
 rw [h2]
 have hl:=fF hg m.mr.imlt (fun k h=>by cases h) (Im':=Im) (fun _ h=>h) (ιset_keeps hc v)
 exact ⟨⟨xs,ho,hf.mono hl.im hl.mem⟩,fun k _ h=> .inr ⟨hk k h,fun h'=>absurd (m.mr.imlt _ h') (by have:=hk k h;omega)⟩⟩
theorem ahb {w':World} (m:Mem C E hp Im ι w) (hg:w.grownBy w' none) (c:Nat) (hc:ι c=none):
  Mem C E hp (fun i=>Im i∨(w.heap.size≤i∧i<w'.heap.size)) ι w'∧Later Im ι w (fun i=>Im i∨(w.heap.size≤i∧i<w'.heap.size)) ι w':=
 Mem.step c m hg (fun k h=>by cases h) (fun _ h=> .inl h) (fun _ h=>h) (fun _ _ h=>h) (fun b hb=>⟨rfl,.inl rfl⟩) fun v hv=>by rw [hc] at hv;cases hv
theorem Mem.same {w':World} (m:Mem C E hp Im ι w) (hg:w.grownBy w' none):
  Mem C E hp (fun i=>Im i∨(w.heap.size≤i∧i<w'.heap.size)) ι w'∧Later Im ι w (fun i=>Im i∨(w.heap.size≤i∧i<w'.heap.size)) ι w':=by
 have hl:=fF hg m.mr.imlt (fun k h=>by cases h) (Im':=fun i=>Im i∨(w.heap.size≤i∧i<w'.heap.size)) (ι:=ι) (ι':=ι) (fun _ h=> .inl h) (fun _ _ h=>h)
 refine ⟨?_,hl⟩
 have key:=Mem.step (hp:=hp) (hp':=hp) (ι:=fun b=>ι b) (ι':=fun b=>ι b) (row:=none) hp.length m hg (fun k h=>by cases h) (fun _ h=> .inl h) (fun _ h=>h) (fun _ _ h=>h) (fun b hb=>⟨rfl,.inl rfl⟩)
 refine (key fun v hv=> ?_).1
 have e0:hp.getD hp.length .none= .none:=by rw [ay,gd (ar5 _)];rfl
 rw [e0]
 exact ⟨trivial,fun k h=>by cases h⟩
theorem rO {b r:Nat} {T:TypeId} {cs:List SV} {vs:List Value} {cur:Array Value} (m:Mem C E hp Im ι w) (hb:ι b=some (.pointer (some ⟨r,0,none⟩))) (hlive:aM (hp.getD b .none)=true)
  (hr:w.heap[r]? =some (.cells cur T (0,0))) (h1:∀ b',b'≠b→hp'.getD b' .none=hp.getD b' .none) (h2:hp'.getD b .none= .cells T cs) (hcs:CellsRel Im ι w cs vs):
  Mem C E hp' Im ι (w.setRow r vs.toArray)∧Later Im ι w Im ι (w.setRow r vs.toArray):=by
 have hg:w.grownBy (w.setRow r vs.toArray) (some r):=⟨rfl,rfl,rfl,by simp,fun k _ hk=>setRow_other w r k _ (fun e=>hk (by rw [e]))⟩
 have hl:=fF hg m.mr.imlt (fun k h=>by cases h;exact m.mr.imm b _ r hlive hb rfl) (Im':=Im) (ι:=ι) (ι':=ι) (fun _ h=>h) (fun _ _ h=>h)
 refine Mem.step b m hg (fun k h=>⟨b,_,hb,hlive,by cases h;rfl,.inl rfl⟩) (fun _ h=>h) (fun _ h=> .inl h) (fun _ _ h=>h) (fun b' hb'=>⟨rfl,.inl (h1 b' hb')⟩) fun v hv=> ?_
 rw [hb] at hv
 cases hv
 rw [h2]
 exact ⟨⟨r,vs,rfl,setRow_heap w r cur _ T _ hr,hcs.mono hl⟩,fun k _ hk=> .inl (by cases hk;rfl)⟩
theorem rg {b:Nat} {T:TypeId} {e:List CSh} {l:LD} {xs:List Value} {v:Value} {w':World} (m:Mem C E hp Im ι w) (hb:ι b=some v) (hlive:aM (hp.getD b .none)=true)
  (hg:w.grownBy w' (aB v)) (h1:∀ b',b'≠b→hp'.getD b' .none=hp.getD b' .none) (h2:hp'.getD b .none= .own T e l) (ho:OwnV w' T e.length v l.length xs) (hf:FlatRel Im w e l xs):
  Mem C E hp' Im ι w'∧Later Im ι w Im ι w':=by
 have hl:=fF hg m.mr.imlt (fun k h=>m.mr.imm b _ k hlive hb h) (Im':=Im) (ι:=ι) (ι':=ι) (fun _ h=>h) (fun _ _ h=>h)
 refine Mem.step b m hg (fun k h=>⟨b,_,hb,hlive,h,.inl rfl⟩) (fun _ h=>h) (fun _ h=> .inl h) (fun _ _ h=>h) (fun b' hb'=>⟨rfl,.inl (h1 b' hb')⟩) fun v' hv=> ?_
 rw [hb] at hv
 cases hv
 rw [h2]
 exact ⟨⟨xs,ho,hf.mono hl.im hl.mem⟩,fun k _ hk=> .inl hk⟩
theorem MP {b c:Nat} {T:TypeId} {e:List CSh} {l:LD} {xs:List Value} {v v':Value} {w':World} (m:Mem C E hp Im ι w) (hb:ι b=some v) (hc:ι c=none) (hlive:aM (hp.getD b .none)=true)
  (hg:w.grownBy w' (aB v)) (h1:∀ b',b'≠b→b'≠c→hp'.getD b' .none=hp.getD b' .none) (h2:hp'.getD c .none= .own T e l) (h3:hp'.getD b .none= .none) (ho:OwnV w' T e.length v' l.length xs) (hf:FlatRel Im w e l xs)
  (hk:∀ k,aB v'=some k→aB v=some k∨w.heap.size≤k):
  Mem C E hp' Im (ιset ι c v') w'∧Later Im ι w Im (ιset ι c v') w':=by
 have hl:=fF hg m.mr.imlt (fun k h=>m.mr.imm b _ k hlive hb h) (Im':=Im) (fun _ h=>h) (ιset_keeps hc v')
 refine Mem.step c m hg (fun k h=>⟨b,_,hb,hlive,h,.inr h3⟩) (fun _ h=>h) (fun _ h=> .inl h) (ιset_keeps hc _) (fun b' hb'=>⟨ιset_other _ _ _ hb',?_⟩) fun u hu=> ?_
 ·by_cases h:b'=b
  ·subst h;exact .inr h3
  ·exact .inl (h1 b' h hb')
 ·rw [ιset_same] at hu
  cases hu
  rw [h2]
  exact ⟨⟨xs,ho,hf.mono hl.im hl.mem⟩,fun k _ h=>(hk k h).imp id fun h'=>⟨h',fun h''=>absurd (m.mr.imlt _ h'') (by omega)⟩⟩
theorem MW {b:Nat} {v:Value} {w':World} (m:Mem C E hp Im ι w) (hb:ι b=some v) (hlive:aM (hp.getD b .none)=true)
  (hg:w.grownBy w' (aB v)) (h1:∀ b',b'≠b→hp'.getD b' .none=hp.getD b' .none) (h2:hp'.getD b .none= .none):
  Mem C E hp' (fun i=>Im i∨aB v=some i) ι w'∧Later Im ι w (fun i=>Im i∨aB v=some i) ι w':=by
 have hoth:∀ b' u,ι b'=some u→aM (hp'.getD b' .none)=true→b'≠b∧aM (hp.getD b' .none)=true:=fun b' u h3 h4=>by
  by_cases e:b'=b
  ·subst e;rw [h2] at h4;cases h4
  ·rw [h1 b' e] at h4;exact ⟨e,h4⟩
 obtain ⟨k1,k2⟩:=Mem.step (hp':=hp') (ι':=ι) (Im':=Im) b m hg (fun k h=>⟨b,v,hb,hlive,h,.inr h2⟩) (fun _ h=>h) (fun _ h=> .inl h) (fun _ _ h=>h) (fun b' hb'=>⟨rfl,.inl (h1 b' hb')⟩) fun u hu=>by
  rw [h2]
  exact ⟨trivial,fun k h=>by cases h⟩
 have hlt:∀ r,aB v=some r→r<w.heap.size:=fun r hr=>by
  have hv:=m.hv b v hb
  cases hblk:hp.getD b .none with
  | none=>rw [hblk] at hlive;cases hlive
  | ro e l=>rw [hblk] at hlive;cases hlive
  | cells T cs=>
   rw [hblk] at hv
   obtain ⟨r',vs,rfl,h4,_⟩:=hv
   cases hr
   exact (asu.1 h4).1
  | own T e l=>
   rw [hblk] at hv
   obtain ⟨xs,⟨_,h2⟩,_⟩:=hv
   rcases h2 with ⟨a,rfl,_⟩ | ⟨g,cap,cur,rfl,h4,_,h6,_⟩
   ·exfalso
    revert hr
    cases a <;>simp [aB]
   ·simp [aB] at hr
    obtain ⟨_,rfl⟩:=hr
    exact (asu.1 h4).1
 have hl:Later Im ι w' (fun i=>Im i∨aB v=some i) ι w':=⟨fun _ h=> .inl h,fun _ _ h=>h,fun _ _=>rfl⟩
 refine ⟨⟨fun b' u h=>BRel.later hl (fun _ _ _=>rfl) (k1.hv b' u h),⟨fun i hi=> ?_,fun b' u r h3 h4 h5=> ?_,k1.mr.sep,k1.mr.mine⟩,⟨k1.since.os,k1.since.tape,k1.since.output,k1.since.size,k1.since.block,k1.since.hd,fun i hi=> .inl (k1.since.im i hi),fun i hi=> ?_⟩,k1.glob.later hl⟩,k2.trans hl⟩
 ·rcases hi with h | h
  ·exact k1.mr.imlt i h
  ·exact asG (hlt i h) hg.size
 ·rintro (h | h)
  ·exact k1.mr.imm b' u r h3 h4 h5 h
  ·obtain ⟨h6,h7⟩:=hoth b' u h4 h3
   exact h6 (m.mr.sep b' b u v r h7 hlive h4 hb h5 h)
 ·rcases hi with h | h
  ·exact k1.since.imnew i h
  ·exact .inr (m.mr.mine b v i hlive hb h)
structure Aft (B:Ent) (n:Nat) (Im:Nat→Prop) (ι:Nat→Option Value) (w:World):Prop where
 later:Later B.Im B.ι B.w Im ι w
 keep:∀ b,B.F b→b<n∧ι b=B.ι b
theorem Aft.step {n n':Nat} {Im':Nat→Prop} {ι':Nat→Option Value} {w':World} (h:Aft B n Im ι w) (hl:Later Im ι w Im' ι' w') (hn:n≤n') (hι:∀ b,b<n→ι' b=ι b):Aft B n' Im' ι' w':=
 ⟨h.later.trans hl,fun b hb=>⟨asG (h.keep b hb).1 hn,(hι b (h.keep b hb).1).trans (h.keep b hb).2⟩⟩
theorem Aft.len {n n':Nat} (h:Aft B n Im ι w) (hn:n≤n'):Aft B n' Im ι w:=h.step (Later.refl _ _ _) hn fun _ _=>rfl
def jl (C:Ctx) (E B:Ent) (s:AS) (a:Act) (w:World):Prop:=∃ Im ι,Rel C E s Im ι a w∧q9 s.hp.length ι∧Aft B s.hp.length Im ι w
theorem ak8 (s:AS) (d:Option Tmp) (sv:SV):(s.put d sv).hp=s.hp:=by cases d <;>rfl
theorem ie {s s':AS} {d:Option Tmp} {sv:SV} {Im':Nat→Prop} {ι':Nat→Option Value} {w':World} (h:Aft B s.hp.length Im ι w) (hl:Later Im ι w Im' ι' w') (hn:s.hp.length≤s'.hp.length) (hι:∀ b,b<s.hp.length→ι' b=ι b):Aft B (s'.put d sv).hp.length Im' ι' w':=by
 rw [ak8];exact h.step hl hn hι
theorem wq {ι:Nat→Option Value} {c:Nat} {v:Value} {n:Nat} (h:q9 c ι) (hn:c<n):q9 n (ιset ι c v):=fun b hb=>by
 rw [ιset_other _ _ _ (by omega)];exact h b (by omega)
theorem mY:VRel Im ι w SV.undef undef:=⟨[],rfl,rfl⟩
theorem CR.wp_mono {hp:List Blk} {K K':SV→List Blk→Prop} (h:∀ sv hp,K sv hp→K' sv hp):∀ c:CR,c.wp hp K→c.wp hp K'
 | .bad,k=>k
 | .need p c,k=>⟨k.1,CR.wp_mono h c k.2⟩
 | .know p c,k=>fun hp'=>CR.wp_mono h c (k hp')
 | .ret sv upd news,k=>h _ _ k
 | .anyI f,k=>fun n=>CR.wp_mono h (f n) (k n)
 | .anyB f,k=>fun n=>CR.wp_mono h (f n) (k n)
 | .anyL f,k=>fun n=>CR.wp_mono h (f n) (k n)
 | .ite true c1 c2,k=>CR.wp_mono h c1 k
 | .ite false c1 c2,k=>CR.wp_mono h c2 k
theorem CallSem.mono {P:Program} {f:FuncId} {vs:Array Value} {w:World} {R R':Ending→World→Prop} (h:CallSem P f vs w R) (hr:∀ e w',R e w'→R' e w'):CallSem P f vs w R':=by
 rcases h with ⟨h1,h2⟩ | ⟨v,h1,h2⟩
 ·exact .inl ⟨h1,Calls.mono h2 hr⟩
 ·exact .inr ⟨v,h1,hr _ _ h2⟩
theorem ou (hC:C.Ok) {o:Oper} {s:AS} {a:Act} (hR:Rel C E s Im ι a w) (hF:q9 s.hp.length ι) (hB:Aft B s.hp.length Im ι w) {K:AS→Prop} {Q:Exit→Act→World→Prop} {run:Result Next} :
  ∀ r,bi C.P Im ι w run r→l6 C o.dst s K r→o.upon C.P a (fun a' w'=>∃ s',K s'∧jl C E B s' a' w') Q run
 | .bad,_,h=>h.elim
 | .need p r,hs,h=>ou hC hR hF hB r (hs h.1) h.2
 | .know p r,hs,h=>ou hC hR hF hB r hs.2 (h hs.1)
 | .split b r1 r2,hs,h=>by
  cases hb:b with
  | true=>exact ou hC hR hF hB r1 (hs.1 hb) (h.1 hb)
  | false=>exact ou hC hR hF hB r2 (hs.2 hb) (h.2 hb)
 | .val sv,hs,h=>by
  obtain ⟨v,rfl,hv⟩:=hs
  exact ⟨_,h,Im,ι,hR.put (Later.refl _ _ _) hR.mem o.dst hv,by cases hd:o.dst <;>exact hF,ie hB (Later.refl _ _ _) (ar5 _) fun _ _=>rfl⟩
 | .new T cs,hs,h=>by
  obtain ⟨vs,rfl,hv⟩:=hs
  obtain ⟨hm,hl⟩:=ND hR.mem (hF _ (ar5 _)) (fun b hb=>tu _ _ hb) (vC s.hp (.cells T cs)) hv
  exact ⟨_,h,Im,_,hR.put hl hm o.dst ⟨_,ιset_same _ _ _,rfl⟩,by cases hd:o.dst <;>exact wq hF (by simp [AS.put]),ie hB hl (by simp) fun b hb=>ιset_other _ _ _ (atz hb)⟩
 | .newRo sv,hs,h=>by
  obtain ⟨v,w',rfl,hg,hv⟩:=hs
  obtain ⟨hm,hl⟩:=ahb hR.mem hg s.hp.length (hF _ (ar5 _))
  exact ⟨_,h,_,ι,hR.put hl hm o.dst hv,by cases hd:o.dst <;>exact hF,ie hB hl (ar5 _) fun _ _=>rfl⟩
 | .newOwn c T e l,hs,h=>by
  obtain ⟨v,w',xs,rfl,hg,hsl,ho,hf,hk⟩:=hs
  obtain ⟨hm,hl⟩:=Gm hR.mem (hF _ (ar5 _)) (fun b hb=>tu _ _ hb) (vC s.hp (.own T e l)) hg ho hf hk
  exact ⟨_,h,Im,_,hR.put hl hm o.dst (Hz (ιset_same _ _ _) hsl),by cases hd:o.dst <;>exact wq hF (by simp [AS.put]),ie hB hl (by simp) fun b hb=>ιset_other _ _ _ (atz hb)⟩
 | .upd b (.cells T cs),hs,h=>by
  obtain ⟨r,vs,cur,T',hb,hr,rfl,rfl,hv⟩:=hs
  obtain ⟨hm,hl⟩:=rO hR.mem hb h.1 hr (fun b' hb'=>gK _ _ hb') (ft s.hp _ (mV h.1)) hv
  exact ⟨_,h.2,Im,ι,hR.put hl hm o.dst mY,by cases hd:o.dst <;>simpa [AS.put] using hF,ie hB hl (by simp) fun _ _=>rfl⟩
 | .upd b (.own T e l),hs,h=>by
  obtain ⟨v,w',xs,hb,rfl,hg,_,ho,hf⟩:=hs
  obtain ⟨hm,hl⟩:=rg hR.mem hb h.1 hg (fun b' hb'=>gK _ _ hb') (ft s.hp _ (mV h.1)) ho hf
  exact ⟨_,h.2,Im,ι,hR.put hl hm o.dst mY,by cases hd:o.dst <;>simpa [AS.put] using hF,ie hB hl (by simp) fun _ _=>rfl⟩
 | .upd b .none,hs,_=>hs.elim
 | .upd b (.ro ..),hs,_=>hs.elim
 | .cpy b (.own T e l),hs,h=>by
  obtain ⟨v,w',xs,u,hb,rfl,hg,_,ho,hf⟩:=hs
  obtain ⟨hm,hl⟩:=rg hR.mem hb h.1 hg (fun b' hb'=>gK _ _ hb') (ft s.hp _ (mV h.1)) ho hf
  exact ⟨_,h.2,Im,ι,hR.put hl hm o.dst trivial,by cases hd:o.dst <;>simpa [AS.put] using hF,ie hB hl (by simp) fun _ _=>rfl⟩
 | .cpy b .none,hs,_=>hs.elim
 | .cpy b (.cells ..),hs,_=>hs.elim
 | .cpy b (.ro ..),hs,_=>hs.elim
 | .app b T e l,hs,h=>by
  obtain ⟨v,v',w',xs,hb,rfl,hg,hsl,ho,hf,hk⟩:=hs
  have hlt:=mV h.1
  obtain ⟨hm,hl⟩:=MP (hp':=s.hp.set b .none++ [.own T e l]) (c:=s.hp.length) hR.mem hb (hF _ (ar5 _)) h.1 hg
   (fun b' h1 h2=>by rw [tu _ _ (by simpa using h2),gK _ _ h1])
   (by simp)
   (by rw [tu _ _ (by simp;omega),ft _ _ hlt]) ho hf hk
  exact ⟨_,h.2,Im,_,hR.put hl hm o.dst ⟨ιset_same _ _ _,hsl⟩,by cases hd:o.dst <;>exact wq hF (by simp [AS.put]),ie hB hl (by simp) fun b hb=>ιset_other _ _ _ (atz hb)⟩
 | .frz b sv,hs,h=>by
  obtain ⟨v,v',w',hb,rfl,hg,hv⟩:=hs
  obtain ⟨hm,hl⟩:=MW (hp':=s.hp.set b .none) hR.mem hb h.1 hg (fun b' hb'=>gK _ _ hb') (ft s.hp _ (mV h.1))
  exact ⟨_,h.2,_,ι,hR.put hl hm o.dst hv,by cases hd:o.dst <;>simpa [AS.put] using hF,ie hB hl (by simp) fun _ _=>rfl⟩
 | .anyB f,hs,h=>by
  obtain ⟨β,rfl,hf⟩:=hs
  exact ⟨_,h β hf,Im,ι,hR.put (Later.refl _ _ _) hR.mem o.dst rfl,by cases hd:o.dst <;>exact hF,ie hB (Later.refl _ _ _) (ar5 _) fun _ _=>rfl⟩
 | .call f svs,hs,h=>by
  obtain ⟨vs,hv,rfl⟩:=hs
  have hc:=hC.spec f svs s.hp (fun sv hp'=>K (({s with hp:=hp'} :AS).put o.dst sv)) (fun b=>s.hp.length≤b) (CR.wp_mono (fun sv hp' k=>⟨k,fun b hb _=>hb⟩) _ h) E Im ι w vs hR.mem hF hv
  have hpost:∀ v w',mG C E Im ι w s.hp.length (fun sv hp'=>K (({s with hp:=hp'} :AS).put o.dst sv)) (.returned v) w'→∃ s',K s'∧jl C E B s' (a.put o.dst v) w':=fun v w' hp=>by
   obtain ⟨v',sv,hp',Im',ι',h1,h2,h3,h4,hn,h5,h6⟩:=hp
   cases h1
   have hF':q9 hp'.length ι':=fun b hb=>by
    rw [h5 b (by omega)]
    exact hF b (by omega)
   exact ⟨_,h2,Im',ι',hR.put h6 h4 o.dst h3,by cases hd:o.dst <;>exact hF',ie hB h6 hn fun b hb=>h5 b (by omega)⟩
  rcases hc with ⟨h1,h2⟩ | ⟨v,h1,h2⟩
  ·rw [h1]
   show Calls _ _ _ _ _
   refine Calls.mono h2 fun e w' he=> ?_
   cases e with
   | returned v=>exact hpost v w' he
   | panicked c=>obtain ⟨v',sv,hp',Im',ι',h1,_⟩:=he;cases h1
   | outgrown=>obtain ⟨v',sv,hp',Im',ι',h1,_⟩:=he;cases h1
  ·rw [h1]
   exact hpost v w h2
end
end Go.Avc
namespace Go.Avc
set_option linter.unusedVariables false
set_option linter.unusedSimpArgs false
section
variable {C:Ctx} {E B:Ent} {Im:Nat→Prop} {ι:Nat→Option Value} {w:World} {a:Act} {s:AS}
theorem Ee {tm:List SV} (htm:∀ t,VRel Im ι w (aH tm t) (a.tmps.getD t undef)) (hg:Globs C Im ι w) {hp:List Blk} (x:Operand):VRel Im ι w (AS.ev C.glob ⟨tm,hp⟩ x) (a.eval x):=by
 cases x with
 | tmp t=>exact htm t
 | const v=>exact Mb v
 | global g=>
  show VRel Im ι w ((C.glob g).getD .dead) (.pointer (some ⟨g,0,none⟩))
  cases h:C.glob g with
  | none=>trivial
  | some sv=>exact hg g sv h
 | func f=>exact ⟨[],rfl,rfl⟩
theorem getD_some {xs:Array Value} {t:Nat} {v:Value} (h:xs.getD t undef=v) (hv:v≠undef):xs[t]? =some v:=by
 rw [atA] at h
 cases hx:xs[t]? with
 | none=>rw [hx] at h;exact absurd h.symm hv
 | some u=>rw [hx] at h;simpa using h
theorem sX {all:Array Oper} {o:Oper} {yes no:Prop} (htm:∀ t,VRel Im ι w (aH s.tm t) (a.tmps.getD t undef)) (h:dz all o s yes no):
  (Region.wanted o (yielded all a.tmps)=true∧yes)∨(Region.wanted o (yielded all a.tmps)=false∧no):=by
 unfold dz at h
 unfold Region.wanted
 split at h
 ·rename_i hg
  rw [hg]
  exact .inl ⟨rfl,h⟩
 ·rename_i j want hg
  rw [hg]
  split at h
  ·rename_i d hd
   have hy:yielded all a.tmps j=match a.tmps[d]? with | some (.bool b)=>some b | _=>none:=by
    unfold yielded
    rw [hd]
    rfl
   split at h
   ·rename_i b hb
    have hv:=htm d
    rw [hb] at hv
    have hv':a.tmps[d]? =some (.bool b):=getD_some hv (by simp [undef])
    rw [hv'] at hy
    by_cases hbw:b=want
    ·refine .inl ⟨?_,h.1 hbw⟩
     simp [hy,hbw]
    ·refine .inr ⟨?_,h.2 hbw⟩
     simp [hy,hbw]
   ·rename_i hb
    have hv:=htm d
    rw [hb] at hv
    obtain ⟨vs,h1,h2⟩:=hv
    cases (show vs= [] from h2)
    refine .inr ⟨?_,h⟩
    have:yielded all a.tmps j=none:=by
     rw [hy]
     rw [atA] at h1
     cases hx:a.tmps[d]? with
     | none=>rfl
     | some u=>rw [hx] at h1;cases (show u=_ from h1);rfl
    simp [this]
   ·exact h.elim
  ·rename_i hd
   refine .inr ⟨?_,h⟩
   have:yielded all a.tmps j=none:=by
    unfold yielded
    rw [hd]
    rfl
   simp [this]
theorem Ep (hC:C.Ok) {all:Array Oper} {o:Oper} (hR:jl C E B s a w) {K:AS→Prop} {Q:Exit→Act→World→Prop}
  (h:dz all o s (l6 C o.dst s K (iL C.P C.zero (s.ev C.glob) s.hp o.op)) (K (s.put o.dst .undef))):
  (Region.wanted o (yielded all a.tmps)=true∧o.wp C.P a w (fun a' w'=>∃ s',K s'∧jl C E B s' a' w') Q)∨
   (Region.wanted o (yielded all a.tmps)=false∧∃ s',K s'∧jl C E B s' (a.put o.dst undef) w):=by
 obtain ⟨Im,ι,hR,hF,hB⟩:=hR
 rcases sX hR.tm h with ⟨h1,h2⟩ | ⟨h1,h2⟩
 ·refine .inl ⟨h1,?_⟩
  exact ou hC hR hF hB _ (Kv hC.zero hR.mem.mr.imlt hR.mem.hv fun x _=>Ee hR.tm hR.mem.glob x) h2
 ·exact .inr ⟨h1,_,h2,Im,ι,hR.put (Later.refl _ _ _) hR.mem o.dst mY,by cases hd:o.dst <;>exact hF,ie hB (Later.refl _ _ _) (ar5 _) fun _ _=>rfl⟩
theorem BX (hC:C.Ok) {ops:Array Oper} {K:AS→Prop} {Q:Exit→Act→World→Prop} (hQ:∀ s a w,K s→jl C E B s a w→Q .normal a w):
  ∀ (l:List Oper) (i:Nat),l=ops.toList.drop i→∀ s a w,jl C E B s a w→tE C ops l s K→wpOps C.P ops Q (List.range' i l.length) a w
 | [],i,_,s,a,w,hR,h=>hQ s a w h hR
 | o::l,i,hl,s,a,w,hR,h=>by
  have ho:ops[i]? =some o:=by
   have:(ops.toList.drop i)[0]? =some o:=by rw [← hl];rfl
   simpa using this
  have hl':l=ops.toList.drop (i+1):=by
   have:(ops.toList.drop i).drop 1=l:=by rw [← hl];rfl
   rw [← this,List.drop_drop]
  have ih:=BX hC hQ l (i+1) hl'
  simp only [List.length_cons,List.range'_succ,wpOps,ho]
  rcases Ep (Q:=Q) hC hR (K:=fun s'=>tE C ops l s' K) (wu h) with ⟨h1,h2⟩ | ⟨h1,s',h2,h3⟩
  ·rw [if_pos h1]
   exact .inl (Oper.wp_mono (fun a w ⟨s',k,r⟩=>ih s' a w r k) h2)
  ·rw [if_neg (by simp [h1])]
   exact ih s' _ w h3 h2
theorem I1 (hC:C.Ok) {id:Nat} {ops:Array Oper} {K:AS→Prop} {Q:Exit→Act→World→Prop} (hQ:∀ s a w,K s→jl C E B s a w→Q .normal a w) (hR:jl C E B s a w) (h:tE C ops ops.toList s K):
  (Code.region id ops false).wp C.P Q a w:=by
 refine wp_region ?_
 have:=BX hC hQ ops.toList 0 (by simp) s a w hR h
 rwa [List.range_eq_range',← asc]
end
end Go.Avc
namespace Go.Avc
set_option linter.unusedVariables false
set_option linter.unusedSimpArgs false
def SV.h1:SV→List Nat
 | .ptr b _=> [b]
 | .aptr b _ _=> [b]
 | .own b=> [b]
 | .lit b=> [b]
 | .win b _ _ _ _=> [b]
 | .optr b _ _ _=> [b]
 | .ow b _ _ _=> [b]
 | _=> []
mutual
def SV.hs:SV→List Nat
 | .agg cs=>hsL cs
 | .fn _ cs=>hsL cs
 | .fb _ cs=>hsL cs
 | .tup cs=>hsL cs
 | .sls cs=>hsL cs
 | .iface _ v=>v.hs
 | s=>s.h1
def hsL:List SV→List Nat
 | [] => []
 | s::cs=>s.hs++hsL cs
end
def Blk.hs:Blk→List Nat
 | .cells _ cs=>hsL cs
 | _=> []
def yC (hp:List Blk):Nat→List Nat→List Nat
 | 0,l=>l
 | n+1,l=>match (l.flatMap fun b=>(hp.getD b .none).hs) with | [] =>l | m=>l++yC hp n m
def si (glob:Nat→Option SV) (s:AS):Op→List Nat
 | .load _ a=>(s.ev glob a).h1
 | .store _ a _=>(s.ev glob a).h1
 | .indexAddr _ x _=>(s.ev glob x).h1
 | .slice _ x _ _ _=>(s.ev glob x).h1
 | .convert _ _ x=>(s.ev glob x).h1
 | .sliceToArrayPointer _ x=>(s.ev glob x).h1
 | .call c=>(match c.callee with
  | .builtin _=>c.args.toList.flatMap fun x=>(s.ev glob x).h1
  | .value f=>yC s.hp 6 ((s.ev glob f).hs++c.args.toList.flatMap fun x=>(s.ev glob x).hs)
  | .invoke r _=>yC s.hp 6 ((s.ev glob r).hs++c.args.toList.flatMap fun x=>(s.ev glob x).hs))
 | _=> []
def bn (A:List Nat):Nat→List Blk→List Blk
 | _,[] => []
 | i,x::xs=>(if A.contains i then x else .none)::bn A (i+1) xs
structure Eff where
 dst:Option Tmp
 sv:SV
 acc:List Nat
 upd:List (Nat×Blk)
 base:Nat
 news:List Blk
def cR:List (Nat×Blk)→Nat→Option Blk
 | [],_=>none
 | (b,x)::l,i=>match cR l i with | some y=>some y | none=>if b=i then some x else none
def Eff.hpW (e:Eff) (b:Nat):Option Blk:=if e.base≤b then e.news[b-e.base]? else cR e.upd b
def kK:Nat→List Blk→List Nat
 | _,[] => []
 | n,_::l=>n::kK (n+1) l
def Eff.key (e:Eff):List Nat×List Nat:=(e.acc,e.upd.map (·.1)++kK e.base e.news)
def Eff.tmW (e:Eff) (n:Nat) (t:Nat):Option SV:=if e.dst=some t then (if t<n then some e.sv else none) else none
def AS.app (s:AS) (e:Eff):AS:=(⟨s.tm,bq s.hp e.upd++e.news⟩:AS).put e.dst e.sv
section
variable (C:Ctx)
def qJ (A:List Nat) (n:Nat):List (Nat×Blk)→Bool
 | [] =>true
 | (b,_)::l=>A.contains b&&decide (b<n)&&qJ A n l
def CR.dr (A:List Nat) (n:Nat) (K:SV→List (Nat×Blk)→List Blk→Prop):CR→Prop
 | .need p c=>p∧c.dr A n K
 | .know _ c=>c.dr A n K
 | .ret sv upd news=>qJ A n upd=true∧K sv upd news
 | .ite b c1 c2=>bif b then c1.dr A n K else c2.dr A n K
 | _=>False
def kH (o:Oper) (A:List Nat) (s:AS) (K:Eff→Prop):OR→Prop
 | .bad=>False
 | .need p r=>p∧kH o A s K r
 | .know _ r=>kH o A s K r
 | .split b r1 r2=>(b=true→kH o A s K r1)∧(b=false→kH o A s K r2)
 | .val sv=>K ⟨o.dst,sv,A,[],s.hp.length,[]⟩
 | .new T cs=>K ⟨o.dst,.ptr s.hp.length 0,A,[],s.hp.length,[.cells T cs]⟩
 | .newRo sv=>K ⟨o.dst,sv,A,[],s.hp.length,[]⟩
 | .newOwn c T e l=>K ⟨o.dst,Qk c s.hp.length,A,[],s.hp.length,[.own T e l]⟩
 | .upd b blk=>aM ((bn A 0 s.hp).getD b .none)=true∧K ⟨o.dst,.undef,A,[(b,blk)],s.hp.length,[]⟩
 | .cpy b blk=>aM ((bn A 0 s.hp).getD b .none)=true∧K ⟨o.dst,.dead,A,[(b,blk)],s.hp.length,[]⟩
 | .app b T e l=>aM ((bn A 0 s.hp).getD b .none)=true∧K ⟨o.dst,.own s.hp.length,A,[(b,.none)],s.hp.length,[.own T e l]⟩
 | .frz b sv=>aM ((bn A 0 s.hp).getD b .none)=true∧K ⟨o.dst,sv,A,[(b,.none)],s.hp.length,[]⟩
 | .anyB _=>False
 | .call f svs=>(C.spec f svs (bn A 0 s.hp)).dr A s.hp.length fun sv upd news=>K ⟨o.dst,sv,A,upd,s.hp.length,news⟩
def qL (all:Array Oper):List Oper→AS→List (List Nat×List Nat)→(AS→List (List Nat×List Nat)→Prop)→Prop
 | [],s,es,K=>K s es
 | o::rest,s,es,K=>
  qw all o s
   (fun s=>kH C o (si C.glob s o.op) s (fun e=>qL all rest (s.app e) (es++ [e.key]) K) (iL C.P C.zero (s.ev C.glob) (bn (si C.glob s o.op) 0 s.hp) o.op))
   (fun s=>qL all rest (s.put o.dst .undef) (es++ [([],[])]) K)
end
def Ut:List Oper→List Nat→List Nat
 | [],m=>m
 | o::rest,m=>Ut rest (m++ [o.after.toList.foldl (fun acc e=>if Region.binds .any e then acc |||(1 <<< e.on) |||m.getD e.on 0 else acc) 0])
def jD (all:Array Oper) (oi oj:Oper) (ki kj:List Nat×List Nat):Bool:=
 (match oi.dst with | some d=>(oj.looksAt all).contains d||oj.dst==some d | none=>false) ||
 (match oj.dst with | some d=>(oi.looksAt all).contains d | none=>false) ||
 ki.2.any (fun b=>kj.1.contains b||kj.2.contains b)||kj.2.any (fun b=>ki.1.contains b)
def Fx (all:Array Oper) (m:List Nat) (es:List (List Nat×List Nat)):Bool:=
 (asg all.size).all fun j=>(asg j).all fun i=>
  match all[i]?,all[j]?,es[i]?,es[j]? with
  | some oi,some oj,some ki,some kj=> !jD all oi oj ki kj||(m.getD j 0).testBit i
  | _,_,_,_=>true
def GM (all:Array Oper):Bool:=(asg all.size).all fun j=>match all[j]? with | some o=>o.after.toList.all fun e=> !Region.binds .any e||decide (e.on<j) | none=>true
def gG (all:Array Oper) (es:List (List Nat×List Nat)):Bool:=GM all&&Fx all (Ut all.toList []) es
def Tq (C:Ctx) (all:Array Oper) (s:AS) (K:AS→Prop):Prop:=qL C all all.toList s [] fun s' es=>gG all es=true∧K s'
theorem se (A:List Nat):∀ (hp:List Blk) (i:Nat),(bn A i hp).length=hp.length
 | [],_=>rfl
 | x::xs,i=>by simp [bn,se A xs (i+1)]
theorem n8 (A:List Nat):∀ (hp:List Blk) (i b:Nat),(bn A i hp).getD b .none=if A.contains (i+b) then hp.getD b .none else .none
 | [],i,b=>by simp [bn]
 | x::xs,i,0=>by simp [bn]
 | x::xs,i,b+1=>by
  have:=n8 A xs (i+1) b
  simp only [bn,List.getD_cons_succ]
  rw [this,show i+1+b=i+(b+1) from by omega]
theorem ig:∀ (l:List (Nat×Blk)) (hp:List Blk),(bq hp l).length=hp.length
 | [],_=>rfl
 | (b,x)::l,hp=>by simp [bq,ig l]
theorem BV:∀ (l:List (Nat×Blk)) (hp:List Blk) (i:Nat),i<hp.length→(bq hp l).getD i .none=(cR l i).getD (hp.getD i .none)
 | [],_,_,_=>rfl
 | (b,x)::l,hp,i,h=>by
  simp only [bq]
  rw [BV l _ i (by simpa using h),show cR ((b,x)::l) i=(match cR l i with | some y=>some y | none=>if b=i then some x else none) from rfl]
  cases hu:cR l i with
  | some y=>rfl
  | none=>
   by_cases hb:b=i
   ·subst hb
    simp only [atB,if_true,Option.getD_some]
    exact ft _ _ h
   ·simp only [atB,if_neg hb]
    exact gK _ _ (Ne.symm hb)
theorem yK {A:List Nat} {n:Nat} :∀ {l:List (Nat×Blk)} {i:Nat},qJ A n l=true→cR l i≠none→A.contains i=true∧i<n
 | [],i,_,h=>absurd rfl h
 | (b,x)::l,i,hk,h=>by
  simp only [qJ,cZ,aQ] at hk
  unfold cR at h
  cases hu:cR l i with
  | some y=>exact yK hk.2 (by rw [hu];simp)
  | none=>
   rw [hu] at h
   by_cases hb:b=i
   ·subst hb;exact hk.1
   ·simp [hb] at h
theorem pK (hp:List Blk) (upd:List (Nat×Blk)) (news:List Blk) (b:Nat):
  (bq hp upd++news).getD b .none=((if hp.length≤b then news[b-hp.length]? else cR upd b)).getD (hp.getD b .none):=by
 have hl:=ig upd hp
 by_cases hb:hp.length≤b
 ·rw [if_pos hb]
  have e0:hp.getD b .none= .none:=by rw [ay,gd hb];rfl
  rw [e0,ay,List.getElem?_append_right (by omega),hl]
 ·rw [if_neg hb]
  have e1:(bq hp upd++news).getD b .none=(bq hp upd).getD b .none:=by
   rw [ay,ay,aeU (by omega)]
  rw [e1,BV _ _ _ (by omega)]
section
variable {C:Ctx} {E:Ent}
theorem HV.mask {Im:Nat→Prop} {ι:Nat→Option Value} {w:World} {hp hpS:List Blk} {A:List Nat} (h:HV Im ι w hpS) (he:∀ b,A.contains b=true→hpS.getD b .none=hp.getD b .none):HV Im ι w (bn A 0 hp):=by
 intro b v hb
 rw [n8,aeE]
 split
 ·rename_i hA
  rw [← he b hA]
  exact h b v hb
 ·trivial
theorem CR.dr_wp {A:List Nat} {n:Nat} {hp:List Blk} {K:SV→List (Nat×Blk)→List Blk→Prop} :∀ c:CR,c.dr A n K→∃ sv upd news,qJ A n upd=true∧K sv upd news∧c.wp hp fun sv' hp'=>sv'=sv∧hp'=bq hp upd++news
 | .bad,h=>h.elim
 | .need p c,h=>by
  obtain ⟨sv,upd,news,h1,h2,h3⟩:=CR.dr_wp (hp:=hp) c h.2
  exact ⟨sv,upd,news,h1,h2,h.1,h3⟩
 | .know p c,h=>by
  obtain ⟨sv,upd,news,h1,h2,h3⟩:=CR.dr_wp (hp:=hp) c h
  exact ⟨sv,upd,news,h1,h2,fun _=>h3⟩
 | .ret sv upd news,h=>⟨sv,upd,news,h.1,h.2,rfl,rfl⟩
 | .anyI f,h=>h.elim
 | .anyB f,h=>h.elim
 | .anyL f,h=>h.elim
 | .ite true c1 c2,h=>CR.dr_wp c1 h
 | .ite false c1 c2,h=>CR.dr_wp c2 h
theorem Mem.frame {hpS hpM hpX hpF:List Blk} {Im Im':Nat→Prop} {ι ι':Nat→Option Value} {w w':World} {A:List Nat} {n k:Nat} (m:Mem C E hpS Im ι w)
  (hM:∀ b,hpM.getD b .none=if A.contains b then hpS.getD b .none else .none)
  (hX:Mem C ⟨w,Im,ι,fun r=>∃ b v,A.contains b=true∧ι b=some v∧aM (hpM.getD b .none)=true∧aB v=some r,[]⟩ hpX Im' ι' w')
  (hι:∀ b,¬ (n≤b∧b<n+k)→ι' b=ι b) (hn:∀ b,n≤b→b<n+k→ι b=none)
  (hF1:∀ b,(A.contains b=true∨(n≤b∧b<n+k))→hpF.getD b .none=hpX.getD b .none)
  (hF2:∀ b,A.contains b=false→¬ (n≤b∧b<n+k)→hpF.getD b .none=hpS.getD b .none):
  Mem C E hpF Im' ι' w':=by
 have hl:Later Im ι w Im' ι' w':=⟨hX.since.im,hX.since.hd,fun i hi=>hX.since.block i (m.mr.imlt i hi) fun ⟨b,v,h1,h2,h3,h4⟩=>by
  rw [hM,if_pos h1] at h3
  exact m.mr.imm b v i h3 h2 h4 hi⟩
 have hlt:∀ b v r,aM (hpS.getD b .none)=true→ι b=some v→aB v=some r→r<w.heap.size:=fun b v r h1 h2 h3=>by
  have hb:=m.hv b v h2
  cases hblk:hpS.getD b .none with
  | none=>rw [hblk] at h1;cases h1
  | ro e l=>rw [hblk] at h1;cases h1
  | cells T cs=>
   rw [hblk] at hb
   obtain ⟨r',vs,rfl,h4,_⟩:=hb
   cases h3
   exact (asu.1 h4).1
  | own T e l=>
   rw [hblk] at hb
   obtain ⟨xs,⟨_,h2⟩,_⟩:=hb
   rcases h2 with ⟨a,rfl,_⟩ | ⟨g,cap,cur,rfl,h4,_,h6,_⟩
   ·exfalso
    revert h3
    cases a <;>simp [aB]
   ·simp [aB] at h3
    obtain ⟨_,rfl⟩:=h3
    exact (asu.1 h4).1
 have hout:∀ b v,A.contains b=false→¬ (n≤b∧b<n+k)→ι' b=some v→ι b=some v:=fun b v _ h2 h3=>by rw [← hι b h2];exact h3
 have hnot:∀ b v r,A.contains b=false→ι b=some v→aM (hpS.getD b .none)=true→aB v=some r→¬ ∃ b v,A.contains b=true∧ι b=some v∧aM (hpM.getD b .none)=true∧aB v=some r:=by
  rintro b v r h1 h2 h3 h4 ⟨b',v',h5,h6,h7,h8⟩
  rw [hM,if_pos h5] at h7
  have:=m.mr.sep b b' v v' r h3 h7 h2 h6 h4 h8
  subst this
  rw [h1] at h5;cases h5
 have hpast:∀ r,(∃ b v,A.contains b=true∧ι b=some v∧aM (hpM.getD b .none)=true∧aB v=some r)→E.w.heap.size≤r∨E.F r:=by
  rintro r ⟨b',v',h5,h6,h7,h8⟩
  rw [hM,if_pos h5] at h7
  exact m.mr.mine b' v' r h7 h6 h8
 have hcase:∀ b,(A.contains b=true∨(n≤b∧b<n+k))∨(A.contains b=false∧¬ (n≤b∧b<n+k)):=fun b=>by
  by_cases h:n≤b∧b<n+k
  ·exact .inl (.inr h)
  ·cases hA:A.contains b
   ·exact .inr ⟨rfl,h⟩
   ·exact .inl (.inl rfl)
 refine ⟨?_,⟨hX.mr.imlt,?_,?_,?_⟩,⟨hX.since.os.trans m.since.os,hX.since.tape.trans m.since.tape,hX.since.output.trans m.since.output,aty m.since.size hX.since.size,?_,fun b v h=>hX.since.hd b v (m.since.hd b v h),fun i h=>hX.since.im i (m.since.im i h),?_⟩,hX.glob⟩
 ·intro b v hb
  rcases hcase b with h | ⟨h1,h2⟩
  ·rw [hF1 b h];exact hX.hv b v hb
  ·rw [hF2 b h1 h2]
   have hb':=hout b v h1 h2 hb
   exact BRel.later hl (fun r hr hf=>hX.since.block r (hlt b v r hr hb' hf) (hnot b v r h1 hb' hr hf)) (m.hv b v hb')
 ·intro b v r h1 h2 h3
  rcases hcase b with h | ⟨h4,h5⟩
  ·rw [hF1 b h] at h1;exact hX.mr.imm b v r h1 h2 h3
  ·rw [hF2 b h4 h5] at h1
   have hb':=hout b v h4 h5 h2
   intro hI
   rcases hX.since.imnew r hI with h | h | h
   ·exact m.mr.imm b v r h1 hb' h3 h
   ·have:=hlt b v r h1 hb' h3
    exact absurd h (by simpa using this)
   ·exact hnot b v r h4 hb' h1 h3 h
 ·intro b b' v v' r h1 h2 h3 h4 h5 h6
  have hmix:∀ b b' v v',aM (hpX.getD b .none)=true→ι' b=some v→aB v=some r→A.contains b'=false→¬ (n≤b'∧b'<n+k)→aM (hpS.getD b' .none)=true→ι' b'=some v'→aB v'=some r→False:=fun b b' v v' g1 g2 g3 g4 g5 g6 g7 g8=>by
   have g9:=hout b' v' g4 g5 g7
   rcases hX.mr.mine b v r g1 g2 g3 with g | g
   ·have:=hlt b' v' r g6 g9 g8
    exact absurd g (by simpa using this)
   ·exact hnot b' v' r g4 g9 g6 g8 g
  rcases hcase b with h | ⟨g1,g2⟩
  ·rw [hF1 b h] at h1
   rcases hcase b' with h' | ⟨g3,g4⟩
   ·rw [hF1 b' h'] at h2
    exact hX.mr.sep b b' v v' r h1 h2 h3 h4 h5 h6
   ·rw [hF2 b' g3 g4] at h2
    exact (hmix b b' v v' h1 h3 h5 g3 g4 h2 h4 h6).elim
  ·rw [hF2 b g1 g2] at h1
   rcases hcase b' with h' | ⟨g3,g4⟩
   ·rw [hF1 b' h'] at h2
    exact (hmix b' b v' v h2 h4 h6 g1 g2 h1 h3 h5).elim
   ·rw [hF2 b' g3 g4] at h2
    exact m.mr.sep b b' v v' r h1 h2 (hout b v g1 g2 h3) (hout b' v' g3 g4 h4) h5 h6
 ·intro b v r h1 h2 h3
  rcases hcase b with h | ⟨h4,h5⟩
  ·rw [hF1 b h] at h1
   rcases hX.mr.mine b v r h1 h2 h3 with g | g
   ·exact .inl (aty m.since.size g)
   ·exact hpast r g
  ·rw [hF2 b h4 h5] at h1
   exact m.mr.mine b v r h1 (hout b v h4 h5 h2) h3
 ·intro i hi hF
  refine (hX.since.block i (asG hi m.since.size) fun g=> ?_).trans (m.since.block i hi hF)
  rcases hpast i g with h | h
  ·omega
  ·exact hF h
 ·intro i hi
  rcases hX.since.imnew i hi with h | h | h
  ·exact m.since.imnew i h
  ·exact .inr (.inl (aty m.since.size h))
  ·exact .inr (hpast i h)
end
end Go.Avc
