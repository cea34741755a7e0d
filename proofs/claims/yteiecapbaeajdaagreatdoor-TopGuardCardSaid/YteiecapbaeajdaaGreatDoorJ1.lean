/-
 AVC, part A: abstract values, abstract memory, and what they say of the model's values and worlds. No program in sight.
-/
import Derived.Laws.AppendOwn
import Derived.Laws.OwnMore
import Derived.Laws.MakeOwn
import Derived.Laws.BytesArg
import Derived.Laws.StructEq
import Derived.Orders
import Derived.Below
import Derived.Lib.ConvBytes
import Derived.Laws.IdiomStrings
import Derived.Laws.Slices
import Derived.IntWalk
open BitVec renaming ofInt→abN
open List renaming replicate→ab0,cons_append→ack,mem_append→ads,mem_map→adw,getElem?_cons_zero→adx,length_cons→adC,getElem?_eq_some_iff→adW,getElem?_append_left→aeU,getElem?_append_right→ae5,take_append→af9,take_succ_cons→agm,take_of_length_le→agv,drop_eq_nil_of_le→ahv,ext_getElem?→ais,append_nil→aiz,length_take→ajw,take_append_drop→akt,getElem?_take→aky,getElem?_drop→akB,exists_cons_of_ne_nil→anH,getD→arY,drop_left'→arZ,take→ar0,drop→ar1,map_take→ar2,map_drop→ar3,drop_take→ar4,toList_toArray→ar7,extract_eq_take_drop→ar8,getElem?_toArray→ar9
open Option.some renaming injEq→ada
open Nat renaming add_mul→adS,zero_mul→aen,zero_add→aeE,add_sub_cancel_left→agj,le_add_right→agG,add_assoc→ai6,add_zero→ai8,one_mul→ajc,mul_one→anR,mul_le_mul_right→apW,le_refl→ar5
open Bool renaming false_eq_true→aiI
open Array renaming ext'→ar6,getElem?_modify→asb,length_toList→asc
open Int renaming toNat_of_nonneg→asa
namespace Go.Avc
set_option linter.unusedVariables false
set_option linter.unusedSimpArgs false
theorem ay {α:Type}{l:List α}{i:Nat}{a:α}:l.getD i a=l[i]?.getD a:=List.getD_eq_getElem?_getD 
theorem aw {p:Prop}[inst:Decidable p](h:decide p=false):¬p:=of_decide_eq_false h
theorem au {p:Prop}[inst:Decidable p](h:decide p=true):p:=of_decide_eq_true h
theorem aA (n:Nat):(n:Int).toNat=n:=Int.toNat_natCast n
theorem aT {p:Prop}{x:Decidable p}:decide p=false↔¬p:=decide_eq_false_iff_not 
theorem aQ {p:Prop}[Decidable p]:(decide p=true)=p:=decide_eq_true_eq 
theorem cH {α:Type}{l:List α}{i:Nat}(h:i<l.length):l[i]? =some l[i]:=List.getElem?_eq_getElem h
theorem bp {α β:Type}{as:List α}(f:α→β):(as.map f).length=as.length:=List.length_map f
theorem ce {α:Type}{as bs:List α}:(as++bs).length=as.length+bs.length:=List.length_append 
theorem eH {α:Type}{i:Nat}{l:List α}:(l.drop i).length=l.length-i:=List.length_drop 
theorem df {α:Type}{as:List α}{i:Nat}{a:α}:(as.set i a).length=as.length:=List.length_set 
theorem cZ (a b:Bool):((a&&b)=true)=(a=true∧b=true):=Bool.and_eq_true a b
theorem gd {α:Type}{l:List α}{i:Nat}(h:l.length≤i):l[i]? =none:=List.getElem?_eq_none h
theorem fE {α:Type}(as bs cs:List α):as++bs++cs=as++(bs++cs):=List.append_assoc as bs cs
theorem eW {α β:Type}{f:α→β}{l:List α}{i:Nat}:(l.map f)[i]? =l[i]?.map f:=List.getElem?_map 
inductive CSh where
 | int (k:IntKind) | bool | str | sl (e:List CSh)
inductive CD where
 | int (n:Int) | bool (b:Bool) | str (l:List UInt8) | sl (l:List (List CD))
abbrev LD:=List (List CD)
def CD.toInt:CD→Int | .int n=>n | _=>0
def CD.toBool:CD→Bool | .bool b=>b | _=>false
def CD.toStr:CD→List UInt8 | .str l=>l | _=> []
def CD.toSl:CD→List (List CD) | .sl l=>l | _=> []
abbrev CD.d0:CD:= .int 0
inductive SV where
 | dead
 | int (k:IntKind) (n:Int)
 | bool (b:Bool)
 | str (l:List UInt8)
 | agg (cs:List SV)
 | arrI (n:Nat) (k:IntKind) (l:List Int)
 | arrB (n:Nat) (l:List Bool)
 | nilp
 | nilf
 | ptr (b c:Nat)
 | aptr (b c i:Nat)
 | rd (e:List CSh) (l:List (List CD))
 | rdc (e:List CSh) (l:List (List CD))
 | e0
 | nils
 | own (b:Nat)
 | lit (b:Nat)
 | win (b c N lo n:Nat)
 | eptr (e:List CSh) (l:List (List CD)) (i c:Nat)
 | optr (b sz i c:Nat)
 | ow (b sz lo n:Nat)
 | fn (f:FuncId) (caps:List SV)
 | fb (f:FuncId) (caps:List SV)
 | tup (vs:List SV)
 | sls (svs:List SV)
 | nili
 | iface (t:TypeId) (v:SV)
 | val (v:Value)
inductive Blk where
 | none
 | cells (T:TypeId) (cs:List SV)
 | own (T:TypeId) (e:List CSh) (l:List (List CD))
 | ro (e:List CSh) (l:List (List CD))
def SV.size:SV→Nat
 | .arrI n _ _=>n
 | .arrB n _=>n
 | _=>1
mutual
inductive CRel (Im:Nat→Prop) (w:World):CSh→CD→Value→Prop
 | int (k:IntKind) (n:Int):CRel Im w (.int k) (.int n) (.int k n)
 | bool (b:Bool):CRel Im w .bool (.bool b) (.bool b)
 | str (l:List UInt8):l.length≤maxLen→CRel Im w .str (.str l) (.string ⟨l.toArray⟩)
 | sl0 (e:List CSh) (a:Option Addr) (cap:Nat):cap≤maxLen→CRel Im w (.sl e) (.sl []) (.slice a 0 cap)
 | sl (e:List CSh) (l:List (List CD)) (ad:Addr) (cap:Nat) (xs:List Value):l.length≤cap→cap≤maxLen→Im ad.block→
   FlatRel Im w e l xs→(∀ j x,xs[j]? =some x→w.cell? (ad.add j)=some x)→CRel Im w (.sl e) (.sl l) (.slice (some ad) l.length cap)
inductive RowRel (Im:Nat→Prop) (w:World):List CSh→List CD→List Value→Prop
 | nil:RowRel Im w [] [] []
 | cons (sh:CSh) (cd:CD) (v:Value) (e:List CSh) (row:List CD) (vs:List Value):CRel Im w sh cd v→RowRel Im w e row vs→RowRel Im w (sh::e) (cd::row) (v::vs)
inductive FlatRel (Im:Nat→Prop) (w:World):List CSh→List (List CD)→List Value→Prop
 | nil (e:List CSh):FlatRel Im w e [] []
 | cons (e:List CSh) (row:List CD) (vs:List Value) (l:List (List CD)) (xs:List Value):RowRel Im w e row vs→FlatRel Im w e l xs→FlatRel Im w e (row::l) (vs++xs)
end
def aB:Value→Option Nat
 | .slice (some a) _ c=>if c=0 then none else some a.block
 | .pointer (some a)=>some a.block
 | _=>none
def OwnV (w:World) (T:TypeId) (sz:Nat) (v:Value) (n:Nat) (xs:List Value):Prop:=
 xs.length=n*sz∧
 ((∃ a,v= .slice a 0 0∧n=0)∨
  ∃ g cap cur,v= .slice (some ⟨g,0,none⟩) n cap∧w.heap[g]? =some (.cells cur T (0,0))∧n≤cap∧0<cap∧cap≤maxLen∧cur.size=cap*sz∧cur.toList.take (n*sz)=xs)
mutual
def VRel (Im:Nat→Prop) (ι:Nat→Option Value) (w:World):SV→Value→Prop
 | .dead,_=>True
 | .int k n,v=>v= .int k n
 | .bool b,v=>v= .bool b
 | .str l,v=>v= .string ⟨l.toArray⟩∧l.length≤maxLen
 | .agg cs,v=>∃ vs:List Value,v= .agg vs.toArray∧CellsRel Im ι w cs vs
 | .arrI _ _ _,_=>False
 | .arrB _ _,_=>False
 | .nilp,v=>v= .pointer none
 | .nilf,v=>v= .nilFunc
 | .ptr b c,v=>∃ r,ι b=some (.pointer (some ⟨r,0,none⟩))∧v= .pointer (some ⟨r,c,none⟩)
 | .aptr b c i,v=>∃ r,ι b=some (.pointer (some ⟨r,0,none⟩))∧v= .pointer (some ⟨r,c+i,none⟩)
 | .rd e l,v=>CRel Im w (.sl e) (.sl l) v
 | .rdc e l,v=>CRel Im w (.sl e) (.sl l) v∧∃ a,v= .slice a l.length l.length
 | .e0,v=>∃ a,v= .slice a 0 0
 | .nils,v=>v= .slice none 0 0
 | .own b,v=>ι b=some v∧∃ a n c,v= .slice a n c
 | .lit b,v=>ι b=some v∧∃ a n,v= .slice a n n
 | .win b c N lo n,v=>∃ r cap,ι b=some (.pointer (some ⟨r,0,none⟩))∧v= .slice (some ⟨r,c+lo,none⟩) n cap∧n≤cap∧cap≤maxLen∧lo+n≤N
 | .eptr e l i c,v=>∃ (ad:Addr) (xs:List Value),v= .pointer (some (ad.add (i*e.length+c)))∧Im ad.block∧FlatRel Im w e l xs∧∀ j x,xs[j]? =some x→w.cell? (ad.add j)=some x
 | .optr b sz i c,v=>∃ r n cap,ι b=some (.slice (some ⟨r,0,none⟩) n cap)∧0<cap∧v= .pointer (some ⟨r,i*sz+c,none⟩)
 | .ow b sz lo n,v=>∃ r m cap cap',ι b=some (.slice (some ⟨r,0,none⟩) m cap)∧0<cap∧v= .slice (some ⟨r,lo*sz,none⟩) n cap'∧lo+n≤m∧n≤maxLen
 | .fn f caps,v=>∃ vs:List Value,v= .func (.func f) #[] vs.toArray∧VRels Im ι w caps vs
 | .fb f caps,v=>∃ vs:List Value,v= .func (.func f) vs.toArray #[] ∧VRels Im ι w caps vs
 | .tup svs,v=>∃ vs:List Value,v= .tuple vs.toArray∧VRels Im ι w svs vs
 | .sls svs,v=>∃ (ad:Addr) (vs:List Value),v= .slice (some ad) svs.length svs.length∧svs.length≤maxLen∧Im ad.block∧VRels Im ι w svs vs∧∀ j x,vs[j]? =some x→w.cell? (ad.add j)=some x
 | .nili,v=>v= .nilIface
 | .iface t s,v=>∃ v',v= .iface t v'∧VRel Im ι w s v'
 | .val x,v=>v=x
def CellsRel (Im:Nat→Prop) (ι:Nat→Option Value) (w:World):List SV→List Value→Prop
 | [],vs=>vs= []
 | s::cs,vs=>match s with
  | .arrI n k l=>l.length=n∧∃ vs',vs=l.map (Value.int k)++vs'∧CellsRel Im ι w cs vs'
  | .arrB n l=>l.length=n∧∃ vs',vs=l.map Value.bool++vs'∧CellsRel Im ι w cs vs'
  | _=>∃ v vs',vs=v::vs'∧VRel Im ι w s v∧v.oneCell'=true∧CellsRel Im ι w cs vs'
def VRels (Im:Nat→Prop) (ι:Nat→Option Value) (w:World):List SV→List Value→Prop
 | [],vs=>vs= []
 | s::cs,vs=>∃ v vs',vs=v::vs'∧VRel Im ι w s v∧VRels Im ι w cs vs'
end
def BRel (Im:Nat→Prop) (ι:Nat→Option Value) (w:World):Blk→Value→Prop
 | .none,_=>True
 | .cells T cs,v=>∃ r vs,v= .pointer (some ⟨r,0,none⟩)∧w.heap[r]? =some (.cells (List.toArray vs) T (0,0))∧CellsRel Im ι w cs vs
 | .own T e l,v=>∃ xs,OwnV w T e.length v l.length xs∧FlatRel Im w e l xs
 | .ro e l,v=>CRel Im w (.sl e) (.sl l) v
structure Later (Im:Nat→Prop) (ι:Nat→Option Value) (w:World) (Im':Nat→Prop) (ι':Nat→Option Value) (w':World):Prop where
 im:∀ i,Im i→Im' i
 hd:∀ b v,ι b=some v→ι' b=some v
 mem:∀ i,Im i→w'.heap[i]? =w.heap[i]?
theorem Later.refl (Im:Nat→Prop) (ι:Nat→Option Value) (w:World):Later Im ι w Im ι w:=⟨fun _ h=>h,fun _ _ h=>h,fun _ _=>rfl⟩
theorem Later.trans {Im Im1 Im2:Nat→Prop} {ι ι1 ι2:Nat→Option Value} {w w1 w2:World} (h:Later Im ι w Im1 ι1 w1) (k:Later Im1 ι1 w1 Im2 ι2 w2):Later Im ι w Im2 ι2 w2:=
 ⟨fun i hi=>k.im i (h.im i hi),fun b v hb=>k.hd b v (h.hd b v hb),fun i hi=>(k.mem i (h.im i hi)).trans (h.mem i hi)⟩
theorem y7 {w w':World} {ad:Addr} {j:Nat} (h:w'.heap[ad.block]? =w.heap[ad.block]?):w'.cell? (ad.add j)=w.cell? (ad.add j):=by
 have hb:(ad.add j).block=ad.block:=by unfold Addr.add;split <;>rfl
 exact World.cell?_of_block (by rw [hb];exact h)
mutual
theorem CRel.mono {Im Im':Nat→Prop} {w w':World} (hi:∀ i,Im i→Im' i) (hm:∀ i,Im i→w'.heap[i]? =w.heap[i]?):∀ {sh:CSh} {cd:CD} {v:Value},CRel Im w sh cd v→CRel Im' w' sh cd v
 | _,_,_,.int k n=> .int k n
 | _,_,_,.bool b=> .bool b
 | _,_,_,.str l h=> .str l h
 | _,_,_,.sl0 e a cap h=> .sl0 e a cap h
 | _,_,_,.sl e l ad cap xs h1 h2 h3 h4 h5=> .sl e l ad cap xs h1 h2 (hi _ h3) (h4.mono hi hm) (fun j x hx=>(y7 (hm _ h3)).trans (h5 j x hx))
theorem RowRel.mono {Im Im':Nat→Prop} {w w':World} (hi:∀ i,Im i→Im' i) (hm:∀ i,Im i→w'.heap[i]? =w.heap[i]?):∀ {e:List CSh} {row:List CD} {vs:List Value},RowRel Im w e row vs→RowRel Im' w' e row vs
 | _,_,_,.nil=> .nil
 | _,_,_,.cons sh cd v e row vs h1 h2=> .cons sh cd v e row vs (h1.mono hi hm) (h2.mono hi hm)
theorem FlatRel.mono {Im Im':Nat→Prop} {w w':World} (hi:∀ i,Im i→Im' i) (hm:∀ i,Im i→w'.heap[i]? =w.heap[i]?):∀ {e:List CSh} {l:List (List CD)} {xs:List Value},FlatRel Im w e l xs→FlatRel Im' w' e l xs
 | _,_,_,.nil e=> .nil e
 | _,_,_,.cons e row vs l xs h1 h2=> .cons e row vs l xs (h1.mono hi hm) (h2.mono hi hm)
end
mutual
theorem VRel.mono {Im Im':Nat→Prop} {ι ι':Nat→Option Value} {w w':World} (h:Later Im ι w Im' ι' w'):∀ (s:SV) (v:Value),VRel Im ι w s v→VRel Im' ι' w' s v
 | .dead,_,_=>trivial
 | .int ..,_,k=>k
 | .bool _,_,k=>k
 | .str _,_,k=>k
 | .agg cs,_,k=>by
  obtain ⟨vs,e,k⟩:=k
  exact ⟨vs,e,CellsRel.mono h cs vs k⟩
 | .arrI ..,_,k=>k.elim
 | .arrB ..,_,k=>k.elim
 | .nilp,_,k=>k
 | .nilf,_,k=>k
 | .ptr b c,_,k=>by
  obtain ⟨r,e,k⟩:=k
  exact ⟨r,h.hd _ _ e,k⟩
 | .aptr b c i,_,k=>by
  obtain ⟨r,e,k⟩:=k
  exact ⟨r,h.hd _ _ e,k⟩
 | .rd e l,_,k=>CRel.mono h.im h.mem k
 | .rdc e l,_,k=>⟨CRel.mono h.im h.mem k.1,k.2⟩
 | .e0,_,k=>k
 | .nils,_,k=>k
 | .own b,_,k=>⟨h.hd _ _ k.1,k.2⟩
 | .lit b,_,k=>⟨h.hd _ _ k.1,k.2⟩
 | .win b c N lo n,_,k=>by
  obtain ⟨r,cap,e,k⟩:=k
  exact ⟨r,cap,h.hd _ _ e,k⟩
 | .eptr e l i c,_,k=>by
  obtain ⟨ad,xs,e1,e2,e3,e4⟩:=k
  exact ⟨ad,xs,e1,h.im _ e2,e3.mono h.im h.mem,fun j x hx=>(y7 (h.mem _ e2)).trans (e4 j x hx)⟩
 | .optr b sz i c,_,k=>by
  obtain ⟨r,n,cap,e,k⟩:=k
  exact ⟨r,n,cap,h.hd _ _ e,k⟩
 | .ow b sz lo n,_,k=>by
  obtain ⟨r,m,cap,cap',e,k⟩:=k
  exact ⟨r,m,cap,cap',h.hd _ _ e,k⟩
 | .fn f caps,_,k=>by
  obtain ⟨vs,e,k⟩:=k
  exact ⟨vs,e,VRels.mono h caps vs k⟩
 | .fb f caps,_,k=>by
  obtain ⟨vs,e,k⟩:=k
  exact ⟨vs,e,VRels.mono h caps vs k⟩
 | .tup svs,_,k=>by
  obtain ⟨vs,e,k⟩:=k
  exact ⟨vs,e,VRels.mono h svs vs k⟩
 | .sls svs,_,k=>by
  obtain ⟨ad,vs,e,h1,h2,h3,h4⟩:=k
  exact ⟨ad,vs,e,h1,h.im _ h2,VRels.mono h svs vs h3,fun j x hx=>(y7 (h.mem _ h2)).trans (h4 j x hx)⟩
 | .nili,_,k=>k
 | .iface t s,_,k=>by
  obtain ⟨v',e,k⟩:=k
  exact ⟨v',e,VRel.mono h s v' k⟩
 | .val _,_,k=>k
theorem CellsRel.mono {Im Im':Nat→Prop} {ι ι':Nat→Option Value} {w w':World} (h:Later Im ι w Im' ι' w'):∀ (cs:List SV) (vs:List Value),CellsRel Im ι w cs vs→CellsRel Im' ι' w' cs vs
 | [],_,k=>k
 | s::cs,vs,k=>by
  have hv:=VRel.mono h s
  unfold CellsRel at k ⊢
  split at k
  ·obtain ⟨e1,vs',e2,k⟩:=k
   exact ⟨e1,vs',e2,CellsRel.mono h cs vs' k⟩
  ·obtain ⟨e1,vs',e2,k⟩:=k
   exact ⟨e1,vs',e2,CellsRel.mono h cs vs' k⟩
  ·obtain ⟨v,vs',e1,e2,e3,k⟩:=k
   exact ⟨v,vs',e1,hv v e2,e3,CellsRel.mono h cs vs' k⟩
theorem VRels.mono {Im Im':Nat→Prop} {ι ι':Nat→Option Value} {w w':World} (h:Later Im ι w Im' ι' w'):∀ (cs:List SV) (vs:List Value),VRels Im ι w cs vs→VRels Im' ι' w' cs vs
 | [],_,k=>k
 | s::cs,vs,k=>by
  obtain ⟨v,vs',e1,e2,k⟩:=k
  exact ⟨v,vs',e1,VRel.mono h s v e2,VRels.mono h cs vs' k⟩
end
def dp (k:IntKind) (a b:Int):Int:=k.wrap ((abN k.bits a &&&abN k.bits b).toNat)
def iq (k:IntKind) (a b:Int):Int:=k.wrap ((abN k.bits a |||abN k.bits b).toNat)
def wV (k:IntKind) (a b:Int):Int:=k.wrap ((abN k.bits a ^^^ abN k.bits b).toNat)
def lC (k:IntKind) (a b:Int):Int:=k.wrap ((abN k.bits a &&& ~~~abN k.bits b).toNat)
def eG (k:IntKind) (a b:Int):Int:=k.wrap (a*2 ^ (min b.toNat k.bits))
def aL (k:IntKind) (a b:Int):Int:=a.fdiv (2 ^ (min b.toNat k.bits))
mutual
def CSh.beq:CSh→CSh→Bool
 | .int k,.int k'=>k==k'
 | .bool,.bool=>true
 | .str,.str=>true
 | .sl e,.sl e'=>CSh.beqs e e'
 | _,_=>false
def CSh.beqs:List CSh→List CSh→Bool
 | [],[] =>true
 | a::l,b::m=>CSh.beq a b&&CSh.beqs l m
 | _,_=>false
end
mutual
theorem CSh.beq_eq:∀ (a b:CSh),CSh.beq a b=true→a=b
 | .int k,.int k',h=>by simp [CSh.beq] at h;rw [h]
 | .bool,.bool,_=>rfl
 | .str,.str,_=>rfl
 | .sl e,.sl e',h=>by simp only [CSh.beq] at h;rw [CSh.beqs_eq e e' h]
 | .int _,.bool,h=>by simp [CSh.beq] at h
 | .int _,.str,h=>by simp [CSh.beq] at h
 | .int _,.sl _,h=>by simp [CSh.beq] at h
 | .bool,.int _,h=>by simp [CSh.beq] at h
 | .bool,.str,h=>by simp [CSh.beq] at h
 | .bool,.sl _,h=>by simp [CSh.beq] at h
 | .str,.int _,h=>by simp [CSh.beq] at h
 | .str,.bool,h=>by simp [CSh.beq] at h
 | .str,.sl _,h=>by simp [CSh.beq] at h
 | .sl _,.int _,h=>by simp [CSh.beq] at h
 | .sl _,.bool,h=>by simp [CSh.beq] at h
 | .sl _,.str,h=>by simp [CSh.beq] at h
theorem CSh.beqs_eq:∀ (a b:List CSh),CSh.beqs a b=true→a=b
 | [],[],_=>rfl
 | a::l,b::m,h=>by
  simp only [CSh.beqs,cZ] at h
  rw [CSh.beq_eq a b h.1,CSh.beqs_eq l m h.2]
 | [],_::_,h=>by simp [CSh.beqs] at h
 | _::_,[],h=>by simp [CSh.beqs] at h
end
def ON:CSh→CD→SV
 | .int k,d=> .int k d.toInt
 | .bool,d=> .bool d.toBool
 | .str,d=> .str d.toStr
 | .sl e,d=> .rd e d.toSl
def Iy (l:LD) (i:Nat):List CSh→Nat→List SV
 | [],_=> []
 | sh::e,c=>ON sh ((l.getD i []).getD c .d0)::Iy l i e (c+1)
def FE:CSh→SV→Option CD
 | .int k,.int k' n=>if k=k' then some (.int n) else none
 | .bool,.bool b=>some (.bool b)
 | .str,.str l=>some (.str l)
 | .sl e,.rd e' l=>if CSh.beqs e e' then some (.sl l) else none
 | .sl e,.nils=>some (.sl [])
 | .sl e,.e0=>some (.sl [])
 | _,_=>none
def pX:List CSh→List SV→Option (List CD)
 | [],[] =>some []
 | sh::e,s::cs=>match FE sh s,pX e cs with
  | some d,some ds=>some (d::ds)
  | _,_=>none
 | _,_=>none
def jz (P:Program) (T:TypeId):Option Bool:=match P.underlying T with | some (.struct _)=>some true | some (.array _ _)=>some true | some _=>some false | none=>none
def Yt (f:TypeId→Option (List CSh)):List TypeId→Option (List CSh)
 | [] =>some []
 | t::ts=>match f t,Yt f ts with | some a,some b=>some (a++b) | _,_=>none
def NP (P:Program):Nat→TypeId→Option (List CSh)
 | 0,_=>none
 | d+1,T=>match P.underlying T with
  | some (.int k)=>some [.int k]
  | some .bool=>some [.bool]
  | some .string=>some [.str]
  | some (.slice E)=>(NP P d E).map fun e=> [.sl e]
  | some (.struct fs)=>Yt (NP P d) (fs.toList.map (·.type))
  | some (.array n E)=>(NP P d E).map fun e=>(ab0 n e).flatten
  | _=>none
def d6:List SV→Nat→Option (List SV×List SV)
 | cs,0=>some ([],cs)
 | [],_+1=>none
 | s::cs,n+1=>if s.size≤n+1 then (match d6 cs (n+1-s.size) with | some (a,d)=>some (s::a,d) | none=>none) else none
def Ru:List SV→Nat
 | [] =>0
 | s::cs=>s.size+Ru cs
def SV.one:SV→Bool
 | .int .. | .bool _ | .str _ | .nilp | .ptr .. | .aptr .. | .rd .. | .rdc .. | .e0 | .nils | .own _ | .lit _ | .win .. | .eptr .. | .optr .. | .ow .. | .fn .. | .fb .. | .nilf | .sls _ | .nili | .iface .. =>true
 | _=>false
def SV.cells:SV→Option (List SV)
 | .agg cs=>some cs
 | s=>if s.one then some [s] else none
inductive OR where
 | bad
 | need (p:Prop) (r:OR)
 | know (p:Prop) (r:OR)
 | split (b:Bool) (r1 r2:OR)
 | val (sv:SV)
 | new (T:TypeId) (cs:List SV)
 | newRo (sv:SV)
 | newOwn (c:Bool) (T:TypeId) (e:List CSh) (l:LD)
 | upd (b:Nat) (blk:Blk)
 | cpy (b:Nat) (blk:Blk)
 | app (b:Nat) (T:TypeId) (e:List CSh) (l:LD)
 | frz (b:Nat) (sv:SV)
 | anyB (f:Bool→Prop)
 | call (f:FuncId) (svs:List SV)
def qX (P:Program) (T:TypeId) (x y:OR):OR:=match jz P T with | some true=>x | some false=>y | none=> .bad
section
variable (P:Program)
def iV (T:TypeId) (cs:List SV) (c:Nat):OR:=
 match d6 cs c with
 | some (_,r)=>
  qX P T (match d6 r (P.cellsOf T) with | some (m,_)=> .val (.agg m) | none=> .bad)
   (match r with | s::_=>if s.one then .val s else .bad | [] => .bad)
 | none=> .bad
def qx (k:IntKind):List CSh→Bool
 | [] =>true
 | .int k'::e=>decide (k'=k)&&qx k e
 | _=>false
def ku (l:LD):List Int:=l.flatMap fun r=>r.map CD.toInt
def rf (sz:Nat):Nat→List Int→LD
 | 0,_=> []
 | m+1,l=>(l.take sz).map CD.int::rf sz m (l.drop sz)
def q6 (T:TypeId) (e:List CSh) (l:LD) (i c:Nat):OR:=
 qX P T
  (match e,c with
   | [.int k],0=> .need (i+P.cellsOf T≤l.length) (.val (.agg [.arrI (P.cellsOf T) k (((l.drop i).take (P.cellsOf T)).map fun r=>(r.getD 0 .d0).toInt)]))
   | e,c=>if c+P.cellsOf T≤e.length then .need (i<l.length) (.val (.agg (Iy l i ((e.drop c).take (P.cellsOf T)) c))) else (match e with
    | .int k::e'=>if c=0 then (if qx k e'=true then (if P.cellsOf T=P.cellsOf T / (e'.length+1)*(e'.length+1) then .need (i+P.cellsOf T / (e'.length+1)≤l.length) (.val (.agg [.arrI (P.cellsOf T) k (ku ((l.drop i).take (P.cellsOf T / (e'.length+1))))])) else .bad) else .bad) else .bad
    | _=> .bad))
  (match e[c]? with
  | some sh=> .need (i<l.length) (.val (ON sh ((l.getD i []).getD c .d0)))
  | none=> .bad)
def Ad (hp:List Blk) (T:TypeId):SV→OR
 | .ptr b c=>(match hp.getD b .none with | .cells _ cs=>iV P T cs c | _=> .bad)
 | .aptr b c i=>(match hp.getD b .none with
  | .cells _ cs=>(match d6 cs c with
   | some (_,.arrI n k l::_)=>
    qX P T (.need (i+P.cellsOf T≤n) (.val (.agg [.arrI (P.cellsOf T) k ((l.drop i).take (P.cellsOf T))])))
     (.need (i<n) (.val (.int k (l.getD i 0))))
   | some (_,.arrB n l::_)=>
    qX P T (.need (i+P.cellsOf T≤n) (.val (.agg [.arrB (P.cellsOf T) ((l.drop i).take (P.cellsOf T))])))
     (.need (i<n) (.val (.bool (l.getD i false))))
   | _=> .bad)
  | _=> .bad)
 | .eptr e l i c=>q6 P T e l i c
 | .optr b sz i c=>(match hp.getD b .none with
  | .own _ e l=>if e.length=sz then q6 P T e l i c else .bad
  | _=> .bad)
 | _=> .bad
def zO:List SV→List SV
 | [] => []
 | s::cs=>(match s with
  | .arrI n k l=>(List.range n).map (fun i=> .int k (l.getD i 0))++zO cs
  | s=>s::zO cs)
def Fr (hp:List Blk) (T:TypeId) (p x:SV):OR:=
 if P.cellsOf T=0 then .bad else
 match p with
 | .ptr b c=>(match hp.getD b .none,x.cells with
  | .cells T' cs,some xs=>(match d6 cs c with
   | some (a,r)=>(match d6 r (P.cellsOf T) with
    | some (_,d)=>if Ru xs=P.cellsOf T then .upd b (.cells T' (a++xs++d)) else .bad
    | none=> .bad)
   | none=> .bad)
  | _,_=> .bad)
 | .aptr b c i=>(match hp.getD b .none with
  | .cells T' cs=>(match d6 cs c with
   | some (a,.arrI n k l::d)=>(match x with
    | .int k' v=>if k=k' then (if P.cellsOf T=1 then .need (i<n) (.upd b (.cells T' (a++ .arrI n k (l.set i v)::d))) else .bad) else .bad
    | .agg [.arrI m k' l'] =>if k=k' then (if P.cellsOf T=m then .need (i+m≤n) (.upd b (.cells T' (a++ .arrI n k (l.take i++l'++l.drop (i+m))::d))) else .bad) else .bad
    | _=> .bad)
   | some (a,.arrB n l::d)=>(match x with
    | .bool v=>if P.cellsOf T=1 then .need (i<n) (.upd b (.cells T' (a++ .arrB n (l.set i v)::d))) else .bad
    | .agg [.arrB m l'] =>if P.cellsOf T=m then .need (i+m≤n) (.upd b (.cells T' (a++ .arrB n (l.take i++l'++l.drop (i+m))::d))) else .bad
    | _=> .bad)
   | _=> .bad)
  | _=> .bad)
 | .optr b sz i c=>(match hp.getD b .none with
  | .own T' e l=>if e.length=sz then (match x with
   | .agg cs=>(match pX e (zO cs) with
    | some row=>if P.cellsOf T=e.length then (if c=0 then .need (i<l.length) (.upd b (.own T' e (l.set i row))) else .bad) else .bad
    | none=> .bad)
   | x=>(match e[c]? with
    | some sh=>(match FE sh x with
     | some d=>if P.cellsOf T=1 then .need (i<l.length) (.upd b (.own T' e (l.set i ((l.getD i []).set c d)))) else .bad
     | none=> .bad)
    | none=> .bad)) else .bad
  | _=> .bad)
 | _=> .bad
def al9 (cs:List SV) (c:Nat):Bool:=match d6 cs c with | some (_,.arrI .. ::_)=>true | some (_,.arrB .. ::_)=>true | _=>false
def up (hp:List Blk) (T:TypeId) (x ix:SV):OR:=
 match ix with
 | .int _ n=>(match P.underlying T,x with
  | some (.array len E),.ptr b c=>if P.cellsOf E=0 then .bad else (match hp.getD b .none with
   | .cells _ cs=> .need (0≤n∧n<len) (if al9 cs c then .val (.aptr b c (n.toNat*P.cellsOf E)) else .val (.ptr b (c+n.toNat*P.cellsOf E)))
   | _=> .bad)
  | some (.array len E),.aptr b c i=>if P.cellsOf E=0 then .bad else .need (0≤n∧n<len) (.val (.aptr b c (i+n.toNat*P.cellsOf E)))
  | some (.array len E),.eptr e l i c=>if P.cellsOf E=0 then .bad else (if P.cellsOf E=e.length then (if c=0 then .need (0≤n∧n<len∧i+n.toNat<l.length) (.val (.eptr e l (i+n.toNat) 0)) else .bad) else .bad)
  | some (.slice E),.rd e l=>if P.cellsOf E=0 then .bad else (if P.cellsOf E=e.length then .need (0≤n∧n<l.length) (.val (.eptr e l n.toNat 0)) else .bad)
  | some (.slice E),.own b=>if P.cellsOf E=0 then .bad else (match hp.getD b .none with
   | .own _ e l=>if P.cellsOf E=e.length then .need (0≤n∧n<l.length) (.val (.optr b e.length n.toNat 0)) else .bad
   | .ro e l=>if P.cellsOf E=e.length then .need (0≤n∧n<l.length) (.val (.eptr e l n.toNat 0)) else .bad
   | _=> .bad)
  | some (.slice E),.win b c N lo m=>if P.cellsOf E=1 then .need (0≤n∧n<m) (.val (.aptr b c (lo+n.toNat))) else .bad
  | _,_=> .bad)
 | _=> .bad
def Gt (T:TypeId) (x ix:SV):OR:=
 match ix with
 | .int _ n=>(match P.underlying T,x with
  | some (.array len E),.agg [.arrI m k l] =>
   qX P E (.need (0≤n∧n<len∧(n.toNat+1)*P.cellsOf E≤m) (.val (.agg [.arrI (P.cellsOf E) k ((l.drop (n.toNat*P.cellsOf E)).take (P.cellsOf E))])))
    (.need (0≤n∧n<len∧n.toNat*P.cellsOf E<m) (.val (.int k (l.getD (n.toNat*P.cellsOf E) 0))))
  | some (.array len E),.agg [.arrB m l] =>
   qX P E (.need (0≤n∧n<len∧(n.toNat+1)*P.cellsOf E≤m) (.val (.agg [.arrB (P.cellsOf E) ((l.drop (n.toNat*P.cellsOf E)).take (P.cellsOf E))])))
    (.need (0≤n∧n<len∧n.toNat*P.cellsOf E<m) (.val (.bool (l.getD (n.toNat*P.cellsOf E) false))))
  | some (.array len E),.agg cs=>(match d6 cs (n.toNat*P.cellsOf E) with
   | some (_,r)=>qX P E (match d6 r (P.cellsOf E) with | some (m,_)=> .need (0≤n∧n<len) (.val (.agg m)) | none=> .bad)
    (match r with | s::_=>if s.one then .need (0≤n∧n<len) (.val s) else .bad | [] => .bad)
   | none=> .bad)
  | some .string,.str l=> .need (0≤n∧n<l.length) (.val (.int .u8 ((l.getD n.toNat 0).toNat:Int)))
  | _,_=> .bad)
 | _=> .bad
def um (S:TypeId) (x:SV) (f:Nat):OR:=
 match P.underlying S with
 | some (.struct fs)=>(match fs[f]? with
  | some fd=>if P.cellsOf fd.type=0 then .bad else (match x with
   | .ptr b c=> .val (.ptr b (c+fd.offset))
   | .eptr e l i c=>if e.length=0 then .bad else .need (i<l.length) (.val (.eptr e l i (c+fd.offset)))
   | .optr b sz i c=> .val (.optr b sz i (c+fd.offset))
   | _=> .bad)
  | none=> .bad)
 | _=> .bad
def Fv (S:TypeId) (x:SV) (f:Nat):OR:=
 match P.underlying S,x with
 | some (.struct fs),.agg cs=>(match fs[f]? with
  | some fd=>iV P fd.type cs fd.offset
  | none=> .bad)
 | _,_=> .bad
def jY (o:Option SV) (d:Int):Option Int:=match o with | none=>some d | some (.int _ n)=>some n | some _=>none
def agw (cs:List SV) (c:Nat):Option Nat:=match d6 cs c with | some (_,.arrI n _ _::_)=>some n | some (_,.arrB n _::_)=>some n | _=>none
def GA (hp:List Blk) (T:TypeId) (x:SV) (lo hi mx:Option SV):OR:=
 match P.underlying T,x with
 | some .string,.str l=>(match jY lo 0,jY hi l.length,mx with
  | some a,some b,none=> .need (0≤a∧a≤b∧b≤l.length) (.val (.str ((l.take b.toNat).drop a.toNat)))
  | _,_,_=> .bad)
 | some (.slice E),.rd e l=>if P.cellsOf E=e.length then (if e.length=0 then .bad else (match jY lo 0,hi,mx with
  | some a,hi,none=>(match jY hi l.length with
   | some b=> .need (0≤a∧a≤b∧b≤l.length) (.val (.rd e ((l.take b.toNat).drop a.toNat)))
   | none=> .bad)
  | some a,some (.int _ b),some (.int _ m)=>
   .need (0≤a∧a≤b∧b≤m∧m≤l.length) (.val (.rd e ((l.take b.toNat).drop a.toNat)))
  | _,_,_=> .bad)) else .bad
 | some (.slice E),.own b=>(match hp.getD b .none with
  | .own _ e l=>if P.cellsOf E=e.length then (if e.length=0 then .bad else (match jY lo 0,jY hi l.length,mx with
   | some i,some j,none=> .need (0≤i∧i≤j∧j≤l.length∧i<l.length) (.val (.ow b e.length i.toNat (j.toNat-i.toNat)))
   | _,_,_=> .bad)) else .bad
  | _=> .bad)
 | some (.array len E),.ptr b c=>(match hp.getD b .none with
  | .cells _ cs=>if P.cellsOf E=1 then (if agw cs c=some len then (if len≤1000000 then (match jY lo 0,jY hi len,mx with
   | some i,some j,none=> .need (0≤i∧i≤j∧j≤len∧i<len) (.val (.win b c len i.toNat (j.toNat-i.toNat)))
   | _,_,_=> .bad) else .bad) else .bad) else (match cs,lo,hi,mx with
   | [.arrI N k l],none,none,none=>if P.cellsOf E=0 then .bad else (if c=0 then (if N=len*P.cellsOf E then (if 0<len then (if len≤1000000 then .frz b (.rd (ab0 (P.cellsOf E) (.int k)) (rf (P.cellsOf E) len l)) else .bad) else .bad) else .bad) else .bad)
   | _,_,_,_=> .bad)
  | _=> .bad)
 | _,_=> .bad
def Ck (hp:List Blk):SV→Option (List CSh×LD)
 | .rd e l=>some (e,l)
 | .rdc e l=>some (e,l)
 | .own b=>(match hp.getD b .none with | .own _ e l=>some (e,l) | .ro e l=>some (e,l) | _=>none)
 | .win b c N lo n=>(match hp.getD b .none with
  | .cells _ cs=>(match d6 cs c with
   | some (_,.arrI N' k l::_)=>if N'=N then some ([.int k],((l.drop lo).take n).map fun x=> [.int x]) else none
   | _=>none)
  | _=>none)
 | _=>none
def ah (l:LD):List UInt8:=l.map fun r=>UInt8.ofNat (r.getD 0 .d0).toInt.toNat
def aj (l:List UInt8):LD:=l.map fun b=> [.int (b.toNat:Int)]
def zR (hp:List Blk) (src dst:TypeId) (x:SV):OR:=
 match P.underlying src,P.underlying dst,x with
 | some (.int _),some (.int k),.int _ n=> .val (.int k (k.wrap n))
 | some .string,some .string,.str l=> .val (.str l)
 | some .string,some (.slice E),.str l=>(match P.underlying E with
  | some (.int .u8)=> .newRo (.rd [.int .u8] (aj l))
  | _=> .bad)
 | some (.slice E),some .string,.nils=>(match P.underlying E with
  | some (.int .u8)=> .val (.str [])
  | _=> .bad)
 | some (.slice E),some .string,x=>(match P.underlying E with
  | some (.int .u8)=>(match Ck hp x with
    | some ([.int .u8],l)=> .val (.str (ah l))
    | _=> .bad)
  | _=> .bad)
 | some (.slice _),some (.slice E),.lit b=>if src=dst then (match P.underlying E with
  | some (.int .u8)=>(match hp.getD b .none with
   | .own _ [.int .u8] (row::l)=> .frz b (.rdc [.int .u8] (row::l))
   | _=> .bad)
  | _=> .bad) else .bad
 | _,_,_=> .bad
def zb (hp:List Blk) (A:TypeId) (x:SV):OR:=
 match P.underlying A,x with
 | some (.array n E),.rd e l=>if n=0 then .bad else .need (n≤l.length) (.val (.eptr e l 0 0))
 | some (.array n E),.own b=>if n=0 then .bad else (match hp.getD b .none with
  | .own _ e l=> .need (n≤l.length) (.val (.optr b e.length 0 0))
  | .ro e l=> .need (n≤l.length) (.val (.eptr e l 0 0))
  | _=> .bad)
 | some (.array n E),.win b c N lo m=> .need (n≤m) (.val (.aptr b c lo))
 | _,_=> .bad
def kx (place:Nat→Option (Nat×Nat)) (cells:List SV):List (Nat×SV)→Option (List SV)
 | [] =>some cells
 | (i,x)::rest=>match place i,x.cells with
  | some (off,size),some xs=>if Ru xs=size then (match d6 cells off with
   | some (a,.arrI n k l::d)=>(match xs with
     | [.int k' v] =>if k=k' then (if 0<n then kx place (a++ .arrI n k (l.set 0 v)::d) rest else none) else none
     | [.arrI m k' l'] =>if k=k' then (if m=n then kx place (a++ .arrI n k l'::d) rest else none) else none
     | _=>none)
   | some (a,r)=>(match d6 r size with
     | some (_,d)=>kx place (a++xs++d) rest
     | none=>none)
   | none=>none) else none
  | _,_=>none
def uj (fs:List Field):Nat→Option (Nat×Nat):=fun i=>match fs[i]? with | some f=>some (f.offset,P.cellsOf f.type) | none=>none
def sK (n:Nat) (k:IntKind):List Int→List (Nat×SV)→Option (List Int)
 | l,[] =>some l
 | l,(i,x)::rest=>(match x with
  | .int k' v=>if k'=k then (if i<n then sK n k (l.set i v) rest else none) else none
  | _=>none)
def uU (n m:Nat) (k:IntKind):List Int→List (Nat×SV)→Option (List Int)
 | l,[] =>some l
 | l,(i,x)::rest=>(match x with
  | .agg [.arrI m' k' l'] =>if k'=k then (if m'=m then (if i*m+m≤n then uU n m k (l.take (i*m)++(l'++l.drop (i*m+m))) rest else none) else none) else none
  | _=>none)
def FG (zero:TypeId→Option (List SV)) (T:TypeId) (parts:List (Nat×SV)):OR:=
 match P.underlying T,zero T with
 | some (.struct fs),some z=>if fs.toList.all (fun f=>P.cellsOf f.type !=0) then (match kx (uj P fs.toList) z parts with | some cs=> .val (.agg cs) | none=> .bad) else .bad
 | some (.array _ E),some z=>if P.cellsOf E=0 then .bad else (match (match z with | [.arrI n k l] =>if P.cellsOf E=1 then (match sK n k l parts with | some l'=>some (.agg [.arrI n k l']) | none=>none) else (match uU n (P.cellsOf E) k l parts with | some l'=>some (.agg [.arrI n k l']) | none=>none) | _=>none) with
  | some sv=> .val sv
  | none=>match kx (fun i=>some (i*P.cellsOf E,P.cellsOf E)) z parts with | some cs=> .val (.agg cs) | none=> .bad)
 | _,_=> .bad
def Pe (k:IntKind):List SV→Option (List Int)
 | [] =>some []
 | s::cs=>(match s with
  | .int k' n=>if k'=k then (match Pe k cs with | some l=>some (n::l) | none=>none) else none
  | _=>none)
def Kn (z:Option (List SV)) (sv:SV):SV:=
 match z,sv with
 | some [.arrI n k _],.agg cs=>(match Pe k cs with | some l=>if l.length=n then .agg [.arrI n k l] else sv | none=>sv)
 | _,_=>sv
def LF (z:Option (List SV)):OR→OR
 | .need p r=> .need p (LF z r)
 | .val sv=> .val (Kn z sv)
 | r=>r
def kF (e:List CSh):Nat→List (Nat×SV)→Option LD
 | _,[] =>some []
 | j,(i,x)::rest=>if i=j then (match x.cells with
  | some xs=>(match pX e (zO xs),kF e (j+1) rest with
   | some row,some rows=>some (row::rows)
   | _,_=>none)
  | none=>none) else none
def uv:Nat→List (Nat×SV)→Option (List SV)
 | _,[] =>some []
 | j,(i,x)::rest=>if i=j then (if x.one=true then (match uv (j+1) rest with
  | some xs=>some (x::xs)
  | none=>none) else none) else none
def rM (zero:TypeId→Option (List SV)) (T:TypeId) (len:Nat) (parts:List (Nat×SV)):OR:=
 match P.underlying T with
 | some (.slice E)=>(match NP P 4 E,zero E with
  | some e,some _=>if parts.length=len then (if e.length=P.cellsOf E then (match kF e 0 parts with
   | some rows=>if len*e.length≤1024 then (if e.length=0 then .bad else .newOwn true E e rows) else .bad
   | none=>(match uv 0 parts with
    | some svs=>if e.length=1 then (if len≤1024 then .newRo (.sls svs) else .bad) else .bad
    | none=> .bad)) else .bad) else .bad
  | _,_=> .bad)
 | _=> .bad
def uh (zero:TypeId→Option (List SV)) (T:TypeId) (len cap:SV):OR:=
 match P.underlying T,len,cap with
 | some (.slice E),.int _ n,.int _ c=>(match NP P 4 E,zero E with
  | some e,some z=>(match pX e (zO z) with
   | some row=>if e.length=0 then .bad else .need (0≤n∧n≤c∧P.bytesOf E*c≤140737488355328∧c≤9223372036854775807) (.newOwn false E e (ab0 n.toNat row))
   | none=> .bad)
  | _,_=> .bad)
 | _,_,_=> .bad
def O7 (n:Int):Prop:= -9223372036854775808≤n∧n≤9223372036854775807
def rF (k:IntKind) (n:Int):OR:=match k with | .i64=> .need (O7 n) (.val (.int .i64 n)) | k=> .val (.int k (k.wrap n))
def OP (op:BinOp) (k:IntKind) (a b:Int):OR:=
 match op with
 | .add=>rF k (a+b)
 | .sub=>rF k (a-b)
 | .mul=>rF k (a*b)
 | .quo=> .need (0≤a∧0<b∧a≤k.max) (.val (.int k (a / b)))
 | .rem=> .need (0≤a∧0<b) (.val (.int k (a%b)))
 | .and=> .val (.int k (dp k a b))
 | .or=> .val (.int k (iq k a b))
 | .xor=> .val (.int k (wV k a b))
 | .andNot=> .val (.int k (lC k a b))
 | .eql=> .val (.bool (decide (a=b)))
 | .neq=> .val (.bool (decide (a≠b)))
 | .lss=> .val (.bool (decide (a<b)))
 | .leq=> .val (.bool (decide (a≤b)))
 | .gtr=> .val (.bool (decide (b<a)))
 | .geq=> .val (.bool (decide (b≤a)))
 | _=> .bad
def cb (P:Program):List Field→Nat→List SV→List SV→Option Bool
 | [],_,[],[] =>some true
 | f::fs,j,c::cs,d::ds=>if f.offset=j then (if f.name= "_" then none else
  (match P.underlying f.type,c,d with
  | some (.int _),.int k a,.int k' b=>if k=k' then (match cb P fs (j+1) cs ds with | some r=>some (decide (a=b)&&r) | none=>none) else none
  | some .bool,.bool a,.bool b=>(match cb P fs (j+1) cs ds with | some r=>some (decide (a=b)&&r) | none=>none)
  | some .string,.str a,.str b=>(match cb P fs (j+1) cs ds with | some r=>some (decide (a=b)&&r) | none=>none)
  | _,_,_=>none)) else none
 | _,_,_,_=>none
def OU (P:Program):List Field→List SV→List SV→Option Bool
 | [f],[.arrI m k l],[.arrI m' k' l'] =>if f.offset=0 then (if f.name= "_" then none else (match P.underlying f.type with
  | some (.array n E)=>(match P.underlying E with
   | some (.int _)=>if m=n then (if m'=n then (if k=k' then (if P.cellsOf E=1 then (if P.cellsOf f.type=n then some (decide (l=l')) else none) else none) else none) else none) else none
   | _=>none)
  | _=>none)) else none
 | _,_,_=>none
def Iw (P:Program) (T:TypeId) (cs ds:List SV):Option Bool:=
 match P.underlying T with
 | some (.array n E)=>(match P.underlying E,cs,ds with
  | some (.int _),[.arrI m k l],[.arrI m' k' l'] =>if m=n then (if m'=n then (if k=k' then (if P.cellsOf E=1 then some (decide (l=l')) else none) else none) else none) else none
  | _,_,_=>none)
 | some (.struct fs)=>if P.stoodInHeld T=false then (match OU P fs.toList cs ds with | some r=>some r | none=>cb P fs.toList 0 cs ds) else none
 | _=>none
def DI:SV→OR
 | .nilp=> .val (.bool true)
 | .ptr .. => .val (.bool false)
 | .aptr .. => .val (.bool false)
 | .eptr .. => .val (.bool false)
 | .optr .. => .val (.bool false)
 | _=> .bad
def DT:SV→OR
 | .nils=> .val (.bool true)
 | .e0=> .anyB fun _=>True
 | .rd e l=> .anyB fun b=>b=true→l= []
 | _=> .bad
def DK:SV→OR
 | .nilf=> .val (.bool true)
 | .fn .. => .val (.bool false)
 | .fb .. => .val (.bool false)
 | _=> .bad
def Fc (r:OR):OR:=match r with
 | .val (.bool b)=> .val (.bool (!b))
 | .anyB f=> .anyB fun b=>f (!b)
 | r=>r
def OQ (hp:List Blk) (op:BinOp) (T:TypeId) (x y:SV):OR:=
 match op,x,y with
 | .shl,.int k a,.int _ b=> .need (0≤b) (.val (.int k (eG k a b)))
 | .shr,.int k a,.int _ b=> .need (0≤b) (.val (.int k (aL k a b)))
 | op,.int k a,.int k' b=>if k=k' then OP op k a b else .bad
 | .eql,.bool a,.bool b=>(match P.underlying T with | some .bool=> .val (.bool (a==b)) | _=> .bad)
 | .neq,.bool a,.bool b=>(match P.underlying T with | some .bool=> .val (.bool (a !=b)) | _=> .bad)
 | .eql,.str a,.str b=> .val (.bool (decide (a=b)))
 | .neq,.str a,.str b=> .val (.bool (decide (a≠b)))
 | .add,.str a,.str b=> .need (a.length+b.length≤9223372036854775807) (.val (.str (a++b)))
 | .eql,.agg cs,.agg ds=>(match Iw P T cs ds with | some r=> .val (.bool r) | none=> .bad)
 | .neq,.agg cs,.agg ds=>(match Iw P T cs ds with | some r=> .val (.bool (!r)) | none=> .bad)
 | .eql,x,.nilp=>(match P.underlying T with | some (.pointer _)=>DI x | _=> .bad)
 | .neq,x,.nilp=>(match P.underlying T with | some (.pointer _)=>Fc (DI x) | _=> .bad)
 | .eql,x,.nilf=>(match P.underlying T with | some (.func _ _ _)=>DK x | _=> .bad)
 | .neq,x,.nilf=>(match P.underlying T with | some (.func _ _ _)=>Fc (DK x) | _=> .bad)
 | .eql,x,.nils=>(match P.underlying T with | some (.slice _)=>DT x | _=> .bad)
 | .neq,x,.nils=>(match P.underlying T with | some (.slice _)=>Fc (DT x) | _=> .bad)
 | _,_,_=> .bad
def pC:Operand→Bool
 | .const _=>true
 | _=>false
def I6 (op:BinOp) (T:TypeId) (c:Bool) (x:SV):OR:=
 match P.underlying T,op,x with
 | some (.interface _),.eql,.nili=>if c=true then .val (.bool true) else .bad
 | some (.interface _),.neq,.nili=>if c=true then .val (.bool false) else .bad
 | some (.interface _),.eql,.iface _ _=> .val (.bool false)
 | some (.interface _),.neq,.iface _ _=> .val (.bool true)
 | _,_,_=> .bad
def Oq (T:TypeId) (x:SV):OR:=
 match P.underlying T with
 | some (.interface _)=> .bad
 | some _=> .val (.iface T x)
 | none=> .bad
def rX:List FieldStep→TypeId→SV→Option (TypeId×SV)
 | [],t,s=>some (t,s)
 | st::rest,_,s=>if st.deref=true then none else (match P.underlying st.struct,s with
  | some (.struct fs),.agg cs=>(match fs[st.index]? with
   | some f=>(match iV P f.type cs f.offset with
    | .val s'=>rX rest f.type s'
    | _=>none)
   | none=>none)
  | _,_=>none)
def To (xt:TypeId) (s:SV) (ptr:Bool):Option SV:=
 match P.underlying xt with
 | some (.pointer _)=>if ptr=true then some s else none
 | some _=>if ptr=true then none else some s
 | none=>none
def CS (ρ:Operand→SV) (recv:Operand) (name:String) (args:List Operand):OR:=
 match ρ recv with
 | .iface t s=>(match P.info? t with
  | some i=>(match i.methods.find? (·.name==name) with
   | some m=>(match rX P m.path.toList t s with
    | some (xt,s')=>(match m.func with
     | some (f,ptr)=>(match To P xt s' ptr with
      | some r=> .call f (r::args.map ρ)
      | none=> .bad)
     | none=> .bad)
    | none=> .bad)
   | none=> .bad)
  | none=> .bad)
 | _=> .bad
def UZ (op:UnOp) (x:SV):OR:=
 match op,x with
 | .not,.bool b=> .val (.bool (!b))
 | .neg,.int k n=>rF k (0-n)
 | _,_=> .bad
def lenOf (hp:List Blk):SV→OR
 | .rd e l=> .know (l.length≤9223372036854775807) (.val (.int .i64 l.length))
 | .nils=> .val (.int .i64 0)
 | .e0=> .val (.int .i64 0)
 | .win _ _ _ _ n=> .know (n≤9223372036854775807) (.val (.int .i64 n))
 | .ow _ _ _ n=> .know (n≤9223372036854775807) (.val (.int .i64 n))
 | .own b=>(match hp.getD b .none with
  | .own _ e l=> .know (l.length≤9223372036854775807) (.val (.int .i64 l.length))
  | .ro e l=> .know (l.length≤9223372036854775807) (.val (.int .i64 l.length))
  | _=> .bad)
 | _=> .bad
def FM (hp:List Blk):SV→Option (List CSh×LD)
 | .str l=>some ([.int .u8],aj l)
 | x=>Ck hp x
def ZE:TypeDesc→Bool | .string=>true | .slice _=>true | _=>false
def Cs (hp:List Blk) (zero:TypeId→Option (List SV)) (T T2:TypeId) (x y:SV):OR:=
 match P.underlying T,P.underlying T2 with
 | some (.slice E),some d2=>(match NP P 4 E,zero E with
  | some e,some _=>if e.length=P.cellsOf E then (if e.length=0 then .bad else (if ZE d2=true then
   (match (match y with | .nils=>some (e,[]) | .e0=>some (e,[]) | y=>FM hp y) with
   | some (e2,m)=>if CSh.beqs e e2 then (match x with
    | .nils=> .need (m.length*P.bytesOf E≤140737488355328∧m.length≤9223372036854775807) (.newOwn false E e m)
    | .e0=> .need (m.length*P.bytesOf E≤140737488355328∧m.length≤9223372036854775807) (.newOwn false E e m)
    | .rdc e' l=>if CSh.beqs e e' then (match m with
     | [] => .bad
     | r::rs=> .need ((l.length+(r::rs).length)*P.bytesOf E≤140737488355328∧l.length+(r::rs).length≤9223372036854775807) (.newOwn false E e (l++r::rs))) else .bad
    | .own b=>(match hp.getD b .none with
     | .own E' e' l=>if E'=E then (if CSh.beqs e e' then .need ((l.length+m.length)*P.bytesOf E≤140737488355328∧l.length+m.length≤9223372036854775807) (.app b E e (l++m)) else .bad) else .bad
     | _=> .bad)
    | _=> .bad) else .bad
   | none=> .bad) else .bad)) else .bad
  | _,_=> .bad)
 | _,_=> .bad
def Dm (hp:List Blk):SV→Option (Nat×TypeId×List CSh×LD×Nat×Nat)
 | .own b=>(match hp.getD b .none with | .own T e l=>some (b,T,e,l,0,l.length) | _=>none)
 | .ow b sz lo n=>(match hp.getD b .none with | .own T e l=>if sz=e.length then some (b,T,e,l,lo,n) else none | _=>none)
 | _=>none
def Tn (hp:List Blk) (e:List CSh):SV→Option (List CSh×LD)
 | .nils=>some (e,[])
 | .e0=>some (e,[])
 | y=>Ck hp y
def gj (l:LD) (lo n:Nat) (m:LD):LD:=l.take lo++(m.take n++l.drop (lo+min n m.length))
def K3 (hp:List Blk) (T:TypeId) (x y:SV):OR:=
 match P.underlying T,Dm hp x with
 | some (.slice E),some (b,T',e,l,lo,n)=>(match Tn hp e y with
  | some (e2,m)=>if P.cellsOf E=e.length then (if e.length=0 then .bad else (if CSh.beqs e e2=true then .cpy b (.own T' e (gj l lo n m)) else .bad)) else .bad
  | none=> .bad)
 | _,_=> .bad
def FA (hp:List Blk) (zero:TypeId→Option (List SV)) (T:TypeId) (x:SV):OR:=
 match P.underlying T,Dm hp x with
 | some (.slice E),some (b,T',e,l,lo,n)=>(match zero E with
  | some z=>(match pX e (zO z) with | some row=>if e.length=0 then .bad else .cpy b (.own T' e (gj l lo n (ab0 n row))) | none=> .bad)
  | none=> .bad)
 | _,_=> .bad
def ye (hp:List Blk) (zero:TypeId→Option (List SV)) (b:Builtin) (Ts:List TypeId) (xs:List SV):OR:=
 match b,Ts,xs with
 | .len,[T],[x] =>(match P.underlying T,x with
  | some (.array n _),_=> .val (.int .i64 n)
  | some .string,.str l=> .know (l.length≤9223372036854775807) (.val (.int .i64 l.length))
  | some (.slice _),x=>lenOf hp x
  | _,_=> .bad)
 | .append,[T,T2],[x,y] =>Cs P hp zero T T2 x y
 | .copy,[T,_],[x,y] =>K3 P hp T x y
 | .clear,[T],[x] =>FA P hp zero T x
 | .min,_,[.int k a,.int k' b] =>if k=k' then .val (.int k (min a b)) else .bad
 | .max,_,[.int k a,.int k' b] =>if k=k' then .val (.int k (max a b)) else .bad
 | _,_,_=> .bad
def ur:Value→SV
 | .int k n=> .int k n
 | .bool b=> .bool b
 | .string s=>if s.size≤1000000 then .str s.data.toList else .dead
 | .pointer none=> .nilp
 | .nilFunc=> .nilf
 | .slice none 0 0=> .nils
 | .nilIface=> .nili
 | v=> .val v
def aH:List SV→Nat→SV
 | [],_=> .dead
 | x::_,0=>x
 | _::l,n+1=>aH l n
def lZ:List SV→Nat→SV→List SV
 | [],_,_=> []
 | _::l,0,x=>x::l
 | y::l,n+1,x=>y::lZ l n x
structure AS where
 tm:List SV
 hp:List Blk
def AS.ev (glob:Nat→Option SV) (s:AS):Operand→SV
 | .tmp t=>aH s.tm t
 | .const v=>ur v
 | .global g=>(glob g).getD .dead
 | .func f=> .fn f []
def AS.put (s:AS) (dst:Option Tmp) (v:SV):AS:=
 match dst with
 | some d=> {s with tm:=lZ s.tm d v}
 | none=>s
abbrev SV.undef:SV:= .tup []
def Uk (t c:Bool) (r:OR):OR:=
 match t,c,r with
 | false,true,.newOwn _ T [.int .u8] (row::rows)=> .newRo (.rd [.int .u8] (row::rows))
 | true,true,.newOwn b T e l=> .newOwn b T e l
 | _,_,.newOwn _ T e l=> .newOwn false T e l
 | _,_,r=>r
def RD (ρ:Operand→SV) (f:Operand) (args:List Operand):OR:=
 match ρ f with
 | .fn f caps=> .call f (args.map ρ++caps)
 | .fb f firsts=> .call f (firsts++args.map ρ)
 | _=> .bad
def iL (zero:TypeId→Option (List SV)) (ρ:Operand→SV) (hp:List Blk):Op→OR
 | .move x=> .val (ρ x)
 | .assign x=> .val (ρ x)
 | .pick c a b=>(match ρ c with | .bool t=> .split t (.val (ρ a)) (.val (ρ b)) | _=> .bad)
 | .alloc T=>(match zero T with | some cs=> .new T cs | none=> .bad)
 | .box T x=>(match (ρ x).cells with | some cs=> .new T cs | none=> .bad)
 | .build T parts=>FG P zero T (parts.toList.map fun (i,x)=>(i,ρ x))
 | .buildSlice T n parts=>Uk (Nat.beq n 19) (parts.toList.all fun p=>pC p.2) (rM P zero T n (parts.toList.map fun (i,x)=>(i,ρ x)))
 | .load T a=>LF (zero T) (Ad P hp T (ρ a))
 | .store T a x=>Fr P hp T (ρ a) (ρ x)
 | .nilCheck x=>(match ρ x with | .ptr b c=> .val (.ptr b c) | .aptr b c i=> .val (.aptr b c i) | .eptr e l i c=> .val (.eptr e l i c) | .optr b sz i c=> .val (.optr b sz i c) | .iface t v=> .val (.iface t v) | _=> .bad)
 | .binOp op T x y _=>(match ρ y with | .nili=>I6 P op T (pC x||pC y) (ρ x) | b=>OQ P hp op T (ρ x) b)
 | .makeInterface T x=>Oq P T (ρ x)
 | .unOp op _ x=>UZ op (ρ x)
 | .convert src dst x=>zR P hp src dst (ρ x)
 | .sliceToArrayPointer A x=>zb P hp A (ρ x)
 | .makeSlice T l c=>uh P zero T (ρ l) (ρ c)
 | .slice T x lo hi mx=>GA P hp T (ρ x) (lo.map ρ) (hi.map ρ) (mx.map ρ)
 | .fieldAddr S x f=>um P S (ρ x) f
 | .field S x f=>Fv P S (ρ x) f
 | .indexAddr T x ix=>up P hp T (ρ x) (ρ ix)
 | .index T x ix=>Gt P T (ρ x) (ρ ix)
 | .extract t i=>(match ρ t with | .tup vs=>(match vs[i]? with | some v=> .val v | none=> .bad) | _=> .bad)
 | .makeFunc (.func f) first captured=>if first.size=0 then .val (.fn f (captured.toList.map ρ)) else (if captured.size=0 then .val (.fb f (first.toList.map ρ)) else .bad)
 | .call c=>(match c.callee with
  | .value f=>RD ρ f c.args.toList
  | .builtin b=>ye P hp zero b c.argTypes.toList (c.args.toList.map ρ)
  | .invoke recv name=>CS P ρ recv name c.args.toList)
 | _=> .bad
end
section
variable {Im:Nat→Prop} {ι:Nat→Option Value} {w:World}
theorem wO:∀ {s:SV} {v:Value},s.one=true→VRel Im ι w s v→v.oneCell'=true
 | .int ..,_,_,h=>by cases h;rfl
 | .bool _,_,_,h=>by cases h;rfl
 | .str _,_,_,h=>by obtain ⟨rfl,_⟩:=h;rfl
 | .nilp,_,_,h=>by cases h;rfl
 | .nilf,_,_,h=>by cases h;rfl
 | .ptr ..,_,_,h=>by obtain ⟨r,_,rfl⟩:=h;rfl
 | .aptr ..,_,_,h=>by obtain ⟨r,_,rfl⟩:=h;rfl
 | .rd ..,_,_,h=>by cases h <;>rfl
 | .rdc ..,_,_,h=>by obtain ⟨_,_,rfl⟩:=h;rfl
 | .e0,_,_,h=>by obtain ⟨_,rfl⟩:=h;rfl
 | .nils,_,_,h=>by cases h;rfl
 | .own b,v,_,h=>by obtain ⟨_,_,_,_,rfl⟩:=h;rfl
 | .lit b,v,_,h=>by obtain ⟨_,_,_,rfl⟩:=h;rfl
 | .win ..,_,_,h=>by obtain ⟨_,_,_,rfl,_⟩:=h;rfl
 | .eptr ..,_,_,h=>by obtain ⟨_,_,rfl,_⟩:=h;rfl
 | .optr ..,_,_,h=>by obtain ⟨_,_,_,_,_,rfl⟩:=h;rfl
 | .ow ..,_,_,h=>by obtain ⟨_,_,_,_,_,_,rfl,_⟩:=h;rfl
 | .fn ..,_,_,h=>by obtain ⟨_,rfl,_⟩:=h;rfl
 | .fb ..,_,_,h=>by obtain ⟨_,rfl,_⟩:=h;rfl
 | .sls _,_,_,h=>by obtain ⟨_,_,rfl,_⟩:=h;rfl
 | .nili,_,_,h=>by cases h;rfl
 | .iface ..,_,_,h=>by obtain ⟨_,rfl,_⟩:=h;rfl
 | .dead,_,h,_=>by simp [SV.one] at h
 | .agg _,_,h,_=>by simp [SV.one] at h
 | .arrI ..,_,h,_=>by simp [SV.one] at h
 | .arrB ..,_,h,_=>by simp [SV.one] at h
 | .tup _,_,h,_=>by simp [SV.one] at h
 | .val _,_,h,_=>by simp [SV.one] at h
theorem bm {s:SV} {cs:List SV} {vs:List Value} (h:CellsRel Im ι w (s::cs) vs):
  ∃ va vb,vs=va++vb∧va.length=s.size∧CellsRel Im ι w [s] va∧CellsRel Im ι w cs vb:=by
 unfold CellsRel at h
 split at h
 ·obtain ⟨h1,vs',rfl,h2⟩:=h
  exact ⟨_,vs',rfl,by simpa [SV.size] using h1,by unfold CellsRel;exact ⟨h1,[],by simp,rfl⟩,h2⟩
 ·obtain ⟨h1,vs',rfl,h2⟩:=h
  exact ⟨_,vs',rfl,by simpa [SV.size] using h1,by unfold CellsRel;exact ⟨h1,[],by simp,rfl⟩,h2⟩
 ·rename_i h1 h2
  obtain ⟨v,vs',rfl,h3,h4,h5⟩:=h
  refine ⟨[v],vs',rfl,?_,?_,h5⟩
  ·cases s <;>first | rfl | exact absurd rfl (h1 _ _ _) | exact absurd rfl (h2 _ _)
  ·unfold CellsRel
   split
   ·exact absurd rfl (h1 _ _ _)
   ·exact absurd rfl (h2 _ _)
   ·exact ⟨v,[],rfl,h3,h4,rfl⟩
theorem fv {s:SV} {cs:List SV} {va vb:List Value} (h1:CellsRel Im ι w [s] va) (h2:CellsRel Im ι w cs vb):CellsRel Im ι w (s::cs) (va++vb):=by
 unfold CellsRel at h1 ⊢
 split at h1
 ·obtain ⟨e1,vs',rfl,rfl⟩:=h1
  exact ⟨e1,vb,by simp,h2⟩
 ·obtain ⟨e1,vs',rfl,rfl⟩:=h1
  exact ⟨e1,vb,by simp,h2⟩
 ·obtain ⟨v,vs',rfl,h3,h4,rfl⟩:=h1
  exact ⟨v,vb,by simp,h3,h4,h2⟩
theorem dH {s:SV} {v:Value} (h:s.one=true) (hv:VRel Im ι w s v):CellsRel Im ι w [s] [v] :=by
 unfold CellsRel
 split
 ·simp [SV.one] at h
 ·simp [SV.one] at h
 ·exact ⟨v,[],rfl,hv,wO h hv,rfl⟩
theorem bD {s:SV} {vs:List Value} (h:s.one=true) (hv:CellsRel Im ι w [s] vs):∃ v,vs= [v] ∧VRel Im ι w s v:=by
 unfold CellsRel at hv
 split at hv
 ·simp [SV.one] at h
 ·simp [SV.one] at h
 ·obtain ⟨v,vs',rfl,h1,_,rfl⟩:=hv
  exact ⟨v,rfl,h1⟩
theorem bA:∀ {cs ds:List SV} {vs us:List Value},CellsRel Im ι w cs vs→CellsRel Im ι w ds us→CellsRel Im ι w (cs++ds) (vs++us)
 | [],ds,vs,us,h,k=>by
  cases (show vs= [] from h)
  exact k
 | s::cs,ds,vs,us,h,k=>by
  obtain ⟨va,vb,rfl,_,h1,h2⟩:=bm h
  rw [ack,fE]
  exact fv h1 (bA h2 k)
theorem bT:∀ {cs:List SV} {n:Nat} {a d:List SV} {vs:List Value},d6 cs n=some (a,d)→CellsRel Im ι w cs vs→
  ∃ va vd,vs=va++vd∧va.length=n∧CellsRel Im ι w a va∧CellsRel Im ι w d vd
 | cs,0,a,d,vs,h,k=>by
  simp only [d6,ada,Prod.mk.injEq] at h
  obtain ⟨rfl,rfl⟩:=h
  exact ⟨[],vs,rfl,rfl,rfl,k⟩
 | [],n+1,a,d,vs,h,k=>by simp [d6] at h
 | s::cs,n+1,a,d,vs,h,k=>by
  unfold d6 at h
  split at h
  ·rename_i hs
   split at h
   ·rename_i a' d' hsp
    simp only [ada,Prod.mk.injEq] at h
    obtain ⟨rfl,rfl⟩:=h
    obtain ⟨va,vb,rfl,hl,h1,h2⟩:=bm k
    obtain ⟨vc,vd,rfl,hl2,h3,h4⟩:=bT hsp h2
    exact ⟨va++vc,vd,by simp,by simp [hl,hl2];omega,fv h1 h3,h4⟩
   ·cases h
  ·cases h
theorem nD:∀ {cs:List SV} {vs:List Value},CellsRel Im ι w cs vs→vs.length=Ru cs
 | [],vs,h=>by cases (show vs= [] from h);rfl
 | s::cs,vs,h=>by
  obtain ⟨va,vb,rfl,hl,_,h2⟩:=bm h
  simp [Ru,hl,nD h2]
theorem fX {n:Nat} {k:IntKind} {l:List Int} (h:l.length=n):CellsRel Im ι w [.arrI n k l] (l.map (Value.int k)):=by
 unfold CellsRel
 exact ⟨h,[],by simp,rfl⟩
theorem yb {n:Nat} {l:List Bool} (h:l.length=n):CellsRel Im ι w [.arrB n l] (l.map Value.bool):=by
 unfold CellsRel
 exact ⟨h,[],by simp,rfl⟩
theorem aD {n:Nat} {k:IntKind} {l:List Int} {cs:List SV} {vs:List Value} (h:CellsRel Im ι w (.arrI n k l::cs) vs):
  l.length=n∧∃ vs',vs=l.map (Value.int k)++vs'∧CellsRel Im ι w cs vs':=by unfold CellsRel at h;exact h
theorem dk {n:Nat} {l:List Bool} {cs:List SV} {vs:List Value} (h:CellsRel Im ι w (.arrB n l::cs) vs):
  l.length=n∧∃ vs',vs=l.map Value.bool++vs'∧CellsRel Im ι w cs vs':=by unfold CellsRel at h;exact h
theorem dU {n:Nat} {k:IntKind} {l:List Int} {cs:List SV} {vs:List Value} (h:l.length=n) (hc:CellsRel Im ι w cs vs):
  CellsRel Im ι w (.arrI n k l::cs) (l.map (Value.int k)++vs):=by unfold CellsRel;exact ⟨h,vs,rfl,hc⟩
theorem gP {n:Nat} {l:List Bool} {cs:List SV} {vs:List Value} (h:l.length=n) (hc:CellsRel Im ι w cs vs):
  CellsRel Im ι w (.arrB n l::cs) (l.map Value.bool++vs):=by unfold CellsRel;exact ⟨h,vs,rfl,hc⟩
theorem jj:∀ {cs:List SV} {vs:List Value},CellsRel Im ι w cs vs→∀ v∈vs,v.oneCell'=true
 | [],vs,h,v,hv=>by cases (show vs= [] from h);cases hv
 | s::cs,vs,h,v,hv=>by
  unfold CellsRel at h
  split at h
  ·obtain ⟨_,vs',rfl,h2⟩:=h
   rcases ads.1 hv with h | h
   ·obtain ⟨_,_,rfl⟩:=adw.1 h;rfl
   ·exact jj h2 v h
  ·obtain ⟨_,vs',rfl,h2⟩:=h
   rcases ads.1 hv with h | h
   ·obtain ⟨_,_,rfl⟩:=adw.1 h;rfl
   ·exact jj h2 v h
  ·obtain ⟨u,vs',rfl,_,h3,h2⟩:=h
   rcases List.mem_cons.1 hv with rfl | h
   ·exact h3
   ·exact jj h2 v h
theorem tY {s:SV} {xs:List SV} {v:Value} (h:s.cells=some xs) (hv:VRel Im ι w s v):CellsRel Im ι w xs v.cells.toList:=by
 unfold SV.cells at h
 split at h
 ·simp only [ada] at h
  subst h
  obtain ⟨vs,rfl,hc⟩:=hv
  simpa [Value.cells] using hc
 ·split at h
  ·rename_i ho
   simp only [ada] at h
   subst h
   have h1:=wO ho hv
   have:v.cells.toList= [v] :=by cases v <;>first | rfl | (simp [Value.oneCell'] at h1)
   rw [this]
   exact dH ho hv
  ·cases h
theorem RowRel.length:∀ {e:List CSh} {row:List CD} {vs:List Value},RowRel Im w e row vs→vs.length=e.length∧row.length=e.length
 | _,_,_,.nil=>by simp
 | _,_,_,.cons sh cd v e row vs h1 h2=>by have:=h2.length;simp [this]
theorem RowRel.get:∀ {e:List CSh} {row:List CD} {vs:List Value},RowRel Im w e row vs→∀ (c:Nat) (sh:CSh),e[c]? =some sh→∃ v,vs[c]? =some v∧CRel Im w sh (row.getD c .d0) v
 | _,_,_,.nil,c,sh,h=>by simp at h
 | _,_,_,.cons sh0 cd v e row vs h1 h2,0,sh,h=>by
  simp only [adx,ada] at h
  subst h
  exact ⟨v,rfl,h1⟩
 | _,_,_,.cons sh0 cd v e row vs h1 h2,c+1,sh,h=>by
  simp only [List.getElem?_cons_succ] at h
  simpa using h2.get c sh h
theorem FlatRel.length:∀ {e:List CSh} {l:LD} {xs:List Value},FlatRel Im w e l xs→xs.length=l.length*e.length
 | _,_,_,.nil e=>by simp
 | _,_,_,.cons e row vs l xs h1 h2=>by
  simp only [ce,adC,h1.length.1,h2.length,adS]
  omega
theorem FlatRel.append:∀ {e:List CSh} {l m:LD} {xs ys:List Value},FlatRel Im w e l xs→FlatRel Im w e m ys→FlatRel Im w e (l++m) (xs++ys)
 | _,_,_,_,_,.nil e,k=>k
 | _,_,m,_,ys,.cons e row vs l xs h1 h2,k=>by
  rw [ack,fE]
  exact .cons e row vs _ _ h1 (h2.append k)
theorem FlatRel.row:∀ {e:List CSh} {l:LD} {xs:List Value},FlatRel Im w e l xs→∀ i,i<l.length→
  ∃ vs,RowRel Im w e (l.getD i []) vs∧∀ c v,vs[c]? =some v→xs[i*e.length+c]? =some v
 | _,_,_,.nil e,i,h=>by simp at h
 | _,_,_,.cons e row vs l xs h1 h2,0,_=>⟨vs,by simpa using h1,fun c v hv=>by
   have hc:c<vs.length:=(adW.1 hv).1
   rw [aen,aeE,aeU hc]
   exact hv⟩
 | _,_,_,.cons e row vs l xs h1 h2,i+1,h=>by
  obtain ⟨us,hu,hc⟩:=h2.row i (by simpa using h)
  refine ⟨us,by simpa using hu,fun c v hv=> ?_⟩
  have hl:=h1.length.1
  rw [ae5 (by rw [hl,adS];omega)]
  rw [show (i+1)*e.length+c-vs.length=i*e.length+c by rw [hl,adS];omega]
  exact hc c v hv
theorem FlatRel.get {e:List CSh} {l:LD} {xs:List Value} (h:FlatRel Im w e l xs) (i c:Nat) (sh:CSh) (hi:i<l.length) (hc:e[c]? =some sh):
  ∃ v,xs[i*e.length+c]? =some v∧CRel Im w sh ((l.getD i []).getD c .d0) v:=by
 obtain ⟨vs,hr,hx⟩:=h.row i hi
 obtain ⟨v,hv,hv'⟩:=hr.get c sh hc
 exact ⟨v,hx c v hv,hv'⟩
theorem FlatRel.split:∀ {e:List CSh} {l:LD} {xs:List Value},FlatRel Im w e l xs→∀ n,n≤l.length→FlatRel Im w e (l.take n) (xs.take (n*e.length))∧FlatRel Im w e (l.drop n) (xs.drop (n*e.length))
 | _,_,_,h,0,_=>by simp only [List.take_zero,aen,List.drop_zero];exact ⟨.nil _,h⟩
 | _,_,_,.nil e,n+1,hn=>by simp at hn
 | _,_,_,.cons e row vs l xs h1 h2,n+1,hn=>by
  have hl:=h1.length.1
  have ih:=h2.split n (by simpa using hn)
  have hk:(n+1)*e.length=vs.length+n*e.length:=by rw [hl,adS];omega
  rw [hk,af9,List.drop_append]
  simp only [agj,agm,List.drop_succ_cons,agv (agG _ _),ahv (agG _ _),List.nil_append]
  exact ⟨.cons e row vs _ _ h1 ih.1,ih.2⟩
theorem KL {sh:CSh} {cd:CD} {v:Value} (h:CRel Im w sh cd v):VRel Im ι w (ON sh cd) v:=by
 cases h with
 | int k n=>rfl
 | bool b=>rfl
 | str l hl=>exact ⟨rfl,hl⟩
 | sl0 e a cap hc=>exact .sl0 e a cap hc
 | sl e l ad cap xs h1 h2 h3 h4 h5=>exact .sl e l ad cap xs h1 h2 h3 h4 h5
theorem Ve (sh:CSh) (cd:CD):(ON sh cd).one=true:=by cases sh <;>rfl
theorem RowRel.cells:∀ {e:List CSh} {row:List CD} {vs:List Value},RowRel Im w e row vs→∀ v∈vs,v.oneCell'=true
 | _,_,_,.nil,_,h=>by cases h
 | _,_,_,.cons sh cd v e row vs h1 h2,u,h=>by
  rcases List.mem_cons.1 h with rfl | h
  ·cases h1 <;>rfl
  ·exact h2.cells u h
theorem FlatRel.cells:∀ {e:List CSh} {l:LD} {xs:List Value},FlatRel Im w e l xs→∀ v∈xs,v.oneCell'=true
 | _,_,_,.nil e,_,h=>by cases h
 | _,_,_,.cons e row vs l xs h1 h2,u,h=>by
  rcases ads.1 h with h | h
  ·exact h1.cells u h
  ·exact h2.cells u h
theorem KU {sh:CSh} {s:SV} {d:CD} {v:Value} (h:FE sh s=some d) (hv:VRel Im ι w s v):CRel Im w sh d v:=by
 unfold FE at h
 split at h
 ·split at h
  ·simp only [ada] at h
   subst h
   rename_i hk
   subst hk
   cases hv
   exact .int _ _
  ·cases h
 ·simp only [ada] at h;subst h;cases hv;exact .bool _
 ·simp only [ada] at h;subst h;obtain ⟨rfl,hl⟩:=hv;exact .str _ hl
 ·split at h
  ·rename_i hb
   simp only [ada] at h;subst h
   rw [CSh.beqs_eq _ _ hb]
   exact hv
  ·cases h
 ·simp only [ada] at h;subst h;cases hv;exact .sl0 _ _ _ (by simp [maxLen])
 ·simp only [ada] at h;subst h;obtain ⟨a,rfl⟩:=hv;exact .sl0 _ _ _ (by simp [maxLen])
 ·cases h
theorem qA:∀ {e:List CSh} {cs:List SV} {row:List CD} {vs:List Value},pX e cs=some row→CellsRel Im ι w cs vs→RowRel Im w e row vs
 | [],[],row,vs,h,hc=>by
  simp only [pX,ada] at h
  subst h
  cases (show vs= [] from hc)
  exact .nil
 | sh::e,s::cs,row,vs,h,hc=>by
  unfold pX at h
  split at h
  ·rename_i d ds hd hds
   simp only [ada] at h
   subst h
   obtain ⟨va,vb,rfl,hl,h1,h2⟩:=bm hc
   have ho:s.one=true:=by
    cases s <;>first | rfl | (simp [FE] at hd)
   obtain ⟨v,rfl,hv⟩:=bD ho h1
   exact .cons _ _ _ _ _ _ (KU hd hv) (qA hds h2)
  ·cases h
 | [],_::_,_,_,h,_=>by simp [pX] at h
 | _::_,[],_,_,h,_=>by simp [pX] at h
theorem TO (l:List Int) (k:IntKind):(List.range l.length).map (fun i=>Value.int k (l.getD i 0))=l.map (Value.int k):=by
 apply ais
 intro j
 simp only [eW]
 by_cases h:j<l.length
 ·rw [List.getElem?_range h,cH h]
  simp [ay,h]
 ·rw [gd (by simpa using h),gd (by simpa using h)]
  rfl
theorem Fb {k:IntKind} :∀ (f:Nat→Int) (l:List Nat),CellsRel Im ι w (l.map fun i=>SV.int k (f i)) (l.map fun i=>Value.int k (f i))
 | f,[] =>rfl
 | f,i::l=>fv (va:= [Value.int k (f i)]) (dH rfl rfl) (Fb f l)
theorem pG:∀ {cs:List SV} {vs:List Value},CellsRel Im ι w cs vs→CellsRel Im ι w (zO cs) vs
 | [],vs,h=>h
 | s::cs,vs,h=>by
  obtain ⟨va,vb,rfl,hsz,h1,h2⟩:=bm h
  clear hsz
  unfold zO
  split
  ·rename_i n k l
   obtain ⟨hl,vz,hva,hz⟩:=aD h1
   cases (show vz= [] from hz)
   rw [aiz] at hva
   subst hva
   subst hl
   refine bA ?_ (pG h2)
   rw [← TO l k]
   exact Fb (fun i=>l.getD i 0) _
  ·exact fv h1 (pG h2)
theorem LR {k:IntKind} :∀ {cs:List SV} {l:List Int} {vs:List Value},Pe k cs=some l→CellsRel Im ι w cs vs→vs=l.map (Value.int k)
 | [],l,vs,h,hv=>by
  cases h
  exact hv
 | s::cs,l,vs,h,hv=>by
  unfold Pe at h
  split at h
  ·rename_i k' n
   split at h
   ·rename_i hk
    subst hk
    split at h
    ·rename_i l' hl'
     cases h
     obtain ⟨va,vb,rfl,_,h1,h2⟩:=bm hv
     obtain ⟨v,rfl,h3⟩:=bD (s:= .int k' n) rfl h1
     cases (show v= .int k' n from h3)
     rw [LR hl' h2]
     rfl
    ·cases h
   ·cases h
  ·cases h
theorem Qm {z:Option (List SV)} {sv:SV} {v:Value} (h:VRel Im ι w sv v):VRel Im ι w (Kn z sv) v:=by
 unfold Kn
 split
 ·rename_i n k l0 cs
  split
  ·rename_i l hl
   split
   ·rename_i hn
    obtain ⟨vs,rfl,h2⟩:=h
    refine ⟨vs,rfl,?_⟩
    rw [LR hl h2]
    exact fX hn
   ·exact h
  ·exact h
 ·exact h
end
section
variable (P:Program) (Im:Nat→Prop) (ι:Nat→Option Value) (w:World)
def HV (hp:List Blk):Prop:=∀ b v,ι b=some v→BRel Im ι w (hp.getD b .none) v
def bi (run:Result Next):OR→Prop
 | .bad=>True
 | .need p r=>p→bi run r
 | .know p r=>p∧bi run r
 | .split b r1 r2=>(b=true→bi run r1)∧(b=false→bi run r2)
 | .val sv=>∃ v,run= .ok (.value v) w∧VRel Im ι w sv v
 | .new T cs=>∃ vs:List Value,run= .ok (.value (.pointer (some ⟨w.heap.size,0,none⟩))) (w.alloc (.cells vs.toArray T))∧CellsRel Im ι w cs vs
 | .newRo sv=>∃ v w',run= .ok (.value v) w'∧w.grownBy w' none∧VRel (fun i=>Im i∨(w.heap.size≤i∧i<w'.heap.size)) ι w' sv v
 | .newOwn c T e l=>∃ v w' xs,run= .ok (.value v) w'∧w.grownBy w' none∧(∃ a n cp,v= .slice a n cp∧(c=true→cp=n))∧OwnV w' T e.length v l.length xs∧FlatRel Im w e l xs∧∀ k,aB v=some k→w.heap.size≤k
 | .upd b (.cells T cs)=>∃ r vs cur T',ι b=some (.pointer (some ⟨r,0,none⟩))∧w.heap[r]? =some (.cells cur T (0,0))∧T'=T∧run= .ok .skip (w.setRow r (List.toArray vs))∧CellsRel Im ι w cs vs
 | .upd b (.own T e l)=>∃ v w' xs,ι b=some v∧run= .ok .skip w'∧w.grownBy w' (aB v)∧w'.heap.size=w.heap.size∧OwnV w' T e.length v l.length xs∧FlatRel Im w e l xs
 | .upd _ _=>False
 | .cpy b (.own T e l)=>∃ v w' xs u,ι b=some v∧run= .ok (.value u) w'∧w.grownBy w' (aB v)∧w'.heap.size=w.heap.size∧OwnV w' T e.length v l.length xs∧FlatRel Im w e l xs
 | .cpy _ _=>False
 | .app b T e l=>∃ v v' w' xs,ι b=some v∧run= .ok (.value v') w'∧w.grownBy w' (aB v)∧(∃ a n c,v'= .slice a n c)∧OwnV w' T e.length v' l.length xs∧FlatRel Im w e l xs∧∀ k,aB v'=some k→aB v=some k∨w.heap.size≤k
 | .frz b sv=>∃ v v' w',ι b=some v∧run= .ok (.value v') w'∧w.grownBy w' (aB v)∧VRel (fun i=>Im i∨aB v=some i) ι w' sv v'
 | .anyB f=>∃ β,run= .ok (.value (.bool β)) w∧f β
 | .call f svs=>∃ vs:List Value,VRels Im ι w svs vs∧run=(callFunc f vs.toArray).run P w
end
section
variable {P:Program} {Im:Nat→Prop} {ι:Nat→Option Value} {w:World}
theorem cr {T:TypeId} {d:TypeDesc} (h:P.underlying T=some d):∃ i,P.info? T=some i:=by
 unfold Program.underlying at h
 cases hi:P.info? T with
 | none=>rw [hi] at h;cases h
 | some i=>exact ⟨i,rfl⟩
theorem ca {T:TypeId} {b:Bool} (h:jz P T=some b):∃ d,P.underlying T=some d:=by
 unfold jz at h
 cases hu:P.underlying T with
 | none=>rw [hu] at h;cases h
 | some d=>exact ⟨d,rfl⟩
theorem qs {T:TypeId} {b:Bool} (h:jz P T=some b):(isAgg T).run P w= .ok b w:=by
 obtain ⟨d,hd⟩:=ca h
 unfold jz at h
 rw [hd] at h
 unfold isAgg
 rw [Sem.run_bind,run_underlying hd]
 cases d <;>simp_all
theorem xK {T:TypeId} {d:TypeDesc} (h:P.underlying T=some d):(sizeOf T).run P w= .ok (P.cellsOf T) w:=by
 obtain ⟨i,hi⟩:=cr h
 simp [sizeOf,typeInfo,hi,Program.cellsOf]
theorem fS {T:TypeId} {ad:Addr} (vs:List Value) (h:jz P T=some true) (hl:vs.length=P.cellsOf T) (hc:∀ j x,vs[j]? =some x→w.cell? (ad.add j)=some x):
  (loadVar T ad).run P w= .ok (.agg vs.toArray) w:=by
 obtain ⟨d,hd⟩:=ca h
 have h1:=run_loadCells_list (P:=P) w ad vs hc
 rw [hl] at h1
 simp only [loadVar,Sem.run_bind,qs h,Result.andThen_ok,if_true,xK hd,h1,Sem.run_pure]
theorem kq {T:TypeId} {ad:Addr} {x:Value} (h:jz P T=some false) (hc:w.cell? ad=some x):(loadVar T ad).run P w= .ok x w:=by
 simp only [loadVar,Sem.run_bind,qs h,Result.andThen_ok,aiI,if_false,run_load,hc]
theorem aS (r o j:Nat):(⟨r,o,none⟩:Addr).add j=⟨r,o+j,none⟩:=by unfold Addr.add;split <;>simp_all
theorem add_add (ad:Addr) (i j:Nat) (h:ad.spot=none):(ad.add i).add j=ad.add (i+j):=by
 cases ad with
 | mk b o s=>
  cases h
  rw [aS,aS,aS,ai6]
theorem sA {ad:Addr} {x:Value} {j:Nat} (h:w.cell? (ad.add j)=some x) (hj:j=0∨True):(ad.add j).spot=none:=by
 unfold World.cell? at h
 split at h
 ·cases hs:(ad.add j).spot with
  | none=>rfl
  | some _=>rw [hs] at h;simp at h
 ·cases h
theorem U3 {ad:Addr} {i j:Nat} {x:Value} (h:w.cell? (ad.add (i+j))=some x) (h0:ad.spot=none):w.cell? ((ad.add i).add j)=some x:=by
 rw [add_add _ _ _ h0];exact h
theorem jx {T:TypeId} {run:Result Next} {x y:OR} (hx:jz P T=some true→bi P Im ι w run x) (hy:jz P T=some false→bi P Im ι w run y):bi P Im ι w run (qX P T x y):=by
 unfold qX
 split
 ·exact hx ‹_›
 ·exact hy ‹_›
 ·trivial
theorem HV.cells {hp:List Blk} (h:HV Im ι w hp) {b:Nat} {T:TypeId} {cs:List SV} {v:Value} (hb:hp.getD b .none= .cells T cs) (hv:ι b=some v):
  ∃ (r:Nat) (vs:List Value),v= .pointer (some ⟨r,0,none⟩)∧w.heap[r]? =some (.cells vs.toArray T (0,0))∧CellsRel Im ι w cs vs:=by
 have:=h b v hv
 rw [hb] at this
 exact this
theorem HV.own {hp:List Blk} (h:HV Im ι w hp) {b:Nat} {T:TypeId} {e:List CSh} {l:LD} {v:Value} (hb:hp.getD b .none= .own T e l) (hv:ι b=some v):
  ∃ xs,OwnV w T e.length v l.length xs∧FlatRel Im w e l xs:=by
 have:=h b v hv
 rw [hb] at this
 exact this
theorem HV.ro {hp:List Blk} (h:HV Im ι w hp) {b:Nat} {e:List CSh} {l:LD} {v:Value} (hb:hp.getD b .none= .ro e l) (hv:ι b=some v):CRel Im w (.sl e) (.sl l) v:=by
 have:=h b v hv
 rw [hb] at this
 exact this
theorem aba {r:Nat} {vs:List Value} {T:TypeId} {fr:Nat×Nat} (h:w.heap[r]? =some (.cells vs.toArray T fr)) (c:Nat):w.cell? ⟨r,c,none⟩=vs[c]? :=by
 rw [cell_of_row w r c _ T fr h];simp
theorem mH {r:Nat} {va vm vd:List Value} {T:TypeId} {fr:Nat×Nat} (h:w.heap[r]? =some (.cells (va++(vm++vd)).toArray T fr)):∀ j x,vm[j]? =some x→w.cell? ((⟨r,va.length,none⟩:Addr).add j)=some x:=by
 intro j x hx
 have hj:j<vm.length:=(adW.1 hx).1
 rw [aS,aba h,ae5 (by omega),agj,aeU hj,hx]
theorem DJ {T:TypeId} {cs:List SV} {c:Nat} {r:Nat} {vs:List Value} {T':TypeId} {fr:Nat×Nat}
  (hb:w.heap[r]? =some (.cells vs.toArray T' fr)) (hc:CellsRel Im ι w cs vs):
  bi P Im ι w ((do let x ← Instr.loadAt T (.pointer (some ⟨r,c,none⟩));pure (.value x):Sem Next).run P w) (iV P T cs c):=by
 unfold iV
 split
 ·rename_i a rs hsp
  obtain ⟨va,vd,rfl,hl,h1,h2⟩:=bT hsp hc
  refine jx (fun ht=> ?_) (fun ht=> ?_)
  ·split
   ·rename_i m ds hsm
    obtain ⟨vm,vz,rfl,hlm,h3,h4⟩:=bT hsm h2
    subst hl
    have:=fS (P:=P) (w:=w) (ad:=⟨r,va.length,none⟩) vm ht hlm (mH hb)
    exact ⟨.agg vm.toArray,by simp [Instr.loadAt,Instr.sureAddr,this],vm,rfl,h3⟩
   ·trivial
  ·split
   ·rename_i s rs'
    split
    ·rename_i ho
     obtain ⟨vx,vy,rfl,hl1,h3,h4⟩:=bm h2
     obtain ⟨x,rfl,hx⟩:=bD ho h3
     have hcell:w.cell? ⟨r,c,none⟩=some x:=by
      have:=mH hb 0 x rfl
      rw [aS,ai8,hl] at this
      exact this
     exact ⟨x,by simp [Instr.loadAt,Instr.sureAddr,kq ht hcell],hx⟩
    ·trivial
   ·trivial
 ·trivial
theorem Ht {e0:List CSh} {l:LD} {xs:List Value} (h:FlatRel Im w e0 l xs) {i:Nat} (hi:i<l.length):∀ (e:List CSh) (c:Nat),(∀ k sh,e[k]? =some sh→e0[c+k]? =some sh)→
  CellsRel Im ι w (Iy l i e c) ((xs.drop (i*e0.length+c)).take e.length)
 | [],c,_=>by simp [Iy,CellsRel]
 | sh::e,c,hk=>by
  have h0:e0[c]? =some sh:=by simpa using hk 0 sh rfl
  obtain ⟨v,hv,hr⟩:=h.get i c sh hi h0
  have hlt:i*e0.length+c<xs.length:=(adW.1 hv).1
  have hd:xs.drop (i*e0.length+c)=v::xs.drop (i*e0.length+(c+1)):=by
   rw [List.drop_eq_getElem_cons hlt]
   congr 1
   have:=cH hlt
   rw [hv] at this
   exact (Option.some.inj this).symm
  rw [hd,adC,agm]
  have ih:=Ht h hi e (c+1) (fun k sh' h'=>by
   have:=hk (k+1) sh' (by simpa using h')
   rwa [show c+(k+1)=c+1+k by omega] at this)
  exact fv (va:= [v]) (dH (Ve _ _) (KL hr)) ih
theorem Cm {k:IntKind} :∀ {l:LD} {xs:List Value},FlatRel Im w [.int k] l xs→xs=(l.map fun r=>(r.getD 0 .d0).toInt).map (Value.int k)
 | _,_,.nil _=>rfl
 | _,_,.cons _ row vs l xs h1 h2=>by
  cases h1 with
  | cons sh cd v e row' vs' h3 h4=>
   cases h4
   cases h3
   simp [Cm h2,CD.toInt]
theorem KR {k:IntKind} :∀ {e:List CSh} {row:List CD} {vs:List Value},RowRel Im w e row vs→qx k e=true→vs=(row.map CD.toInt).map (Value.int k)∧row.length=e.length
 | _,_,_,.nil,_=>⟨rfl,rfl⟩
 | _,_,_,.cons sh cd v e row vs h1 h2,h=>by
  cases h1 with
  | int k' n=>
   simp only [qx,cZ,aQ] at h
   obtain ⟨rfl,h⟩:=h
   obtain ⟨h3,h4⟩:=KR h2 h
   exact ⟨by rw [h3];rfl,by simp [h4]⟩
  | _=>simp [qx] at h
theorem qy {k:IntKind} {e:List CSh} (h:qx k e=true):∀ {l:LD} {xs:List Value},FlatRel Im w e l xs→xs=(ku l).map (Value.int k)∧(ku l).length=l.length*e.length
 | _,_,.nil _=>⟨rfl,by simp [ku]⟩
 | _,_,.cons _ row vs l xs h1 h2=>by
  obtain ⟨h3,h4⟩:=KR h1 h
  obtain ⟨h5,h6⟩:=qy h h2
  have e1:ku (row::l)=row.map CD.toInt++ku l:=rfl
  rw [e1,h5,h3]
  refine ⟨by simp,?_⟩
  rw [ce,bp,h4,h6,adC,adS,ajc,Nat.add_comm]
theorem DN {k:IntKind} {sz:Nat} :∀ {m:Nat} {l:List Int},l.length=m*sz→FlatRel Im w (ab0 sz (.int k)) (rf sz m l) (l.map (Value.int k))
 | 0,l,h=>by
  rw [aen] at h
  rw [List.eq_nil_of_length_eq_zero h]
  exact .nil _
 | m+1,l,h=>by
  have hr:∀ (q:List Int),RowRel Im w (ab0 q.length (.int k)) (q.map CD.int) (q.map (Value.int k)):=by
   intro q
   induction q with
   | nil=>exact .nil
   | cons x q ih=>exact .cons _ _ _ _ _ _ (.int k x) ih
  have hl:(l.take sz).length=sz:=by rw [ajw];rw [adS] at h;omega
  have h1:=hr (l.take sz)
  rw [hl] at h1
  have h2:=DN (k:=k) (sz:=sz) (m:=m) (l:=l.drop sz) (by rw [eH,h,adS];omega)
  have h3:=FlatRel.cons _ _ _ _ _ h1 h2
  rw [← List.map_append,akt] at h3
  exact h3
theorem tZ (sz:Nat):∀ (m:Nat) (l:List Int),(rf sz m l).length=m
 | 0,_=>rfl
 | m+1,l=>by rw [rf,adC,tZ sz m]
theorem v7 {T:TypeId} {e:List CSh} {l:LD} {i c:Nat} {ad:Addr} {xs:List Value} (hf:FlatRel Im w e l xs) (hc:∀ j x,xs[j]? =some x→w.cell? (ad.add j)=some x):
  bi P Im ι w ((do let x ← Instr.loadAt T (.pointer (some (ad.add (i*e.length+c))));pure (.value x):Sem Next).run P w) (q6 P T e l i c):=by
 have hsub:∀ (n:Nat) j x,((xs.drop (i*e.length+c)).take n)[j]? =some x→w.cell? ((ad.add (i*e.length+c)).add j)=some x:=by
  intro n j x hx
  rw [aky] at hx
  split at hx
  ·rw [akB] at hx
   have h1:=hc _ _ hx
   have h0:ad.spot=none:=by
    by_cases hz:xs= []
    ·subst hz;simp at hx
    ·obtain ⟨y,ys,rfl⟩:=anH hz
     have:=hc 0 y rfl
     have h2:=sA this (.inl rfl)
     simpa [Addr.add] using h2
   exact U3 h1 h0
  ·cases hx
 unfold q6
 refine jx (fun ht=> ?_) (fun ht=> ?_)
 ·split
  ·rename_i k
   intro hn
   have hsp:=(hf.split i (by omega)).2
   have hsp2:=(hsp.split (P.cellsOf T) (by simp;omega)).1
   have hxs:=Cm hsp2
   simp only [List.length_singleton,anR,ai8] at hsub hxs hsp hsp2 ⊢
   have hlen:((xs.drop i).take (P.cellsOf T)).length=P.cellsOf T:=by
    have:=hf.length
    simp at this ⊢
    omega
   have:=fS (P:=P) (w:=w) (ad:=ad.add i) _ ht hlen (hsub _)
   refine ⟨.agg ((xs.drop i).take (P.cellsOf T)).toArray,by simp [Instr.loadAt,Instr.sureAddr,this],_,rfl,?_⟩
   rw [hxs]
   exact fX (by simp;omega)
  ·split
   ·rename_i e' c' _ hle
    intro hi
    have hlx:=hf.length
    have hb:i*e.length+c+P.cellsOf T≤xs.length:=by
     rw [hlx]
     have:(i+1)*e.length≤l.length*e.length:=apW _ hi
     rw [adS] at this
     omega
    have hlen:((xs.drop (i*e.length+c)).take (P.cellsOf T)).length=P.cellsOf T:=by simp;omega
    have:=fS (P:=P) (w:=w) (ad:=ad.add (i*e.length+c)) _ ht hlen (hsub _)
    refine ⟨.agg ((xs.drop (i*e.length+c)).take (P.cellsOf T)).toArray,by simp [Instr.loadAt,Instr.sureAddr,this],_,rfl,?_⟩
    have hr:=Ht (ι:=ι) hf hi ((e.drop c).take (P.cellsOf T)) c (fun k sh hk=>by
     rw [aky] at hk
     split at hk
     ·rw [akB] at hk;exact hk
     ·cases hk)
    have he:((e.drop c).take (P.cellsOf T)).length=P.cellsOf T:=by simp;omega
    rwa [he] at hr
   ·split
    ·rename_i k e' _ _
     split
     ·rename_i hc0
      subst hc0
      split
      ·rename_i hk
       split
       ·rename_i hm
        intro hn
        generalize hq:P.cellsOf T / (e'.length+1)=q at hm hn ⊢
        have hk':qx k (CSh.int k::e')=true:=by simp [qx,hk]
        have hsp:=(hf.split i (by omega)).2
        have hsp2:=(hsp.split q (by rw [eH];omega)).1
        obtain ⟨hxs,hxl⟩:=qy hk' hsp2
        have hql:((l.drop i).take q).length=q:=by rw [ajw,eH];omega
        rw [hql] at hxl
        simp only [adC,ai8] at hsub hxs hsp hsp2 hxl ⊢
        have hlen:((xs.drop (i*(e'.length+1))).take (q*(e'.length+1))).length=P.cellsOf T:=by
         rw [hxs,bp,hxl,← hm]
        have:=fS (P:=P) (w:=w) (ad:=ad.add (i*(e'.length+1))) _ ht hlen (hsub _)
        refine ⟨.agg ((xs.drop (i*(e'.length+1))).take (q*(e'.length+1))).toArray,by simp [Instr.loadAt,Instr.sureAddr,this],_,rfl,?_⟩
        rw [hxs]
        exact fX (by rw [hxl,← hm])
       ·trivial
      ·trivial
     ·trivial
    ·trivial
 ·split
  ·rename_i sh hsh
   intro hi
   obtain ⟨v,hv,hr⟩:=hf.get i c sh hi hsh
   have hcell:=hc _ _ hv
   exact ⟨v,by simp [Instr.loadAt,Instr.sureAddr,kq ht hcell],KL hr⟩
  ·trivial
theorem OwnV.at {T:TypeId} {sz:Nat} {r n cap n':Nat} {xs:List Value} (h:OwnV w T sz (.slice (some ⟨r,0,none⟩) n cap) n' xs) (hcap:0<cap):
  ∃ cur,w.heap[r]? =some (.cells cur T (0,0))∧n=n'∧n≤cap∧cap≤maxLen∧cur.size=cap*sz∧cur.toList.take (n*sz)=xs:=by
 rcases h.2 with ⟨a,h1,_⟩ | ⟨g,c,cur,h1,h2,h3,h4,h5,h6,h7⟩
 ·injection h1 with _ _ h3;omega
 ·injection h1 with h8 h9 h10
  injection h8 with h8
  injection h8 with h8
  subst h8 h9 h10
  exact ⟨cur,h2,rfl,h3,h5,h6,h7⟩
theorem qE {T:TypeId} {sz:Nat} {r n cap n':Nat} {xs:List Value} (h:OwnV w T sz (.slice (some ⟨r,0,none⟩) n cap) n' xs) (hcap:0<cap):∀ j x,xs[j]? =some x→w.cell? ((⟨r,0,none⟩:Addr).add j)=some x:=by
 obtain ⟨cur,hg,_,_,_,_,ht⟩:=h.at hcap
 intro j x hx
 rw [aS,aeE,cell_of_row w r j cur T (0,0) hg]
 rw [← ht,aky] at hx
 split at hx
 ·simpa using hx
 ·cases hx
theorem Eu {hp:List Blk} {T:TypeId} {s:SV} {v:Value} (hh:HV Im ι w hp) (hv:VRel Im ι w s v):
  bi P Im ι w ((do let x ← Instr.loadAt T v;pure (.value x):Sem Next).run P w) (Ad P hp T s):=by
 unfold Ad
 split
 ·rename_i b c
  obtain ⟨r,h1,rfl⟩:=hv
  split
  ·rename_i T' cs hb
   obtain ⟨r',vs,h2,h3,h4⟩:=hh.cells hb h1
   cases h2
   exact DJ h3 h4
  ·trivial
 ·rename_i b c i
  obtain ⟨r,h1,rfl⟩:=hv
  split
  ·rename_i T' cs hb
   obtain ⟨r',vs,h2,h3,h4⟩:=hh.cells hb h1
   cases h2
   split
   ·rename_i a n k l d hsp
    obtain ⟨va,vd,rfl,hl,h5,h6⟩:=bT hsp h4
    obtain ⟨hln,vz,rfl,h7⟩:=aD h6
    subst hl
    refine jx (fun ht=> ?_) (fun ht=> ?_)
    ·intro hn
     have hcells:∀ j x,(((l.drop i).take (P.cellsOf T)).map (Value.int k))[j]? =some x→w.cell? ((⟨r,va.length+i,none⟩:Addr).add j)=some x:=by
      intro j x hx
      rw [eW,aky] at hx
      split at hx
      ·rw [akB] at hx
       have:=mH (vm:=l.map (Value.int k)) h3 (i+j) x (by rw [eW];exact hx)
       rwa [aS,← ai6,← aS] at this
      ·simp at hx
     have:=fS (P:=P) (w:=w) _ ht (by simp;omega) hcells
     exact ⟨.agg (((l.drop i).take (P.cellsOf T)).map (Value.int k)).toArray,by simp [Instr.loadAt,Instr.sureAddr,this],_,rfl,fX (by simp;omega)⟩
    ·intro hn
     have hcell:w.cell? ⟨r,va.length+i,none⟩=some (.int k (l.getD i 0)):=by
      have:=mH (vm:=l.map (Value.int k)) h3 i (.int k (l.getD i 0)) (by rw [eW];simp [arY,cH (show i<l.length by omega)])
      rwa [aS] at this
     exact ⟨_,by simp [Instr.loadAt,Instr.sureAddr,kq ht hcell],rfl⟩
   ·rename_i a n l d hsp
    obtain ⟨va,vd,rfl,hl,h5,h6⟩:=bT hsp h4
    obtain ⟨hln,vz,rfl,h7⟩:=dk h6
    subst hl
    refine jx (fun ht=> ?_) (fun ht=> ?_)
    ·intro hn
     have hcells:∀ j x,(((l.drop i).take (P.cellsOf T)).map Value.bool)[j]? =some x→w.cell? ((⟨r,va.length+i,none⟩:Addr).add j)=some x:=by
      intro j x hx
      rw [eW,aky] at hx
      split at hx
      ·rw [akB] at hx
       have:=mH (vm:=l.map Value.bool) h3 (i+j) x (by rw [eW];exact hx)
       rwa [aS,← ai6,← aS] at this
      ·simp at hx
     have:=fS (P:=P) (w:=w) _ ht (by simp;omega) hcells
     exact ⟨.agg (((l.drop i).take (P.cellsOf T)).map Value.bool).toArray,by simp [Instr.loadAt,Instr.sureAddr,this],_,rfl,yb (by simp;omega)⟩
    ·intro hn
     have hcell:w.cell? ⟨r,va.length+i,none⟩=some (.bool (l.getD i false)):=by
      have:=mH (vm:=l.map Value.bool) h3 i (.bool (l.getD i false)) (by rw [eW];simp [arY,cH (show i<l.length by omega)])
      rwa [aS] at this
     exact ⟨_,by simp [Instr.loadAt,Instr.sureAddr,kq ht hcell],rfl⟩
   ·trivial
  ·trivial
 ·rename_i e l i c
  obtain ⟨ad,xs,rfl,h1,h2,h3⟩:=hv
  exact v7 h2 h3
 ·rename_i b sz i c
  obtain ⟨r,n,cap,h1,hcap,rfl⟩:=hv
  split
  ·rename_i T' e l hb
   obtain ⟨xs,h2,h3⟩:=hh.own hb h1
   split
   ·rename_i hsz
    subst hsz
    have:=v7 (P:=P) (ι:=ι) (T:=T) (i:=i) (c:=c) h3 (qE h2 hcap)
    rwa [aS,aeE] at this
   ·trivial
  ·trivial
 ·trivial
theorem E1 {run:Result Next} (z:Option (List SV)):∀ r:OR,bi P Im ι w run r→bi P Im ι w run (LF z r)
 | .need p r,h=>fun hp=>E1 z r (h hp)
 | .val sv,h=>by
  obtain ⟨v,h1,h2⟩:=h
  exact ⟨v,h1,Qm h2⟩
 | .bad,h=>h
 | .know p r,h=>h
 | .split b r1 r2,h=>h
 | .new T cs,h=>h
 | .newRo sv,h=>h
 | .newOwn c T e l,h=>h
 | .upd b blk,h=>h
 | .cpy b blk,h=>h
 | .app b T e l,h=>h
 | .frz b sv,h=>h
 | .anyB f,h=>h
 | .call f svs,h=>h
end
section
variable {P:Program} {Im:Nat→Prop} {ι:Nat→Option Value} {w:World}
theorem dM {T:TypeId} (h:P.cellsOf T≠0):∃ i,P.info? T=some i:=by
 unfold Program.cellsOf at h
 cases hi:P.info? T with
 | none=>rw [hi] at h;simp at h
 | some i=>exact ⟨i,rfl⟩
theorem cJ {T:TypeId} (h:P.cellsOf T≠0):(sizeOf T).run P w= .ok (P.cellsOf T) w:=by
 obtain ⟨i,hi⟩:=dM h
 simp [sizeOf,typeInfo,hi,Program.cellsOf]
theorem gF {T:TypeId} (hu:P.cellsOf T≠0) {r c:Nat} {v:Value} {T':TypeId} {va vm vd:List Value}
  (hb:w.heap[r]? =some (.cells (va++(vm++vd)).toArray T' (0,0))) (hc:va.length=c) (hl:v.cells.toList.length=P.cellsOf T) (hm:vm.length=P.cellsOf T) (h1:∀ x∈v.cells.toList,x.oneCell'=true):
  (storeVar T ⟨r,c,none⟩ v).run P w= .ok () (w.setRow r (va++(v.cells.toList++vd)).toArray):=by
 have hst:=run_storeCells_at P r c T' v.cells.toList 0 _ w hb (by simp at hl hm ⊢;omega) h1
 simp only [ai8] at hst
 have hsz:¬ (v.cells.size≠P.cellsOf T):=by simpa using hl
 simp only [storeVar,Sem.run_bind,cJ hu,Result.andThen_ok,if_neg hsz,hst]
 have e1:(va++(vm++vd)).take c=va:=by rw [← hc];simp
 have e2:(va++(vm++vd)).drop (c+v.cells.toList.length)=vd:=by
  rw [← fE]
  exact arZ (by simp at hl hm ⊢;omega)
 rw [e1,e2,fE]
theorem iS {T:TypeId} {a:Addr} {v:Value} {w':World} (h:(storeVar T a v).run P w= .ok () w'):(do Instr.storeAt T (.pointer (some a)) v;pure .skip:Sem Next).run P w= .ok .skip w':=by
 simp [Instr.storeAt,Instr.sureAddr,h]
theorem ib {α:Type} :∀ (l:List α) (i:Nat) (v:α),i<l.length→l.set i v=l.take i++([v] ++l.drop (i+1))
 | [],i,v,h=>by simp at h
 | x::l,0,v,_=>by simp
 | x::l,i+1,v,h=>by simp [ib l i v (by simpa using h)]
theorem go {α:Type} (l:List α) (i m:Nat) (h:i+m≤l.length):l=l.take i++((l.drop i).take m++l.drop (i+m)):=by
 rw [← List.drop_drop,akt,akt]
theorem RowRel.set:∀ {e:List CSh} {row:List CD} {vs:List Value},RowRel Im w e row vs→∀ (c:Nat) (sh:CSh) (d:CD) (v:Value),e[c]? =some sh→CRel Im w sh d v→RowRel Im w e (row.set c d) (vs.set c v)
 | _,_,_,.nil,c,sh,d,v,h,_=>by simp at h
 | _,_,_,.cons sh0 cd u e row vs h1 h2,0,sh,d,v,h,k=>by
  simp only [adx,ada] at h
  subst h
  exact .cons _ _ _ _ _ _ k h2
 | _,_,_,.cons sh0 cd u e row vs h1 h2,c+1,sh,d,v,h,k=> .cons _ _ _ _ _ _ h1 (h2.set c sh d v (by simpa using h) k)
theorem FlatRel.set:∀ {e:List CSh} {l:LD} {xs:List Value},FlatRel Im w e l xs→∀ (i c:Nat) (sh:CSh) (d:CD) (v:Value),i<l.length→e[c]? =some sh→CRel Im w sh d v→
  FlatRel Im w e (l.set i ((l.getD i []).set c d)) (xs.set (i*e.length+c) v)
 | _,_,_,.nil e,i,c,sh,d,v,h,_,_=>by simp at h
 | _,_,_,.cons e row vs l xs h1 h2,0,c,sh,d,v,_,h,k=>by
  have hl:=h1.length.1
  have hc:c<e.length:=(adW.1 h).1
  rw [aen,aeE,List.set_append_left _ _ (by omega)]
  exact .cons _ _ _ _ _ (by simpa using h1.set c sh d v h k) h2
 | _,_,_,.cons e row vs l xs h1 h2,i+1,c,sh,d,v,hi,h,k=>by
  have hl:=h1.length.1
  have hc:c<e.length:=(adW.1 h).1
  rw [List.set_append_right _ _ (by rw [hl,adS];omega)]
  rw [show (i+1)*e.length+c-vs.length=i*e.length+c by rw [hl,adS];omega]
  exact .cons _ _ _ _ _ h1 (by simpa using h2.set i c sh d v (by simpa using hi) h k)
theorem HR {α:Type} (l:List α) (i n:Nat) (v:α):(l.set i v).take n=(l.take n).set i v:=by
 apply ais
 intro j
 simp only [aky,List.getElem?_set,ajw]
 by_cases hj:j<n
 ·by_cases hi:i=j
  ·subst hi
   have e:(i<min n l.length)=(i<l.length):=by simp;omega
   simp [hj,e]
  ·simp [hi,hj]
 ·by_cases hi:i=j
  ·subst hi;simp [hj];omega
  ·simp [hi,hj]
theorem L7 {hp:List Blk} {T:TypeId} {p x:SV} {vp vx:Value} (hh:HV Im ι w hp) (hv:VRel Im ι w p vp) (hx:VRel Im ι w x vx):
  bi P Im ι w ((do Instr.storeAt T vp vx;pure .skip:Sem Next).run P w) (Fr P hp T p x):=by
 unfold Fr
 split
 ·trivial
 rename_i hT
 split
 ·rename_i b c
  obtain ⟨r,h1,rfl⟩:=hv
  split
  ·rename_i T' cs xs hb hxc
   obtain ⟨r',vs,h2,h3,h4⟩:=hh.cells hb h1
   cases h2
   split
   ·rename_i a rs hsp
    obtain ⟨va,vr,rfl,hl,h5,h6⟩:=bT hsp h4
    split
    ·rename_i m d hsm
     obtain ⟨vm,vd,rfl,hlm,h7,h8⟩:=bT hsm h6
     split
     ·rename_i hsz
      have hxr:=tY hxc hx
      have hst:=gF hT h3 hl ((nD hxr).trans hsz) hlm (jj hxr)
      refine ⟨r,_,_,T',h1,h3,rfl,iS hst,?_⟩
      rw [fE]
      exact bA h5 (bA hxr h8)
     ·trivial
    ·trivial
   ·trivial
  ·trivial
 ·rename_i b c i
  obtain ⟨r,h1,rfl⟩:=hv
  split
  ·rename_i T' cs hb
   obtain ⟨r',vs,h2,h3,h4⟩:=hh.cells hb h1
   cases h2
   split
   ·rename_i a n k l d hsp
    obtain ⟨va,vr,rfl,hl,h5,h6⟩:=bT hsp h4
    obtain ⟨hln,vz,rfl,h7⟩:=aD h6
    split
    ·rename_i k' v
     cases hx
     split
     ·rename_i hk
      subst hk
      split
      ·rename_i h1T
       intro hn
       have hq:=go (l.map (Value.int k)) i 1 (by simp;omega)
       rw [hq,fE,fE,← fE va] at h3
       have hst:=gF (v:= .int k v) hT (c:=c+i) h3 (by simp;omega) (by simp [Value.cells,h1T]) (by simp [h1T];omega) (by simp [Value.cells,Value.oneCell'])
       refine ⟨r,_,_,T',h1,h3,rfl,iS hst,?_⟩
       have he:va++ar0 i (l.map (Value.int k))++((Value.int k v).cells.toList++(ar1 (i+1) (l.map (Value.int k))++vz))=va++((l.set i v).map (Value.int k)++vz):=by
        rw [ib l i v (by omega)]
        simp [Value.cells,ar2,ar3]
       rw [he]
       exact bA h5 (dU (by simpa using hln) h7)
      ·trivial
     ·trivial
    ·rename_i m k' l'
     obtain ⟨us,rfl,hu⟩:=hx
     obtain ⟨hlm,uz,rfl,hz⟩:=aD hu
     cases (show uz= [] from hz)
     split
     ·rename_i hk
      subst hk
      split
      ·rename_i h1T
       intro hn
       have hq:=go (l.map (Value.int k)) i m (by simp;omega)
       rw [hq,fE,fE,← fE va] at h3
       have hst:=gF (v:= .agg (l'.map (Value.int k)++ []).toArray) hT (c:=c+i) h3 (by simp;omega) (by simp [Value.cells,hlm,h1T]) (by simp;omega) (by simp [Value.cells];intro x _;rfl)
       refine ⟨r,_,_,T',h1,h3,rfl,iS hst,?_⟩
       have he:va++ar0 i (l.map (Value.int k))++((Value.agg (l'.map (Value.int k)++ []).toArray).cells.toList++(ar1 (i+m) (l.map (Value.int k))++vz))=va++((l.take i++l'++l.drop (i+m)).map (Value.int k)++vz):=by
        simp [Value.cells,ar2,ar3]
       rw [he]
       exact bA h5 (dU (by simp;omega) h7)
      ·trivial
     ·trivial
    ·trivial
   ·rename_i a n l d hsp
    obtain ⟨va,vr,rfl,hl,h5,h6⟩:=bT hsp h4
    obtain ⟨hln,vz,rfl,h7⟩:=dk h6
    split
    ·rename_i v
     cases hx
     split
     ·rename_i h1T
      intro hn
      have hq:=go (l.map Value.bool) i 1 (by simp;omega)
      rw [hq,fE,fE,← fE va] at h3
      have hst:=gF (v:= .bool v) hT (c:=c+i) h3 (by simp;omega) (by simp [Value.cells,h1T]) (by simp [h1T];omega) (by simp [Value.cells,Value.oneCell'])
      refine ⟨r,_,_,T',h1,h3,rfl,iS hst,?_⟩
      have he:va++ar0 i (l.map Value.bool)++((Value.bool v).cells.toList++(ar1 (i+1) (l.map Value.bool)++vz))=va++((l.set i v).map Value.bool++vz):=by
       rw [ib l i v (by omega)]
       simp [Value.cells,ar2,ar3]
      rw [he]
      exact bA h5 (gP (by simpa using hln) h7)
     ·trivial
    ·rename_i m l'
     obtain ⟨us,rfl,hu⟩:=hx
     obtain ⟨hlm,uz,rfl,hz⟩:=dk hu
     cases (show uz= [] from hz)
     split
     ·rename_i h1T
      intro hn
      have hq:=go (l.map Value.bool) i m (by simp;omega)
      rw [hq,fE,fE,← fE va] at h3
      have hst:=gF (v:= .agg (l'.map Value.bool++ []).toArray) hT (c:=c+i) h3 (by simp;omega) (by simp [Value.cells,hlm,h1T]) (by simp;omega) (by simp only [Value.cells,aiz,adw];rintro x ⟨y,_,rfl⟩;rfl)
      refine ⟨r,_,_,T',h1,h3,rfl,iS hst,?_⟩
      have he:va++ar0 i (l.map Value.bool)++((Value.agg (l'.map Value.bool++ []).toArray).cells.toList++(ar1 (i+m) (l.map Value.bool)++vz))=va++((l.take i++l'++l.drop (i+m)).map Value.bool++vz):=by
       simp [Value.cells,ar2,ar3]
      rw [he]
      exact bA h5 (gP (by simp;omega) h7)
     ·trivial
    ·trivial
   ·trivial
  ·trivial
 ·rename_i b sz i c
  obtain ⟨r,n,cap,h1,hcap,rfl⟩:=hv
  split
  ·rename_i T' e l hb
   obtain ⟨xs,h2,h3⟩:=hh.own hb h1
   split
   ·rename_i hsz
    subst hsz
    split
    ·rename_i cs
     obtain ⟨vs,rfl,hcs0⟩:=hx
     split
     ·rename_i row hrow
      have hrr:=qA hrow (pG hcs0)
      have hcell:=jj hcs0
      have hvl:=hrr.length.1
      split
      ·rename_i hsT
       split
       ·rename_i hc0
        subst hc0
        intro hi
        obtain ⟨cur,hg,rfl,hnc,hcm,hcs,ht⟩:=h2.at hcap
        have hm1:(i+1)*e.length≤l.length*e.length:=apW _ hi
        rw [adS,ajc] at hm1
        have hm2:l.length*e.length≤cap*e.length:=apW _ hnc
        have hcl:cur.toList.length=cap*e.length:=by simpa using hcs
        have hq:=go cur.toList (i*e.length) e.length (by omega)
        have hg2:w.heap[r]? =some (.cells (cur.toList.take (i*e.length)++((cur.toList.drop (i*e.length)).take e.length++cur.toList.drop (i*e.length+e.length))).toArray T' (0,0)):=by
         rw [← hq];simpa using hg
        have hst:=gF (P:=P) (v:= .agg vs.toArray) hT (c:=i*e.length+0) hg2 (by rw [ajw];omega) (by simp [Value.cells,hvl,hsT]) (by rw [ajw,eH];omega) (by simpa [Value.cells] using hcell)
        have hva:(Value.agg vs.toArray).cells.toList=vs:=by simp [Value.cells]
        rw [hva] at hst
        have hxl:xs.length=l.length*e.length:=h3.length
        refine ⟨_,_,xs.take (i*e.length)++(vs++xs.drop (i*e.length+e.length)),h1,iS hst,⟨rfl,rfl,rfl,by simp,fun k _ hk=>setRow_other w r k _ (fun he=>hk (by subst he;simp [aB];omega))⟩,by simp,?_,?_⟩
        ·refine ⟨by rw [df,ce,ce,ajw,eH];omega,.inr ⟨r,cap,_,by simp,setRow_heap w r _ _ _ _ hg,by simpa using hnc,hcap,hcm,by simp;omega,?_⟩⟩
         rw [← ht,df]
         have t1:((cur.toList.take (l.length*e.length)).take (i*e.length))=cur.toList.take (i*e.length):=by rw [List.take_take,Nat.min_eq_left (by omega)]
         have t2:(cur.toList.take (l.length*e.length)).drop (i*e.length+e.length)=(cur.toList.drop (i*e.length+e.length)).take (l.length*e.length-(i*e.length+e.length)):=by rw [ar4]
         rw [t1,t2]
         show ((cur.toList.take (i*e.length)++(vs++cur.toList.drop (i*e.length+e.length)))).take (l.length*e.length)=_
         rw [af9,agv (by rw [ajw];omega),af9,agv (l:=vs) (by rw [ajw];omega)]
         congr 3
         rw [ajw]
         omega
        ·have s1:=(h3.split i (by omega)).1
         have s2:=(h3.split (i+1) (by omega)).2
         rw [adS,ajc] at s2
         have s3:=s1.append (.cons _ _ _ _ _ hrr s2)
         rw [ib _ _ _ hi]
         exact s3
       ·trivial
      ·trivial
     ·trivial
    split
    ·rename_i sh hsh
     split
     ·rename_i d hd
      split
      ·rename_i h1T
       intro hi
       obtain ⟨cur,hg,rfl,hnc,hcm,hcs,ht⟩:=h2.at hcap
       have hcr:=KU hd hx
       have ho:x.one=true:=by
        cases x <;>first | rfl | (simp [FE] at hd)
       have hvo:=wO ho hx
       have hvc:vx.cells.toList= [vx] :=by cases vx <;>first | rfl | (simp [Value.oneCell'] at hvo)
       have hce:c<e.length:=(adW.1 hsh).1
       have hlt:i*e.length+c<l.length*e.length:=by
        have:(i+1)*e.length≤l.length*e.length:=apW _ hi
        rw [adS] at this
        omega
       have hlt2:i*e.length+c<cur.toList.length:=by
        have:l.length*e.length≤cap*e.length:=apW _ hnc
        simp
        omega
       have hq:=go cur.toList (i*e.length+c) 1 (by omega)
       have hg2:w.heap[r]? =some (.cells (cur.toList.take (i*e.length+c)++((cur.toList.drop (i*e.length+c)).take 1++cur.toList.drop (i*e.length+c+1))).toArray T' (0,0)):=by
        rw [← hq];simpa using hg
       have hst:=gF (P:=P) (v:=vx) hT (c:=i*e.length+c) hg2 (by simp at hlt2 ⊢;omega) (by rw [hvc,h1T];rfl) (by simp at hlt2 ⊢;omega) (by rw [hvc];simpa using hvo)
       rw [hvc,← ib _ _ _ hlt2] at hst
       refine ⟨_,_,xs.set (i*e.length+c) vx,h1,iS hst,⟨rfl,rfl,rfl,by simp,fun k _ hk=>setRow_other w r k _ (fun he=>hk (by subst he;simp [aB];omega))⟩,by simp,?_,?_⟩
       ·refine ⟨by simpa using h2.1,.inr ⟨r,cap,_,by simp,setRow_heap w r _ _ _ _ hg,by simpa using hnc,hcap,hcm,by simpa using hcs,?_⟩⟩
        rw [← ht]
        simp only [df]
        exact HR _ _ _ _
       ·exact h3.set i c sh d vx hi hsh hcr
      ·trivial
     ·trivial
    ·trivial
   ·trivial
  ·trivial
 ·trivial
theorem oh {T E:TypeId} {len:Nat} (hu:P.underlying T=some (.array len E)) (hE:∃ i,P.info? E=some i) {a:Addr} {k:IntKind} {n:Int} (h:0≤n∧n<len):
  (Instr.indexAt T (.pointer (some a)) (.int k n)).run P w= .ok (.pointer (some (a.add (n.toNat*P.cellsOf E)))) w:=by
 obtain ⟨i,hi⟩:=hE
 simp [Instr.indexAt,asIntOf,run_underlying hu,Instr.sureAddr,h.1,h.2,sizeOf,typeInfo,hi,Program.cellsOf]
theorem i6 {T E:TypeId} (hu:P.underlying T=some (.slice E)) (hE:∃ i,P.info? E=some i) {a:Addr} {len cap:Nat} {k:IntKind} {n:Int} (h:0≤n∧n<len):
  (Instr.indexAt T (.slice (some a) len cap) (.int k n)).run P w= .ok (.pointer (some (a.add (n.toNat*P.cellsOf E)))) w:=by
 obtain ⟨i,hi⟩:=hE
 simp [Instr.indexAt,asIntOf,run_underlying hu,h.1,h.2,sizeOf,typeInfo,hi,Program.cellsOf]
theorem aJ {x:Sem Value} {v:Value} {w':World} (h:x.run P w= .ok v w'):(do let y ← x;pure (.value y):Sem Next).run P w= .ok (.value v) w':=by simp [h]
theorem sO {e:List CSh} {l:LD} {xs:List Value} {ad:Addr} (hf:FlatRel Im w e l xs) (hc:∀ j x,xs[j]? =some x→w.cell? (ad.add j)=some x) (hl:0<l.length) (he:0<e.length):ad.spot=none:=by
 have h1:=hf.length
 have h2:0<xs.length:=by rw [h1];exact Nat.mul_pos hl he
 have h3:=hc 0 xs[0] (by simp [h2])
 have h4:=sA h3 (.inl rfl)
 simpa [Addr.add] using h4
theorem CRel.slice {e:List CSh} {l:LD} {v:Value} (h:CRel Im w (.sl e) (.sl l) v):∃ a cap,v= .slice a l.length cap∧l.length≤cap∧cap≤maxLen∧
  (0<l.length→∃ ad xs,a=some ad∧Im ad.block∧FlatRel Im w e l xs∧∀ j x,xs[j]? =some x→w.cell? (ad.add j)=some x):=by
 cases h with
 | sl0 e a cap h=>exact ⟨a,cap,rfl,Nat.zero_le _,h,fun h=>by simp at h⟩
 | sl e l ad cap xs h1 h2 h3 h4 h5=>exact ⟨some ad,cap,rfl,h1,h2,fun _=>⟨ad,xs,rfl,h3,h4,h5⟩⟩
theorem OwnV.slice {T:TypeId} {sz:Nat} {v:Value} {n:Nat} {xs:List Value} (h:OwnV w T sz v n xs):∃ a cap,v= .slice a n cap∧n≤cap∧cap≤maxLen∧
  (0<cap→∃ g cur,a=some ⟨g,0,none⟩∧w.heap[g]? =some (.cells cur T (0,0))∧cur.size=cap*sz∧cur.toList.take (n*sz)=xs):=by
 rcases h.2 with ⟨a,rfl,rfl⟩ | ⟨g,cap,cur,rfl,h2,h3,h4,h5,h6,h7⟩
 ·exact ⟨a,0,rfl,ar5 _,Nat.zero_le _,fun h=>by simp at h⟩
 ·exact ⟨_,cap,rfl,h3,h5,fun _=>⟨g,cur,rfl,h2,h6,h7⟩⟩
theorem Eh {hp:List Blk} {T:TypeId} {x ix:SV} {vx vi:Value} (hh:HV Im ι w hp) (hx:VRel Im ι w x vx) (hi:VRel Im ι w ix vi):
  bi P Im ι w ((do let y ← Instr.indexAt T vx vi;pure (.value y):Sem Next).run P w) (up P hp T x ix):=by
 unfold up
 split
 ·rename_i k n
  cases hi
  split
  ·rename_i len E b c hu
   obtain ⟨r,h1,rfl⟩:=hx
   split
   ·trivial
   ·rename_i hE
    split
    ·rename_i T' cs hb
     intro hn
     have h2:=oh (w:=w) (k:=k) (a:=⟨r,c,none⟩) hu (dM hE) hn
     rw [aS] at h2
     split
     ·exact ⟨_,aJ h2,r,h1,rfl⟩
     ·exact ⟨_,aJ h2,r,h1,rfl⟩
    ·trivial
  ·rename_i len E b c i hu
   obtain ⟨r,h1,rfl⟩:=hx
   split
   ·trivial
   ·rename_i hE
    intro hn
    have h2:=oh (w:=w) (k:=k) (a:=⟨r,c+i,none⟩) hu (dM hE) hn
    rw [aS] at h2
    exact ⟨_,aJ h2,r,h1,by rw [ai6]⟩
  ·rename_i len E e l i c hu
   obtain ⟨ad,xs,rfl,h1,h2,h3⟩:=hx
   split
   ·trivial
   ·rename_i hE
    split
    ·rename_i hs
     split
     ·rename_i hc
      subst hc
      intro hn
      have h4:=oh (w:=w) (k:=k) (a:=ad.add (i*e.length+0)) hu (dM hE) ⟨hn.1,hn.2.1⟩
      have h5:=sO h2 h3 (by omega) (by omega)
      rw [add_add _ _ _ h5,hs] at h4
      exact ⟨_,aJ h4,ad,xs,by rw [adS,ai8,ai8],h1,h2,h3⟩
     ·trivial
    ·trivial
  ·rename_i E e l hu
   split
   ·trivial
   ·rename_i hE
    split
    ·rename_i hs
     intro hn
     obtain ⟨a,cap,rfl,_,_,h4⟩:=hx.slice
     obtain ⟨ad,xs,rfl,h5,h6,h7⟩:=h4 (by omega)
     have h8:=i6 (w:=w) (k:=k) (a:=ad) (cap:=cap) hu (dM hE) hn
     rw [hs] at h8
     exact ⟨_,aJ h8,ad,xs,by rw [ai8],h5,h6,h7⟩
    ·trivial
  ·rename_i E b hu
   split
   ·trivial
   ·rename_i hE
    obtain ⟨h1,a',n',c',rfl⟩:=hx
    split
    ·rename_i T' e l hb
     split
     ·rename_i hs
      intro hn
      obtain ⟨xs,h2,h3⟩:=hh.own hb h1
      obtain ⟨a,cap,h4,h5,h6,h7⟩:=h2.slice
      injection h4 with e1 e2 e3
      subst e1 e2 e3
      obtain ⟨g,cur,rfl,h8,h9,h10⟩:=h7 (by omega)
      have h11:=i6 (w:=w) (k:=k) (a:=⟨g,0,none⟩) (cap:=c') hu (dM hE) hn
      rw [hs,aS,aeE] at h11
      exact ⟨_,aJ h11,g,_,_,h1,by omega,by rw [ai8]⟩
     ·trivial
    ·rename_i e l hb
     split
     ·rename_i hs
      intro hn
      have h2:=hh.ro hb h1
      obtain ⟨a,cap,h4,_,_,h7⟩:=h2.slice
      injection h4 with e1 e2 e3
      subst e1 e2 e3
      obtain ⟨ad,xs,rfl,h8,h9,h10⟩:=h7 (by omega)
      have h11:=i6 (w:=w) (k:=k) (a:=ad) (cap:=c') hu (dM hE) hn
      rw [hs] at h11
      exact ⟨_,aJ h11,ad,xs,by rw [ai8],h8,h9,h10⟩
     ·trivial
    ·trivial
  ·rename_i E b c N lo m hu
   split
   ·rename_i hE
    obtain ⟨r,cap,h1,rfl,h2,h3,_⟩:=hx
    intro hn
    have h4:=i6 (w:=w) (k:=k) (a:=⟨r,c+lo,none⟩) (cap:=cap) hu (dM (by omega)) hn
    rw [hE,anR,aS,ai6] at h4
    exact ⟨_,aJ h4,r,h1,rfl⟩
   ·trivial
  ·trivial
 ·trivial
theorem nW {T:TypeId} (h:jz P T=some true) {va vm vd:List Value} {off:Nat} (hl:va.length=off) (hm:vm.length=P.cellsOf T):
  (part T (va++(vm++vd)).toArray off).run P w= .ok (.agg vm.toArray) w:=by
 obtain ⟨d,hd⟩:=ca h
 simp only [part,Sem.run_bind,qs h,Result.andThen_ok,if_true,xK hd,Sem.run_pure]
 congr 2
 apply ar6
 simp only [Array.toList_extract,ar7]
 subst hl
 rw [← hm]
 simp [ar8]
theorem fJ {T:TypeId} (h:jz P T=some false) {cs:Array Value} {off:Nat} {x:Value} (hx:cs[off]? =some x):(part T cs off).run P w= .ok x w:=by
 simp only [part,Sem.run_bind,qs h,Result.andThen_ok,aiI,if_false,hx,Sem.run_pure]
theorem Ms {va vm vd:List Value} (j:Nat) (x:Value) (h:vm[j]? =some x):(va++(vm++vd)).toArray[va.length+j]? =some x:=by
 have hj:j<vm.length:=(adW.1 h).1
 simp only [ar9]
 rw [ae5 (by omega),agj,aeU hj,h]
theorem Lw {T:TypeId} {cs:List SV} {vs:List Value} {off:Nat} (hc:CellsRel Im ι w cs vs):
  bi P Im ι w ((do let y ← part T vs.toArray off;pure (.value y):Sem Next).run P w) (iV P T cs off):=by
 unfold iV
 split
 ·rename_i a rs hsp
  obtain ⟨va,vd,rfl,hl,h1,h2⟩:=bT hsp hc
  refine jx (fun ht=> ?_) (fun ht=> ?_)
  ·split
   ·rename_i m ds hsm
    obtain ⟨vm,vz,rfl,hlm,h3,h4⟩:=bT hsm h2
    exact ⟨_,aJ (nW ht hl hlm),vm,rfl,h3⟩
   ·trivial
  ·split
   ·rename_i s rs'
    split
    ·rename_i ho
     obtain ⟨vx,vy,rfl,hl1,h3,h4⟩:=bm h2
     obtain ⟨x,rfl,hx⟩:=bD ho h3
     have:=Ms (va:=va) (vm:= [x]) (vd:=vy) 0 x rfl
     rw [ai8,hl] at this
     exact ⟨x,aJ (fJ ht this),hx⟩
    ·trivial
   ·trivial
 ·trivial
theorem ug {S:TypeId} {fs:Array Field} {f:Nat} {fd:Field} (hu:P.underlying S=some (.struct fs)) (hf:fs[f]? =some fd) (hs:P.cellsOf fd.type≠0) {a:Addr} :
  (Instr.fieldAt S (.pointer (some a)) f).run P w= .ok (.pointer (some (a.add fd.offset))) w:=by
 simp [Instr.fieldAt,run_underlying hu,hf,Instr.sureAddr,fieldPlace,cJ hs,hs]
theorem DP {S:TypeId} {x:SV} {f:Nat} {vx:Value} (hx:VRel Im ι w x vx):
  bi P Im ι w ((do let y ← Instr.fieldAt S vx f;pure (.value y):Sem Next).run P w) (um P S x f):=by
 unfold um
 split
 ·rename_i fs hu
  split
  ·rename_i fd hf
   split
   ·trivial
   ·rename_i hs
    split
    ·rename_i b c
     obtain ⟨r,h1,rfl⟩:=hx
     have:=ug (w:=w) (a:=⟨r,c,none⟩) hu hf hs
     rw [aS] at this
     exact ⟨_,aJ this,r,h1,rfl⟩
    ·rename_i e l i c
     obtain ⟨ad,xs,rfl,h1,h2,h3⟩:=hx
     split
     ·trivial
     ·rename_i he
      intro hi
      have:=ug (w:=w) (a:=ad.add (i*e.length+c)) hu hf hs
      rw [add_add _ _ _ (sO h2 h3 (by omega) (by omega)),ai6] at this
      exact ⟨_,aJ this,ad,xs,rfl,h1,h2,h3⟩
    ·rename_i b sz i c
     obtain ⟨r,n,cap,h1,h2,rfl⟩:=hx
     have:=ug (w:=w) (a:=⟨r,i*sz+c,none⟩) hu hf hs
     rw [aS,ai6] at this
     exact ⟨_,aJ this,r,n,cap,h1,h2,rfl⟩
    ·trivial
  ·trivial
 ·trivial
theorem L4 {S:TypeId} {x:SV} {f:Nat} {vx:Value} (hx:VRel Im ι w x vx):
  bi P Im ι w ((do let y ← Instr.field S vx f;pure (.value y):Sem Next).run P w) (Fv P S x f):=by
 unfold Fv
 split
 ·rename_i fs cs hu
  obtain ⟨vs,rfl,hc⟩:=hx
  split
  ·rename_i fd hf
   have:=Lw (P:=P) (T:=fd.type) (off:=fd.offset) hc
   simpa [Instr.field,run_underlying hu,hf,asAgg] using this
  ·trivial
 ·trivial
theorem ij {T E:TypeId} {len:Nat} (hu:P.underlying T=some (.array len E)) (hE:∃ i,P.info? E=some i) {cs:Array Value} {k:IntKind} {n:Int} (h:0≤n∧n<len):
  (Instr.index T (.agg cs) (.int k n)).run P w=(part E cs (n.toNat*P.cellsOf E)).run P w:=by
 obtain ⟨i,hi⟩:=hE
 simp [Instr.index,asIntOf,run_underlying hu,h.1,h.2,sizeOf,typeInfo,hi,Program.cellsOf]
theorem Mh {T:TypeId} {x ix:SV} {vx vi:Value} (hx:VRel Im ι w x vx) (hi:VRel Im ι w ix vi):
  bi P Im ι w ((do let y ← Instr.index T vx vi;pure (.value y):Sem Next).run P w) (Gt P T x ix):=by
 unfold Gt
 split
 ·rename_i k n
  cases hi
  split
  ·rename_i len E m k' l hu
   obtain ⟨vs,rfl,hc⟩:=hx
   obtain ⟨hlm,vz,rfl,hz⟩:=aD hc
   cases (show vz= [] from hz)
   refine jx (fun ht=> ?_) (fun ht=> ?_)
   ·intro hn
    obtain ⟨d,hd⟩:=ca ht
    have h1:=ij (w:=w) (k:=k) (cs:=(l.map (Value.int k')++ []).toArray) hu (cr hd) ⟨hn.1,hn.2.1⟩
    have hle:n.toNat*P.cellsOf E+P.cellsOf E≤m:=by have:=hn.2.2;rwa [adS,ajc] at this
    have hq:=go (l.map (Value.int k')) (n.toNat*P.cellsOf E) (P.cellsOf E) (by simp;omega)
    have h2:=nW (w:=w) (va:=(l.map (Value.int k')).take (n.toNat*P.cellsOf E)) (vm:=((l.map (Value.int k')).drop (n.toNat*P.cellsOf E)).take (P.cellsOf E)) (vd:=(l.map (Value.int k')).drop (n.toNat*P.cellsOf E+P.cellsOf E)) (off:=n.toNat*P.cellsOf E) ht (by simp;omega) (by simp;omega)
    rw [← hq] at h2
    simp only [aiz] at h1 ⊢
    refine ⟨_,aJ (h1.trans h2),_,rfl,?_⟩
    rw [← ar3,← ar2]
    exact fX (by simp;omega)
   ·intro hn
    obtain ⟨d,hd⟩:=ca ht
    have h1:=ij (w:=w) (k:=k) (cs:=(l.map (Value.int k')++ []).toArray) hu (cr hd) ⟨hn.1,hn.2.1⟩
    have h2:=fJ (w:=w) (cs:=(l.map (Value.int k')++ []).toArray) (off:=n.toNat*P.cellsOf E) (x:= .int k' (l.getD (n.toNat*P.cellsOf E) 0)) ht (by
     have:n.toNat*P.cellsOf E<l.length:=by omega
     simp [arY,cH this])
    exact ⟨_,aJ (h1.trans h2),rfl⟩
  ·rename_i len E m l hu
   obtain ⟨vs,rfl,hc⟩:=hx
   obtain ⟨hlm,vz,rfl,hz⟩:=dk hc
   cases (show vz= [] from hz)
   refine jx (fun ht=> ?_) (fun ht=> ?_)
   ·intro hn
    obtain ⟨d,hd⟩:=ca ht
    have h1:=ij (w:=w) (k:=k) (cs:=(l.map Value.bool++ []).toArray) hu (cr hd) ⟨hn.1,hn.2.1⟩
    have hle:n.toNat*P.cellsOf E+P.cellsOf E≤m:=by have:=hn.2.2;rwa [adS,ajc] at this
    have hq:=go (l.map Value.bool) (n.toNat*P.cellsOf E) (P.cellsOf E) (by simp;omega)
    have h2:=nW (w:=w) (va:=(l.map Value.bool).take (n.toNat*P.cellsOf E)) (vm:=((l.map Value.bool).drop (n.toNat*P.cellsOf E)).take (P.cellsOf E)) (vd:=(l.map Value.bool).drop (n.toNat*P.cellsOf E+P.cellsOf E)) (off:=n.toNat*P.cellsOf E) ht (by simp;omega) (by simp;omega)
    rw [← hq] at h2
    simp only [aiz] at h1 ⊢
    refine ⟨_,aJ (h1.trans h2),_,rfl,?_⟩
    rw [← ar3,← ar2]
    exact yb (by simp;omega)
   ·intro hn
    obtain ⟨d,hd⟩:=ca ht
    have h1:=ij (w:=w) (k:=k) (cs:=(l.map Value.bool++ []).toArray) hu (cr hd) ⟨hn.1,hn.2.1⟩
    have h2:=fJ (w:=w) (cs:=(l.map Value.bool++ []).toArray) (off:=n.toNat*P.cellsOf E) (x:= .bool (l.getD (n.toNat*P.cellsOf E) false)) ht (by
     have:n.toNat*P.cellsOf E<l.length:=by omega
     simp [arY,cH this])
    exact ⟨_,aJ (h1.trans h2),rfl⟩
  ·rename_i len E cs _ _ hu
   obtain ⟨vs,rfl,hc⟩:=hx
   split
   ·rename_i a r hsp
    obtain ⟨va,vr,rfl,hl,h3,h4⟩:=bT hsp hc
    refine jx (fun ht=> ?_) (fun ht=> ?_)
    ·obtain ⟨d,hd⟩:=ca ht
     split
     ·rename_i m d2 hsm
      obtain ⟨vm,vz,rfl,hlm,h5,h6⟩:=bT hsm h4
      intro hn
      have h1:=ij (w:=w) (k:=k) (cs:=(va++(vm++vz)).toArray) hu (cr hd) hn
      exact ⟨_,aJ (h1.trans (nW ht hl hlm)),vm,rfl,h5⟩
     ·trivial
    ·obtain ⟨d,hd⟩:=ca ht
     split
     ·rename_i s rs
      split
      ·rename_i ho
       intro hn
       obtain ⟨vx,vy,rfl,hl1,h5,h6⟩:=bm h4
       obtain ⟨x,rfl,hx⟩:=bD ho h5
       have h1:=ij (w:=w) (k:=k) (cs:=(va++([x] ++vy)).toArray) hu (cr hd) hn
       have h2:=Ms (va:=va) (vm:= [x]) (vd:=vy) 0 x rfl
       rw [ai8,hl] at h2
       exact ⟨x,aJ (h1.trans (fJ ht h2)),hx⟩
      ·trivial
     ·trivial
   ·trivial
  ·rename_i l hu
   obtain ⟨rfl,hl⟩:=hx
   intro hn
   have h0:n.toNat<l.length:=by omega
   refine ⟨.int .u8 ((l.getD n.toNat 0).toNat:Int),?_,rfl⟩
   have:(⟨l.toArray⟩:ByteArray)[n.toNat]? =some (l.getD n.toNat 0):=by
    rw [ByteArray.getElem?_lt' _ _ (by simpa [ByteArray.size] using h0)]
    congr 1
    show l.toArray[n.toNat] =_
    simp [arY,cH h0]
   simp [Instr.index,asIntOf,run_underlying hu,hn.1,this]
  ·trivial
 ·trivial
end
section
variable {P:Program} {Im:Nat→Prop} {ι:Nat→Option Value} {w:World}
def uS (o:Option Value) (d n:Int):Prop:=(o=none∧n=d)∨∃ k,o=some (.int k n)
def uL (Im:Nat→Prop) (ι:Nat→Option Value) (w:World):Option SV→Option Value→Prop
 | none,v=>v=none
 | some s,v=>∃ x,v=some x∧VRel Im ι w s x
theorem fI {o:Option SV} {v:Option Value} {d n:Int} (h:jY o d=some n) (hv:uL Im ι w o v):uS v d n:=by
 unfold jY at h
 split at h
 ·simp only [ada] at h
  exact .inl ⟨hv,h.symm⟩
 ·rename_i k m
  simp only [ada] at h
  obtain ⟨x,rfl,hx⟩:=hv
  cases hx
  exact .inr ⟨k,by rw [h]⟩
 ·cases h
theorem mo {isS:Bool} {len cap:Nat} {lo hi:Option Value} {a b:Int} (hlo:uS lo 0 a) (hhi:uS hi len b) (h0:0≤a) (hab:a≤b) (hb:b≤len) (hc:len≤cap):
  (Instr.sliceBounds isS len cap lo hi none).run P w= .ok (a.toNat,b.toNat,cap) w:=by
 have eb:(b.toNat:Int)=b:=asa (by omega)
 have hb':b≤cap:=by omega
 have hb0:0≤b:=by omega
 rcases hlo with ⟨rfl,rfl⟩ | ⟨kl,rfl⟩ <;>rcases hhi with ⟨rfl,rfl⟩ | ⟨kh,rfl⟩
 ·simp [Instr.sliceBounds]
 ·simp [Instr.sliceBounds,run_sliceBound,hb',hb0]
 ·simp [Instr.sliceBounds,run_sliceBound,h0,hab]
 ·simp [Instr.sliceBounds,run_sliceBound,h0,hab,hb',hb0,eb]
theorem Mk {isS:Bool} {len cap:Nat} {lo:Option Value} {k1 k2:IntKind} {a b m:Int} (hlo:uS lo 0 a) (h0:0≤a) (hab:a≤b) (hb:b≤m) (hm:m≤cap):
  (Instr.sliceBounds isS len cap lo (some (.int k1 b)) (some (.int k2 m))).run P w= .ok (a.toNat,b.toNat,m.toNat) w:=by
 have eb:(b.toNat:Int)=b:=asa (by omega)
 have em:(m.toNat:Int)=m:=asa (by omega)
 have hb0:0≤b:=by omega
 have hm0:0≤m:=by omega
 rcases hlo with ⟨rfl,rfl⟩ | ⟨kl,rfl⟩
 ·simp [Instr.sliceBounds,run_sliceBound,hb,em,hm,hb0,hm0]
 ·simp [Instr.sliceBounds,run_sliceBound,h0,hab,hb,eb,em,hm,hb0,hm0]
theorem CRel.sub {e:List CSh} {l:LD} {a:Option Addr} {len cap:Nat} (h:CRel Im w (.sl e) (.sl l) (.slice a len cap)) (he:0<e.length) {i j m:Nat} (hij:i≤j) (hj:j≤l.length) (hjm:j≤m) (hm:m≤cap):
  CRel Im w (.sl e) (.sl ((l.take j).drop i)) (.slice (if m=i then a else a.map (·.add (i*e.length))) (j-i) (m-i)):=by
 obtain ⟨a',cap',h1,h2,h3,h4⟩:=h.slice
 injection h1 with e1 e2 e3
 subst e1 e2 e3
 by_cases hz:j-i=0
 ·have:(l.take j).drop i= [] :=by apply ahv;simp;omega
  rw [this,hz]
  exact .sl0 e _ _ (by omega)
 ·obtain ⟨ad,xs,rfl,h5,h6,h7⟩:=h4 (by omega)
  have hmi:¬ m=i:=by omega
  rw [if_neg hmi]
  have hlen:((l.take j).drop i).length=j-i:=by simp;omega
  have hs:=(((h6.split j hj).1).split i (by simp;omega)).2
  have h0:=sO h6 h7 (by omega) he
  have hbl:(ad.add (i*e.length)).block=ad.block:=by unfold Addr.add;split <;>rfl
  have:=CRel.sl (Im:=Im) (w:=w) e ((l.take j).drop i) (ad.add (i*e.length)) (m-i) _ (by omega) (by omega) (by rw [hbl];exact h5) hs (fun y x hx=>by
   rw [akB,aky] at hx
   split at hx
   ·rw [add_add _ _ _ h0]
    exact h7 _ _ hx
   ·cases hx)
  rw [hlen] at this
  exact this
theorem Ey {T E:TypeId} {n:Nat} (hu:P.underlying T=some (.array n E)) (hE:P.cellsOf E=1) {a:Addr} {lo hi:Option Value} {i j:Int} (hlo:uS lo 0 i) (hhi:uS hi n j) (h0:0≤i) (hij:i≤j) (hj:j≤n) (hin:i<n):
  (Instr.sliceAt T (.pointer (some a)) lo hi none).run P w= .ok (.slice (some (a.add i.toNat)) (j.toNat-i.toNat) (n-i.toNat)) w:=by
 have h1:=mo (P:=P) (w:=w) (isS:=false) hlo hhi h0 hij hj (ar5 n)
 have hni:¬ n=i.toNat:=by omega
 simp only [Instr.sliceAt,Sem.run_bind,run_underlying hu,Result.andThen_ok,Instr.sureAddr,Sem.run_pure,h1,cJ (show P.cellsOf E≠0 by omega),hE,anR,if_neg hni]
theorem EL {T E:TypeId} {n:Nat} (hu:P.underlying T=some (.array n E)) (hE:P.cellsOf E≠0) (hn:0<n) {a:Addr} :
  (Instr.sliceAt T (.pointer (some a)) none none none).run P w= .ok (.slice (some (a.add 0)) n n) w:=by
 have h1:=mo (P:=P) (w:=w) (isS:=false) (lo:=none) (hi:=none) (a:=0) (b:=n) (cap:=n) (len:=n) (.inl ⟨rfl,rfl⟩) (.inl ⟨rfl,rfl⟩) (by omega) (by omega) (by omega) (ar5 n)
 have hni:¬ n=0:=by omega
 simp only [Instr.sliceAt,Sem.run_bind,run_underlying hu,Result.andThen_ok,Instr.sureAddr,Sem.run_pure,h1,cJ hE,Int.toNat_zero,aA,aen,Nat.sub_zero,if_neg hni]
theorem nQ {T E:TypeId} (hu:P.underlying T=some (.slice E)) (hE:P.cellsOf E≠0) {a:Option Addr} {len cap:Nat} {lo hi mx:Option Value} {i j m:Nat}
  (h:(Instr.sliceBounds true len cap lo hi mx).run P w= .ok (i,j,m) w):
  (Instr.sliceAt T (.slice a len cap) lo hi mx).run P w= .ok (.slice (if m=i then a else a.map (·.add (i*P.cellsOf E))) (j-i) (m-i)) w:=by
 simp only [Instr.sliceAt,Instr.slice,Sem.run_bind,run_underlying hu,Result.andThen_ok,h,cJ hE,Sem.run_pure]
theorem Ch {T:TypeId} (hu:P.underlying T=some .string) {s:ByteArray} {lo hi:Option Value} {i j:Nat}
  (h:(Instr.sliceBounds false s.size s.size lo hi none).run P w= .ok (i,j,s.size) w):
  (Instr.sliceAt T (.string s) lo hi none).run P w= .ok (.string (s.extract i j)) w:=by
 simp [Instr.sliceAt,Instr.slice,run_underlying hu,h]
theorem x8 (l:List UInt8) (i j:Nat) (h:j≤l.length):(⟨l.toArray⟩:ByteArray).extract i j=⟨((l.take j).drop i).toArray⟩:=by
 have hd:((⟨l.toArray⟩:ByteArray).extract i j).data=(⟨((l.take j).drop i).toArray⟩:ByteArray).data:=by
  rw [ByteArray.data_extract]
  apply ar6
  simp [ar8,ar4]
 cases h1:(⟨l.toArray⟩:ByteArray).extract i j
 rw [h1] at hd
 exact congrArg ByteArray.mk hd
theorem il (l:List UInt8):(⟨l.toArray⟩:ByteArray).size=l.length:=by simp [ByteArray.size]
theorem Mi {hp:List Blk} {T:TypeId} {x:SV} {lo hi mx:Option SV} {vx:Value} {vlo vhi vmx:Option Value} (hh:HV Im ι w hp) (hx:VRel Im ι w x vx)
  (hlo:uL Im ι w lo vlo) (hhi:uL Im ι w hi vhi) (hmx:uL Im ι w mx vmx):
  bi P Im ι w ((do let y ← Instr.sliceAt T vx vlo vhi vmx;pure (.value y):Sem Next).run P w) (GA P hp T x lo hi mx):=by
 unfold GA
 split
 ·rename_i l hu
  obtain ⟨rfl,hl⟩:=hx
  split
  ·rename_i a b h1 h2
   cases (show vmx=none from hmx)
   intro hn
   have h3:=mo (P:=P) (w:=w) (isS:=false) (cap:=l.length) (fI h1 hlo) (fI h2 hhi) hn.1 hn.2.1 hn.2.2 (ar5 _)
   rw [← il l] at h3
   have h4:=Ch (s:=⟨l.toArray⟩) hu (by rw [il] at h3 ⊢;exact h3)
   rw [x8 _ _ _ (by omega)] at h4
   exact ⟨_,aJ h4,rfl,by simp;omega⟩
  ·trivial
 ·rename_i E e l hu
  split
  ·rename_i hE
   split
   ·trivial
   ·rename_i he
    obtain ⟨a,cap,rfl,hlc,hcm,_⟩:=CRel.slice hx
    split
    ·rename_i i hi' h1
     cases (show vmx=none from hmx)
     split
     ·rename_i j h2
      intro hn
      have h3:=mo (P:=P) (w:=w) (isS:=true) (cap:=cap) (fI h1 hlo) (fI h2 hhi) hn.1 hn.2.1 hn.2.2 hlc
      have h4:=nQ (a:=a) hu (by omega) h3
      refine ⟨_,aJ h4,?_⟩
      rw [hE]
      exact CRel.sub hx (by omega) (by omega) (by omega) (by omega) (ar5 _)
     ·trivial
    ·rename_i i k1 b k2 m h1
     obtain ⟨_,rfl,hb⟩:=hhi
     obtain ⟨_,rfl,hm⟩:=hmx
     cases hb
     cases hm
     intro hn
     have h3:=Mk (P:=P) (w:=w) (isS:=true) (len:=l.length) (cap:=cap) (k1:=k1) (k2:=k2) (fI h1 hlo) hn.1 hn.2.1 hn.2.2.1 (by omega)
     have h4:=nQ (a:=a) hu (by omega) h3
     refine ⟨_,aJ h4,?_⟩
     rw [hE]
     exact CRel.sub hx (by omega) (by omega) (by omega) (by omega) (by omega)
    ·trivial
  ·trivial
 ·rename_i E b hu
  obtain ⟨h1,_⟩:=hx
  split
  ·rename_i T' e l hb
   obtain ⟨xs,h2,h3⟩:=hh.own hb h1
   split
   ·rename_i hE
    split
    ·trivial
    ·rename_i he
     split
     ·rename_i i j k1 k2
      cases (show vmx=none from hmx)
      intro hn
      rcases h2.2 with ⟨a,rfl,h0⟩ | ⟨g,cap,cur,rfl,hg,hc,h0,hm,hs,ht⟩
      ·have:=hn.2.2.2
       have:=hn.1
       omega
      ·have h3:=mo (P:=P) (w:=w) (isS:=true) (cap:=cap) (fI k1 hlo) (fI k2 hhi) hn.1 hn.2.1 hn.2.2.1 hc
       have h4:=nQ (a:=some ⟨g,0,none⟩) hu (by omega) h3
       have hi0:=hn.1
       have hi1:=hn.2.1
       have hi2:=hn.2.2.1
       have hi3:=hn.2.2.2
       rw [if_neg (by omega)] at h4
       refine ⟨_,aJ h4,g,l.length,cap,cap-i.toNat,h1,h0,?_,by omega,by omega⟩
       rw [hE,Option.map_some,aS,aeE]
     ·trivial
   ·trivial
  ·trivial
 ·rename_i len E b c hu
  obtain ⟨r,h1,rfl⟩:=hx
  split
  ·rename_i T' cs hb
   split
   ·rename_i hE
    split
    ·rename_i ha
     split
     ·rename_i hlen
      split
      ·rename_i i j h2 h3
       cases (show vmx=none from hmx)
       intro hn
       have h4:=Ey (w:=w) (a:=⟨r,c,none⟩) hu hE (fI h2 hlo) (fI h3 hhi) hn.1 hn.2.1 hn.2.2.1 hn.2.2.2
       rw [aS] at h4
       exact ⟨_,aJ h4,r,_,h1,rfl,by omega,by simp [maxLen];omega,by omega⟩
      ·trivial
     ·trivial
    ·trivial
   ·split
    ·rename_i N k l
     split
     ·trivial
     ·rename_i hE0
      split
      ·rename_i hc0
       subst hc0
       split
       ·rename_i hN
        split
        ·rename_i hl0
         split
         ·rename_i hlen
          cases (show vmx=none from hmx)
          cases (show vlo=none from hlo)
          cases (show vhi=none from hhi)
          obtain ⟨r',vs,e1,h2,h3⟩:=hh.cells hb h1
          cases e1
          obtain ⟨hln,vs',rfl,h4⟩:=aD h3
          cases (show vs'= [] from h4)
          have h5:=EL (w:=w) (a:=⟨r,0,none⟩) hu hE0 hl0
          refine ⟨_,_,w,h1,aJ h5,⟨rfl,rfl,rfl,ar5 _,fun _ _ _=>rfl⟩,?_⟩
          have hrl:=tZ (P.cellsOf E) len l
          have hfl:=DN (Im:=fun i=>Im i∨aB (.pointer (some ⟨r,0,none⟩))=some i) (w:=w) (k:=k) (sz:=P.cellsOf E) (m:=len) (l:=l) (by rw [hln,hN])
          have:=CRel.sl (Im:=fun i=>Im i∨aB (.pointer (some ⟨r,0,none⟩))=some i) (w:=w) (ab0 (P.cellsOf E) (.int k)) (rf (P.cellsOf E) len l) ⟨r,0,none⟩ len (l.map (Value.int k)) (by omega) (by simp [maxLen];omega) (.inr rfl) hfl (fun j x hx=>by
           rw [aiz] at h2
           rw [aS,aeE]
           simp only [World.cell?,h2]
           simpa using hx)
          rw [hrl] at this
          rw [aS]
          exact this
         ·trivial
        ·trivial
       ·trivial
      ·trivial
    ·trivial
  ·trivial
 ·trivial
theorem tw {k:IntKind} :∀ (l:List Int),FlatRel Im w [.int k] (l.map fun x=> [CD.int x]) (l.map (Value.int k))
 | [] => .nil _
 | x::l=> .cons _ _ [.int k x] _ _ (.cons _ _ _ _ _ _ (.int k x) .nil) (tw l)
theorem sW {hp:List Blk} {x:SV} {vx:Value} {e:List CSh} {l:LD} (hh:HV Im ι w hp) (h:Ck hp x=some (e,l)) (hx:VRel Im ι w x vx):
  ∃ a cap,vx= .slice a l.length cap∧l.length≤cap∧cap≤maxLen∧(0<l.length→∃ ad xs,a=some ad∧FlatRel Im w e l xs∧∀ j x,xs[j]? =some x→w.cell? (ad.add j)=some x):=by
 unfold Ck at h
 split at h
 ·rename_i e' l'
  simp only [ada,Prod.mk.injEq] at h
  obtain ⟨rfl,rfl⟩:=h
  obtain ⟨a,cap,h1,h2,h3,h4⟩:=CRel.slice hx
  exact ⟨a,cap,h1,h2,h3,fun hl=>by obtain ⟨ad,xs,k1,_,k2,k3⟩:=h4 hl;exact ⟨ad,xs,k1,k2,k3⟩⟩
 ·rename_i e' l'
  simp only [ada,Prod.mk.injEq] at h
  obtain ⟨rfl,rfl⟩:=h
  obtain ⟨a,cap,h1,h2,h3,h4⟩:=CRel.slice hx.1
  exact ⟨a,cap,h1,h2,h3,fun hl=>by obtain ⟨ad,xs,k1,_,k2,k3⟩:=h4 hl;exact ⟨ad,xs,k1,k2,k3⟩⟩
 ·rename_i b
  obtain ⟨h1,a',n',c',rfl⟩:=hx
  split at h
  ·rename_i T' e' l' hb
   simp only [ada,Prod.mk.injEq] at h
   obtain ⟨rfl,rfl⟩:=h
   obtain ⟨xs,h2,h3⟩:=hh.own hb h1
   obtain ⟨a,cap,h4,h5,h6,h7⟩:=h2.slice
   refine ⟨a,cap,h4,h5,h6,fun hl=> ?_⟩
   obtain ⟨g,cur,rfl,h8,h9,h10⟩:=h7 (by omega)
   injection h4 with e1 e2 e3
   subst e1 e2 e3
   exact ⟨_,xs,rfl,h3,qE h2 (by omega)⟩
  ·rename_i e' l' hb
   simp only [ada,Prod.mk.injEq] at h
   obtain ⟨rfl,rfl⟩:=h
   obtain ⟨a,cap,h1,h2,h3,h4⟩:=CRel.slice (hh.ro hb h1)
   exact ⟨a,cap,h1,h2,h3,fun hl=>by obtain ⟨ad,xs,k1,_,k2,k3⟩:=h4 hl;exact ⟨ad,xs,k1,k2,k3⟩⟩
  ·cases h
 ·rename_i b c N lo n
  obtain ⟨r,cap,h1,rfl,h2,h3,h4⟩:=hx
  split at h
  ·rename_i T' cs hb
   split at h
   ·rename_i a N' k L d hsp
    split at h
    ·rename_i hN
     subst hN
     simp only [ada,Prod.mk.injEq] at h
     obtain ⟨rfl,rfl⟩:=h
     obtain ⟨r',vs,h5,h6,h7⟩:=hh.cells hb h1
     cases h5
     obtain ⟨va,vd,rfl,hl,h8,h9⟩:=bT hsp h7
     obtain ⟨hLn,vz,rfl,h10⟩:=aD h9
     have hlen:(((L.drop lo).take n).map fun x=> [CD.int x]).length=n:=by simp;omega
     rw [hlen]
     refine ⟨_,cap,rfl,h2,h3,fun _=>⟨_,_,rfl,tw _,fun j x hx=> ?_⟩⟩
     rw [eW,aky] at hx
     split at hx
     ·rw [akB] at hx
      have:=mH (vm:=L.map (Value.int k)) h6 (lo+j) x (by rw [eW];exact hx)
      rw [aS,hl,← ai6,← aS] at this
      exact this
     ·simp at hx
    ·cases h
   ·cases h
  ·cases h
 ·cases h
theorem Pp {l:LD} {xs:List Value} (h:FlatRel Im w [.int .u8] l xs):xs=((l.map fun r=>(r.getD 0 .d0).toInt)).map (Value.int .u8):=Cm h
theorem yc {Im Im':Nat→Prop} {w w':World} {k:IntKind} :∀ {l:LD} {xs:List Value},FlatRel Im w [.int k] l xs→FlatRel Im' w' [.int k] l xs
 | _,_,.nil _=> .nil _
 | _,_,.cons _ row vs l xs h1 h2=> .cons _ _ _ _ _ (by
  cases h1 with
  | cons sh cd v e row vs ha hb=>
   cases ha
   cases hb
   exact .cons _ _ _ _ _ _ (.int _ _) .nil) (yc h2)
theorem HK {hp:List Blk} {src dst:TypeId} {x:SV} {vx:Value} (hh:HV Im ι w hp) (hx:VRel Im ι w x vx):
  bi P Im ι w ((do let y ← convert src dst vx;pure (.value y):Sem Next).run P w) (zR P hp src dst x):=by
 unfold zR
 split
 ·rename_i k1 k k2 n h1 h2
  cases hx
  exact ⟨.int k (k.wrap n),by simp [convert,run_underlying h1,run_underlying h2,Conv.intToInt],rfl⟩
 ·rename_i l h1 h2
  obtain ⟨rfl,hl⟩:=hx
  exact ⟨.string ⟨l.toArray⟩,by simp [convert,run_underlying h1,run_underlying h2],rfl,hl⟩
 ·rename_i E l h1 h2
  obtain ⟨rfl,hl⟩:=hx
  split
  ·rename_i h3
   have h4:=run_bytes_of_string (P:=P) w src dst E ⟨l.toArray⟩ h1 h2 h3
   refine ⟨_,_,aJ h4,⟨rfl,rfl,rfl,by simp,fun k hk _=>(heap_alloc_old w.drew _ k hk:_)⟩,?_⟩
   have hcap:=grownCap_ge w (ByteArray.mk l.toArray).size 0 E
   have hcm:=grownCap_le_maxLen w (ByteArray.mk l.toArray).size 0 E (by rw [il];exact hl)
   have hlen:(aj l).length=(ByteArray.mk l.toArray).size:=by simp [aj,il]
   have hf:FlatRel (fun i=>Im i∨(w.heap.size≤i∧i<w.heap.size+1)) (w.drew.alloc (.cells (bytesRow ⟨l.toArray⟩ (grownCap w (ByteArray.mk l.toArray).size 0 E)) E ((bytesRow ⟨l.toArray⟩ (grownCap w (ByteArray.mk l.toArray).size 0 E)).size,(bytesRow ⟨l.toArray⟩ (grownCap w (ByteArray.mk l.toArray).size 0 E)).size+1))) [.int .u8] (aj l) ((l.map fun b=>(b.toNat:Int)).map (Value.int .u8)):=by
    have e1:aj l=(l.map fun b=>(b.toNat:Int)).map fun x=> [CD.int x] :=by simp [aj,Function.comp_def]
    rw [e1]
    exact tw _
   have:=CRel.sl _ _ ⟨w.heap.size,0,none⟩ (grownCap w (ByteArray.mk l.toArray).size 0 E) _ (by rw [hlen];exact hcap) hcm (.inr ⟨ar5 _,by simp⟩) hf (fun j x hx=>by
    rw [aS,aeE]
    have hnew:=heap_alloc_new w.drew (.cells (bytesRow ⟨l.toArray⟩ (grownCap w (ByteArray.mk l.toArray).size 0 E)) E ((bytesRow ⟨l.toArray⟩ (grownCap w (ByteArray.mk l.toArray).size 0 E)).size,(bytesRow ⟨l.toArray⟩ (grownCap w (ByteArray.mk l.toArray).size 0 E)).size+1))
    rw [show w.drew.heap.size=w.heap.size from rfl] at hnew
    rw [cell_of_row _ _ j _ E _ hnew]
    have hj:j<l.length:=by
     have:=(adW.1 hx).1
     simpa using this
    simp only [bytesRow]
    rw [Array.getElem?_append_left (by simpa using hj)]
    simp only [List.map_toArray,ar9]
    rw [← hx]
    simp [Function.comp_def])
   rw [hlen] at this
   simpa [VRel] using this
  ·trivial
 ·rename_i E h1 h2
  cases hx
  split
  ·rename_i h3
   refine ⟨.string ⟨#[]⟩,?_,rfl,by simp⟩
   exact aJ (run_convert_bytes_nil w src E h1 h3 0 0 dst h2)
  ·trivial
 ·rename_i x' E h1 h2 hnil
  split
  ·rename_i h3
   split
   ·rename_i l hv
    obtain ⟨a,cap,rfl,hlc,hcm,h4⟩:=sW hh hv hx
    refine ⟨.string ⟨(ah l).toArray⟩,?_,rfl,by simp [ah];omega⟩
    have hconv:=run_convert_bytes_string w src dst E a l.length cap h1 h3 h2
    by_cases hz:l= []
    ·subst hz
     cases a with
     | none=>exact aJ (run_convert_bytes_nil w src E h1 h3 _ _ dst h2)
     | some ad=>
      have h5:=run_loadCells_list (P:=P) w ad [] (by simp)
      have h6:=run_bytesToString w ad 0 cap [] (by simpa using h5)
      exact aJ (hconv.trans h6)
    ·obtain ⟨ad,xs,rfl,h5,h6⟩:=h4 (List.length_pos_iff.2 hz)
     have h7:=run_loadCells_list (P:=P) w ad xs h6
     have hxl:xs.length=l.length:=by simpa using h5.length
     rw [hxl,Pp h5] at h7
     have h8:=run_bytesToString w ad l.length cap _ h7
     rw [foldl_push_bytes] at h8
     refine aJ (hconv.trans (h8.trans ?_))
     congr 3
     simp [ah]
   ·trivial
  ·trivial
 ·rename_i E0 E b h1 h2
  split
  ·rename_i he
   subst he
   cases h1.symm.trans h2
   split
   ·rename_i h3
    split
    ·rename_i T' row l hb
     obtain ⟨hι,a',c',rfl⟩:=hx
     obtain ⟨xs,h4,h5⟩:=hh.own hb hι
     rcases h4.2 with ⟨a,e1,e2⟩ | ⟨g,cap,cur,e1,hg,hnc,h0,hm,hs,ht⟩
     ·simp at e2
     ·cases e1
      refine ⟨_,.slice (some ⟨g,0,none⟩) (row::l).length (row::l).length,w.freeze ⟨g,cur.size,none⟩ 1,hι,?_,⟨rfl,rfl,rfl,?_,fun k hk hk'=> ?_⟩,?_⟩
      ·have hsh:w.shape? g=some (T',cur.size):=by unfold World.shape?;rw [hg]
       simp [convert,run_underlying h1,run_underlying h3,markStringish,hsh]
      ·simp [World.freeze]
      ·have hne:g≠k:=fun e=>hk' (by simp [aB];exact e.symm)
       simp [World.freeze,asb,hne]
      ·have hlt:=(Array.getElem?_eq_some_iff.1 hg).1
       have hold:=qE h4 h0
       have hcell:∀ a:Addr,(w.freeze ⟨g,cur.size,none⟩ 1).cell? a=w.cell? a:=fun a=>by
        unfold World.cell? World.freeze
        rw [if_neg (by decide)]
        simp only [asb]
        by_cases hga:g=a.block
        ·subst hga
         simp [hg]
        ·simp [hga]
       exact ⟨CRel.sl _ _ _ _ xs hnc hm (.inr (by simp [aB])) (yc h5) (fun j x hx=>(hcell _).trans (hold j x hx)),_,rfl⟩
    ·trivial
   ·trivial
  ·trivial
 ·trivial
theorem HP {hp:List Blk} {A:TypeId} {x:SV} {vx:Value} (hh:HV Im ι w hp) (hx:VRel Im ι w x vx):
  bi P Im ι w ((do let y ← Instr.arrayAt A vx;pure (.value y):Sem Next).run P w) (zb P hp A x):=by
 unfold zb
 split
 ·rename_i n E e l hu
  split
  ·trivial
  ·rename_i hn0
   intro hn
   obtain ⟨a,cap,rfl,hlc,hcm,h4⟩:=CRel.slice hx
   obtain ⟨ad,xs,rfl,h5,h6,h7⟩:=h4 (by omega)
   refine ⟨.pointer (some ad),?_,ad,xs,by simp [Addr.add],h5,h6,h7⟩
   simp [Instr.arrayAt,run_underlying hu,show ¬ l.length<n by omega]
 ·rename_i n E b hu
  split
  ·trivial
  ·rename_i hn0
   obtain ⟨h1,a',n',c',rfl⟩:=hx
   split
   ·rename_i T' e l hb
    intro hn
    obtain ⟨xs,h2,h3⟩:=hh.own hb h1
    obtain ⟨a,cap,h4,h5,h6,h7⟩:=h2.slice
    injection h4 with e1 e2 e3
    subst e1 e2 e3
    obtain ⟨g,cur,rfl,h8,h9,h10⟩:=h7 (by omega)
    refine ⟨.pointer (some ⟨g,0,none⟩),?_,g,_,_,h1,by omega,by simp⟩
    simp [Instr.arrayAt,run_underlying hu,show ¬ l.length<n by omega]
   ·rename_i e l hb
    intro hn
    obtain ⟨a,cap,h4,hlc,hcm,h7⟩:=CRel.slice (hh.ro hb h1)
    injection h4 with e1 e2 e3
    subst e1 e2 e3
    obtain ⟨ad,xs,rfl,h5,h6,h8⟩:=h7 (by omega)
    refine ⟨.pointer (some ad),?_,ad,xs,by simp [Addr.add],h5,h6,h8⟩
    simp [Instr.arrayAt,run_underlying hu,show ¬ l.length<n by omega]
   ·trivial
 ·rename_i n E b c N lo m hu
  obtain ⟨r,cap,h1,rfl,h2,h3,h4⟩:=hx
  intro hn
  refine ⟨_,?_,r,h1,rfl⟩
  simp [Instr.arrayAt,run_underlying hu,show ¬ m<n by omega]
 ·trivial
end
section
variable {P:Program} {Im:Nat→Prop} {ι:Nat→Option Value} {w:World}
def mn (P:Program) (zero:TypeId→Option (List SV)):Prop:=
 ∀ T cs,zero T=some cs→∃ i z,P.info? T=some i∧i.zero=some z∧z.cells.size=i.size∧∀ Im ι w,CellsRel Im ι w cs z.cells.toList
theorem Mo:∀ (xs:List Value) (off k:Nat) (cur:Array Value),off+k+xs.length≤cur.size→
  ((xs.zipIdx k).foldl (fun cs (x:Value×Nat)=>cs.setIfInBounds (off+x.2) x.1) cur).toList=cur.toList.take (off+k)++xs++cur.toList.drop (off+k+xs.length)
 | [],off,k,cur,h=>by simp
 | x::xs,off,k,cur,h=>by
  rw [List.zipIdx_cons,List.foldl_cons]
  have ih:=Mo xs off (k+1) (cur.setIfInBounds (off+k) x) (by simp at h ⊢;omega)
  rw [ih,Array.toList_setIfInBounds]
  have:=list_seg_step cur.toList (off+k) x xs (by simp at h ⊢;omega)
  rw [show off+(k+1)=off+k+1 by omega]
  rw [this]
  simp
theorem mP {place:Nat→Option (Nat×Nat)} {cur:Array Value} {i off size:Nat} {v:Value} {rest:List (Nat×Value)} {va vm vd:List Value} (hp:place i=some (off,size)) (hcur:cur.toList=va++(vm++vd)) (hl:va.length=off) (hm:vm.length=size) (hv:v.cells.toList.length=size):
  Instr.fill place cur ((i,v)::rest)=Instr.fill place (va++(v.cells.toList++vd)).toArray rest:=by
 have hsz:¬ ((v.cells.size≠size||off+v.cells.size > cur.size)=true):=by
  have h1:cur.size=va.length+(vm.length+vd.length):=by rw [← asc,hcur];simp
  simp at hv ⊢
  omega
 have e:v.cells.zipIdx.foldl (fun (cs:Array Value) (x:Value×Nat)=>cs.setIfInBounds (off+x.2) x.1) cur=(va++(v.cells.toList++vd)).toArray:=by
  apply ar6
  rw [← Array.foldl_toList,Array.toList_zipIdx]
  have h1:cur.size=va.length+(vm.length+vd.length):=by rw [← asc,hcur];simp
  have hv2:v.cells.size=size:=by simpa using hv
  have:=Mo v.cells.toList off 0 cur (by rw [asc];omega)
  simp only [ai8] at this
  rw [ar7]
  refine this.trans ?_
  rw [hcur]
  have e1:(va++(vm++vd)).take off=va:=by rw [← hl];simp
  have e2:(va++(vm++vd)).drop (off+v.cells.toList.length)=vd:=by
   rw [← fE]
   exact arZ (by rw [ce,hl,hm,hv])
  rw [e1,e2,fE]
 conv=>lhs;unfold Instr.fill
 simp only [hp]
 rw [if_neg hsz]
 exact congrArg (fun x=>Instr.fill place x rest) e
def jH (Im:Nat→Prop) (ι:Nat→Option Value) (w:World):List (Nat×SV)→List (Nat×Value)→Prop
 | [],vs=>vs= []
 | (i,s)::ps,vs=>∃ v vs',vs=(i,v)::vs'∧VRel Im ι w s v∧jH Im ι w ps vs'
theorem kO {place:Nat→Option (Nat×Nat)} :∀ {parts:List (Nat×SV)} {vparts:List (Nat×Value)} {z cs:List SV} {zc:Array Value},jH Im ι w parts vparts→CellsRel Im ι w z zc.toList→kx place z parts=some cs→
  ∃ r:Array Value,Instr.fill place zc vparts=some r∧CellsRel Im ι w cs r.toList
 | [],vparts,z,cs,zc,hp,hz,h=>by
  cases (show vparts= [] from hp)
  simp only [kx,ada] at h
  subst h
  exact ⟨zc,rfl,hz⟩
 | (i,s)::rest,vparts,z,cs,zc,hp,hz,h=>by
  obtain ⟨v,vs',rfl,hv,hr⟩:=hp
  unfold kx at h
  split at h
  ·rename_i off size xs hpl hxs
   split at h
   ·rename_i hsz
    have hvc:=tY hxs hv
    have hvl:v.cells.toList.length=size:=(nD hvc).trans hsz
    split at h
    ·rename_i a n k l d hsp
     obtain ⟨va,vr,hzc,hl,h5,h6⟩:=bT hsp hz
     obtain ⟨hln,vd,rfl,h7⟩:=aD h6
     split at h
     ·rename_i k' x
      split at h
      ·rename_i hk
       subst hk
       split at h
       ·rename_i hn
        obtain ⟨u,hu,hx⟩:=bD (s:= .int k x) rfl hvc
        have hux:u= .int k x:=hx
        subst hux
        obtain ⟨y,ys,rfl⟩:=anH (show l≠ [] by intro e;subst e;simp at hln;omega)
        have hs1:size=1:=by rw [← hvl,hu];rfl
        have hf:=mP (place:=place) (cur:=zc) (v:=v) (rest:=vs') (vm:= [.int k y]) (vd:=ys.map (Value.int k)++vd) hpl (by rw [hzc];simp) hl (by simp [hs1]) hvl
        rw [hf]
        refine kO hr ?_ h
        rw [hu]
        have:=bA h5 (dU (n:=n) (k:=k) (l:=(y::ys).set 0 x) (by simpa using hln) h7)
        simpa using this
       ·cases h
      ·cases h
     ·rename_i m k' l'
      split at h
      ·rename_i hk
       subst hk
       split at h
       ·rename_i hmn
        subst hmn
        obtain ⟨hlm,vz,hvc',hz'⟩:=aD hvc
        cases (show vz= [] from hz')
        simp only [aiz] at hvc'
        have hf:=mP (place:=place) (cur:=zc) (v:=v) (rest:=vs') (vm:=l.map (Value.int k)) (vd:=vd) hpl hzc hl (by rw [← hvl,hvc'];simp;omega) hvl
        rw [hf]
        refine kO hr ?_ h
        rw [hvc']
        exact bA h5 (dU hlm h7)
       ·cases h
      ·cases h
     ·cases h
    ·rename_i a r _ hsp
     obtain ⟨va,vr,hzc,hl,h5,h6⟩:=bT hsp hz
     split at h
     ·rename_i m d hsm
      obtain ⟨vm,vd,rfl,hlm,h7,h8⟩:=bT hsm h6
      have hf:=mP (place:=place) (cur:=zc) (v:=v) (rest:=vs') hpl hzc hl hlm hvl
      rw [hf]
      refine kO hr ?_ h
      rw [fE]
      exact bA h5 (bA hvc h8)
     ·cases h
    ·cases h
   ·cases h
  ·cases h
theorem jN {zero:TypeId→Option (List SV)} (hz:mn P zero) {T:TypeId} {cs:List SV} (h:zero T=some cs):∃ z,(zeroValue T).run P w= .ok z w∧z.cells.size=P.cellsOf T∧∀ Im ι w,CellsRel Im ι w cs z.cells.toList:=by
 obtain ⟨i,z,h1,h2,h3,h4⟩:=hz T cs h
 exact ⟨z,by simp [zeroValue,typeInfo,h1,h2],by simp [Program.cellsOf,h1,h3],h4⟩
theorem BO {P:Program} {w:World} :∀ (fs:List Field),(∀ f∈fs,P.cellsOf f.type≠0)→(fs.mapM fun f=>(do pure (f.offset,← sizeOf f.type):Sem (Nat×Nat))).run P w= .ok (fs.map fun f=>(f.offset,P.cellsOf f.type)) w
 | [],_=>by simp
 | f::fs,h=>by
  have h1:=cJ (P:=P) (w:=w) (h f (by simp))
  have h2:=BO (w:=w) fs (fun g hg=>h g (by simp [hg]))
  simp [List.mapM_cons,h1] at h2 ⊢
  simp [h2]
theorem zY {n:Nat} {k:IntKind} :∀ {parts:List (Nat×SV)} {vparts:List (Nat×Value)} {l l':List Int} {zc:Array Value},jH Im ι w parts vparts→l.length=n→zc.toList=l.map (Value.int k)→sK n k l parts=some l'→
  ∃ r:Array Value,Instr.fill (fun i=>some (i*1,1)) zc vparts=some r∧r.toList=l'.map (Value.int k)∧l'.length=n
 | [],vparts,l,l',zc,hp,hl,hz,h=>by
  cases (show vparts= [] from hp)
  simp only [sK,ada] at h
  subst h
  exact ⟨zc,rfl,hz,hl⟩
 | (i,x)::rest,vparts,l,l',zc,hp,hl,hz,h=>by
  obtain ⟨v,vs',rfl,hv,hr⟩:=hp
  unfold sK at h
  split at h
  ·rename_i k' v0
   cases hv
   split at h
   ·rename_i hk
    subst hk
    split at h
    ·rename_i hi
     have hq:=go (l.map (Value.int k')) i 1 (by simp;omega)
     have hf:=mP (place:=fun i=>some (i*1,1)) (cur:=zc) (v:= .int k' v0) (rest:=vs') (i:=i) (off:=i*1) (size:=1) (va:=(l.map (Value.int k')).take i) (vm:=((l.map (Value.int k')).drop i).take 1) (vd:=(l.map (Value.int k')).drop (i+1)) rfl (hz.trans hq) (by simp;omega) (by simp;omega) rfl
     rw [hf]
     refine zY hr (by simpa using hl) ?_ h
     rw [ib l i v0 (by omega)]
     simp [Value.cells,ar2,ar3]
    ·cases h
   ·cases h
  ·cases h
theorem BE {n m:Nat} {k:IntKind} :∀ {parts:List (Nat×SV)} {vparts:List (Nat×Value)} {l l':List Int} {zc:Array Value},jH Im ι w parts vparts→l.length=n→zc.toList=l.map (Value.int k)→uU n m k l parts=some l'→
  ∃ r:Array Value,Instr.fill (fun i=>some (i*m,m)) zc vparts=some r∧r.toList=l'.map (Value.int k)∧l'.length=n
 | [],vparts,l,l',zc,hp,hl,hz,h=>by
  cases (show vparts= [] from hp)
  simp only [uU,ada] at h
  subst h
  exact ⟨zc,rfl,hz,hl⟩
 | (i,x)::rest,vparts,l,l',zc,hp,hl,hz,h=>by
  obtain ⟨v,vs',rfl,hv,hr⟩:=hp
  unfold uU at h
  split at h
  ·rename_i m' k' lx
   obtain ⟨vs,rfl,hv⟩:=hv
   obtain ⟨hlx,vz,rfl,hz'⟩:=aD hv
   cases (show vz= [] from hz')
   rw [aiz]
   split at h
   ·rename_i hk
    subst hk
    split at h
    ·rename_i hm
     subst hm
     split at h
     ·rename_i hi
      have hq:=go (l.map (Value.int k')) (i*m') m' (by simp;omega)
      have hf:=mP (place:=fun i=>some (i*m',m')) (cur:=zc) (v:= .agg (lx.map (Value.int k')).toArray) (rest:=vs') (i:=i) (off:=i*m') (size:=m') (va:=(l.map (Value.int k')).take (i*m')) (vm:=((l.map (Value.int k')).drop (i*m')).take m') (vd:=(l.map (Value.int k')).drop (i*m'+m')) rfl (hz.trans hq) (by simp;omega) (by simp;omega) (by simp [Value.cells,hlx])
      rw [hf]
      refine BE hr (by simp;omega) ?_ h
      simp [Value.cells,ar2,ar3]
     ·cases h
    ·cases h
   ·cases h
  ·cases h
theorem Mg {zero:TypeId→Option (List SV)} (hz:mn P zero) {T:TypeId} {parts:List (Nat×SV)} {vparts:Array (Nat×Value)} (hp:jH Im ι w parts vparts.toList):
  bi P Im ι w ((do let y ← Instr.build T vparts;pure (.value y):Sem Next).run P w) (FG P zero T parts):=by
 unfold FG
 split
 ·rename_i fs z hu hzT
  split
  ·rename_i hall
   obtain ⟨z',h1,h2,h3⟩:=jN (w:=w) hz hzT
   split
   ·rename_i cs hcs
    have hfield:∀ f∈fs.toList,P.cellsOf f.type≠0:=by
     intro f hf
     have:=List.all_eq_true.1 hall f hf
     simpa using this
    have hm:=BO (P:=P) (w:=w) fs.toList hfield
    obtain ⟨r,h4,h5⟩:=kO (zc:=z'.cells) hp (h3 Im ι w) hcs
    have hplace:(fun i=>((fs.toList.map fun f=>(f.offset,P.cellsOf f.type)).toArray)[i]?)=uj P fs.toList:=by
     funext i
     unfold uj
     simp only [ar9,eW]
     cases fs.toList[i]? <;>rfl
    have hm2:(fs.mapM fun f=>(do pure (f.offset,← sizeOf f.type):Sem (Nat×Nat))).run P w= .ok ((fs.toList.map fun f=>(f.offset,P.cellsOf f.type)).toArray) w:=by
     rw [Array.mapM_eq_mapM_toList]
     simp only [Sem.run_map,hm,Result.andThen_ok]
    refine ⟨.agg r,?_,r.toList,by simp,h5⟩
    have hbuild:(Instr.build T vparts).run P w= .ok (.agg r) w:=by
     unfold Instr.build
     simp only [Sem.run_bind,h1,Result.andThen_ok,run_underlying hu,hm2]
     rw [hplace,h4]
     rfl
    exact aJ hbuild
   ·trivial
  ·trivial
 ·rename_i n E z hu hzT
  split
  ·trivial
  ·rename_i hE
   obtain ⟨z',h1,h2,h3⟩:=jN (w:=w) hz hzT
   split
   ·rename_i sv hsv
    split at hsv
    ·rename_i m k l
     split at hsv
     ·rename_i hE1
      split at hsv
      ·rename_i l' hl'
       cases hsv
       obtain ⟨hln,vz,hzc,hz'⟩:=aD (h3 Im ι w)
       cases (show vz= [] from hz')
       rw [aiz] at hzc
       obtain ⟨r,h4,h5,h6⟩:=zY (zc:=z'.cells) hp hln hzc hl'
       refine ⟨.agg r,?_,r.toList,by simp,?_⟩
       ·have hbuild:(Instr.build T vparts).run P w= .ok (.agg r) w:=by
         unfold Instr.build
         simp only [Sem.run_bind,h1,Result.andThen_ok,run_underlying hu,cJ hE]
         rw [hE1,h4]
         rfl
        exact aJ hbuild
       ·rw [h5];exact fX h6
      ·cases hsv
     ·split at hsv
      ·rename_i l' hl'
       cases hsv
       obtain ⟨hln,vz,hzc,hz'⟩:=aD (h3 Im ι w)
       cases (show vz= [] from hz')
       rw [aiz] at hzc
       obtain ⟨r,h4,h5,h6⟩:=BE (zc:=z'.cells) hp hln hzc hl'
       refine ⟨.agg r,?_,r.toList,by simp,?_⟩
       ·have hbuild:(Instr.build T vparts).run P w= .ok (.agg r) w:=by
         unfold Instr.build
         simp only [Sem.run_bind,h1,Result.andThen_ok,run_underlying hu,cJ hE]
         rw [h4]
         rfl
        exact aJ hbuild
       ·rw [h5];exact fX h6
      ·cases hsv
    ·cases hsv
   split
   ·rename_i cs hcs
    obtain ⟨r,h4,h5⟩:=kO (zc:=z'.cells) hp (h3 Im ι w) hcs
    refine ⟨.agg r,?_,r.toList,by simp,h5⟩
    have hbuild:(Instr.build T vparts).run P w= .ok (.agg r) w:=by
     unfold Instr.build
     simp only [Sem.run_bind,h1,Result.andThen_ok,run_underlying hu,cJ hE]
     rw [h4]
     rfl
    exact aJ hbuild
   ·trivial
 ·trivial
end
end Go.Avc
