/-
 Numbers: the great primes. (Printed by a program of ours.)
-/
import Derived.Test.YteiecapbaeajdaaGreatDoorJ8
import Derived.KernelRfl
open Nat renaming le_of_dvd→aw7,dvd_of_mod_eq_zero→axg,lt_of_lt_of_le→asG,mod_lt→as3,le_trans→aty,pow_le_pow_right→asH,le_refl→ar5,gcd→aw4,pos_of_ne_zero→axE,mod_eq_of_lt→awC,div_add_mod→axh
open List renaming drop_zero→as8,map→asv,replicate→ab0,map_replicate→aw0,getElem?_set→asX,length_cons→adC,drop→ar1,take→ar0,length_take→ajw,length_replicate→asy,getElem?_replicate→awV,getElem?_take_of_lt→awU,set_eq_of_length_le→axF,take_of_length_le→agv
open Bool renaming and_eq_false_iff→atd,or_eq_true→as9,or_eq_false_iff→ate
open Int renaming mul_one→axD,emod_add_mul_ediv→asd,ediv_nonneg→ase,mul_le_mul_of_nonneg_right→aw3,mul_nonneg→awX,pow_pos→awP,pow_succ→awM,mul_le_mul_of_nonneg_left→axj,mul_zero→axG,add_zero→axH,emod_eq_of_lt→aw2,lt_trichotomy→axI,add_emod→axJ,mul_emod→axK,emod_emod→axL,emod_lt_of_pos→axM,pow_zero→axO,pow_add→axP,pow_mul→axQ,add_mul_ediv_left→axR,ediv_eq_zero_of_lt→axS,ediv_ediv_of_nonneg→awN,mul_sub→axT
open BitVec renaming ofInt→abN,ofNat→axN,ofInt_natCast→awF,toNat_ofNat→awG
namespace Go.NT
set_option linter.unusedVariables false
set_option maxRecDepth 100000
open C7
theorem bN {p:Nat} (h2:2≤p) (h:∀ d,d<p→2≤d→p%d≠0):Pr p:=⟨h2,fun d hd=>by
 have hle:=aw7 (by omega) hd
 have h0:d≠0:=fun e=>by subst e;have:=Nat.eq_zero_of_zero_dvd hd;omega
 rcases Nat.lt_or_ge d p with e | e
 ·rcases Nat.lt_or_ge d 2 with e2 | e2
  ·exact .inl (by omega)
  ·exact absurd (Nat.mod_eq_zero_of_dvd hd) (h d e e2)
 ·exact .inr (by omega)⟩
theorem eU {m a v:Nat} {l:List (Nat×Nat)} {L:Nat} (hm:1≤m) (hodd:(m+1)%2=1) (hc:FJ l=true) (hl:∀ f k,(f,k)∈l→Pr f)
  (hL:m<2 ^ L) (hd:fZ l∣m) (h:((yY (Nat.succ m) ⟨a,0,0,0,0,0,0⟩ m L sq fun r=>Jl r sq)&&C0 m ⟨a,0,0,0,0,0,0⟩ m L l sq fun W=>uf (Nat.succ m) W ⟨v,0,0,0,0,0,0⟩ fun z=>Jl z sq)=true)
  (hbig:m+1<(fZ l+1)*(fZ l+1)):Pr (m+1):=by
 rw [Bool.and_eq_true] at h
 obtain ⟨ha,hp⟩:=h
 obtain ⟨r1,e1,k1⟩:=Dx hL ha
 obtain rfl:=yt e1
 obtain ⟨W,e3,k3⟩:=Cn hL hp
 obtain ⟨z,e4,k4⟩:=vB e3
 obtain rfl:=yt e4
 refine YN (by omega) fun r hr hrN hsq=> ?_
 have hr2:r%2=1:=by
  rcases Nat.mod_two_eq_zero_or_one r with e | e
  ·have:2∣m+1:=Nat.dvd_trans (axg e) hrN
   omega
  ·exact e
 have hcv:cv ⟨a,0,0,0,0,0,0⟩=c a:=rfl
 rw [hcv] at k1 k3
 have hone:eC r (c a) m:=k1.symm.of_dvd hrN
 have hf:Cg r ((c a) ^ r) ((c a) ^ 1):=by
  rw [H1,show (c (a:Int)) ^ 1=c a from lH _]
  exact Co hr (K:=r / 2) (by omega) a
 have h1:=Cy (by omega) hone hf.symm (by omega)
 have main:fZ l∣r-1:=GJ hc fun f k hm=>NS (e:=eC r (c a)) (fun a b=>QJ a b) (fun a k=>KS a k) (hl f k hm) hone (Nat.dvd_trans (Gh hm) hd) h1 fun hd=>by
  have h0:=k3 r hrN (.inr ⟨f,k,hm,hd⟩)
  have h1:=(k4.of_dvd hrN).trans (h0.mul (Cg.refl r _))
  rw [Dv,RZ] at h1
  obtain ⟨y,hy⟩:=h1
  rw [T5] at hy
  have y0:(1:Int)=0+r*y.a0:=congrArg C7.a0 hy
  have hd:(r:Int)∣1:=⟨y.a0,by omega⟩
  have:r∣1:=by exact_mod_cast hd
  have h9:=aw7 (by decide) this
  have:=hr.1
  omega
 have hle:=aw7 (by have:=hr.1;omega) main
 have:=Nat.mul_le_mul (show fZ l+1≤r by have:=hr.1;omega) (show fZ l+1≤r by have:=hr.1;omega)
 omega
theorem xm:Pr 2:=bN (by decide) (by decide+kernel)
theorem CN:Pr 3:=bN (by decide) (by decide+kernel)
theorem OT:Pr 5:=bN (by decide) (by decide+kernel)
theorem Vj:Pr 7:=bN (by decide) (by decide+kernel)
theorem aqA:Pr 13:=bN (by decide) (by decide+kernel)
theorem aqW:Pr 31:=bN (by decide) (by decide+kernel)
theorem amn:Pr 73:=bN (by decide) (by decide+kernel)
theorem afP:Pr 199:=bN (by decide) (by decide+kernel)
theorem ab8:Pr 313:=bN (by decide) (by decide+kernel)
theorem Zn:Pr 11:=bN (by decide) (by decide+kernel)
theorem aa9:Pr (3850+1):=eU (l:= [(5,2),(11,1)]) (L:=12) (a:=2) (v:=3845) (by decide+kernel) (by decide+kernel) (by decide+kernel) (fun f k h=>by simp at h;rcases h with h | h <;>(obtain ⟨rfl,rfl⟩:=h) <;>first | exact OT | exact Zn) (by decide+kernel) (by decide+kernel) (by kernel_rfl) (by decide+kernel)
theorem aby:Pr 311:=bN (by decide) (by decide+kernel)
theorem Vg:Pr (18660+1):=eU (l:= [(311,1)]) (L:=15) (a:=2) (v:=17392) (by decide+kernel) (by decide+kernel) (by decide+kernel) (fun f k h=>by simp at h;(obtain ⟨rfl,rfl⟩:=h) <;>first | exact aby) (by decide+kernel) (by decide+kernel) (by kernel_rfl) (by decide+kernel)
theorem ajn:Pr 101:=bN (by decide) (by decide+kernel)
theorem TZ:Pr (65650+1):=eU (l:= [(101,1),(5,2)]) (L:=17) (a:=2) (v:=49412) (by decide+kernel) (by decide+kernel) (by decide+kernel) (fun f k h=>by simp at h;rcases h with h | h <;>(obtain ⟨rfl,rfl⟩:=h) <;>first | exact ajn | exact OT) (by decide+kernel) (by decide+kernel) (by kernel_rfl) (by decide+kernel)
theorem Po:Pr (4332966+1):=eU (l:= [(11,1),(3,1),(2,1),(65651,1)]) (L:=23) (a:=6) (v:=3537540) (by decide+kernel) (by decide+kernel) (by decide+kernel) (fun f k h=>by simp at h;rcases h with h | h | h | h <;>(obtain ⟨rfl,rfl⟩:=h) <;>first | exact Zn | exact CN | exact xm | exact TZ) (by decide+kernel) (by decide+kernel) (by kernel_rfl) (by decide+kernel)
theorem acS:Pr 131:=bN (by decide) (by decide+kernel)
theorem ad3:Pr 827:=bN (by decide) (by decide+kernel)
theorem R4:Pr (223290+1):=eU (l:= [(827,1)]) (L:=18) (a:=2) (v:=61689) (by decide+kernel) (by decide+kernel) (by decide+kernel) (fun f k h=>by simp at h;(obtain ⟨rfl,rfl⟩:=h) <;>first | exact ad3) (by decide+kernel) (by decide+kernel) (by kernel_rfl) (by decide+kernel)
theorem Md:Pr (58502242+1):=eU (l:= [(131,1),(2,1),(223291,1)]) (L:=26) (a:=2) (v:=43817423) (by decide+kernel) (by decide+kernel) (by decide+kernel) (fun f k h=>by simp at h;rcases h with h | h | h <;>(obtain ⟨rfl,rfl⟩:=h) <;>first | exact acS | exact xm | exact R4) (by decide+kernel) (by decide+kernel) (by kernel_rfl) (by decide+kernel)
theorem amN:Pr 37:=bN (by decide) (by decide+kernel)
theorem ah2:Pr 853:=bN (by decide) (by decide+kernel)
theorem Or:Pr (1310208+1):=eU (l:= [(853,1),(2,9)]) (L:=21) (a:=7) (v:=1153598) (by decide+kernel) (by decide+kernel) (by decide+kernel) (fun f k h=>by simp at h;rcases h with h | h <;>(obtain ⟨rfl,rfl⟩:=h) <;>first | exact ah2 | exact xm) (by decide+kernel) (by decide+kernel) (by kernel_rfl) (by decide+kernel)
theorem IF:Pr (290866398+1):=eU (l:= [(37,1),(3,1),(2,1),(1310209,1)]) (L:=29) (a:=6) (v:=210408986) (by decide+kernel) (by decide+kernel) (by decide+kernel) (fun f k h=>by simp at h;rcases h with h | h | h | h <;>(obtain ⟨rfl,rfl⟩:=h) <;>first | exact amN | exact CN | exact xm | exact Or) (by decide+kernel) (by decide+kernel) (by kernel_rfl) (by decide+kernel)
theorem ai0:Pr 659:=bN (by decide) (by decide+kernel)
theorem Uj:Pr (39540+1):=eU (l:= [(659,1)]) (L:=16) (a:=2) (v:=28710) (by decide+kernel) (by decide+kernel) (by decide+kernel) (fun f k h=>by simp at h;(obtain ⟨rfl,rfl⟩:=h) <;>first | exact ai0) (by decide+kernel) (by decide+kernel) (by kernel_rfl) (by decide+kernel)
theorem IL:Pr (2167716702+1):=eU (l:= [(3,1),(2,1),(39541,1)]) (L:=32) (a:=3) (v:=1933124885) (by decide+kernel) (by decide+kernel) (by decide+kernel) (fun f k h=>by simp at h;rcases h with h | h | h <;>(obtain ⟨rfl,rfl⟩:=h) <;>first | exact CN | exact xm | exact Uj) (by decide+kernel) (by decide+kernel) (by kernel_rfl) (by decide+kernel)
theorem L2:Pr (182088203052+1):=eU (l:= [(7,1),(2,2),(3,1),(2167716703,1)]) (L:=38) (a:=6) (v:=85806158140) (by decide+kernel) (by decide+kernel) (by decide+kernel) (fun f k h=>by simp at h;rcases h with h | h | h | h <;>(obtain ⟨rfl,rfl⟩:=h) <;>first | exact Vj | exact xm | exact CN | exact IL) (by decide+kernel) (by decide+kernel) (by kernel_rfl) (by decide+kernel)
theorem afR:Pr 509:=bN (by decide) (by decide+kernel)
theorem ahq:Pr 227:=bN (by decide) (by decide+kernel)
theorem XK:Pr 47:=bN (by decide) (by decide+kernel)
theorem ahW:Pr 229:=bN (by decide) (by decide+kernel)
theorem aqo:Pr 53:=bN (by decide) (by decide+kernel)
theorem PN:Pr (5267458+1):=eU (l:= [(229,1),(53,1)]) (L:=23) (a:=2) (v:=4212879) (by decide+kernel) (by decide+kernel) (by decide+kernel) (fun f k h=>by simp at h;rcases h with h | h <;>(obtain ⟨rfl,rfl⟩:=h) <;>first | exact ahW | exact aqo) (by decide+kernel) (by decide+kernel) (by kernel_rfl) (by decide+kernel)
theorem LB:Pr (500905890761075075178+1):=eU (l:= [(509,1),(227,1),(47,1),(3,2),(7,1),(2,1),(5267459,1)]) (L:=69) (a:=3) (v:=167025632575226923993) (by decide+kernel) (by decide+kernel) (by decide+kernel) (fun f k h=>by simp at h;rcases h with h | h | h | h | h | h | h <;>(obtain ⟨rfl,rfl⟩:=h) <;>first | exact afR | exact ahq | exact XK | exact CN | exact Vj | exact xm | exact PN) (by decide+kernel) (by decide+kernel) (by kernel_rfl) (by decide+kernel)
theorem ahS:Pr 907:=bN (by decide) (by decide+kernel)
theorem IU:Pr (3651845256750+1):=eU (l:= [(907,1),(5,3),(47,1)]) (L:=42) (a:=2) (v:=2176430755238) (by decide+kernel) (by decide+kernel) (by decide+kernel) (fun f k h=>by simp at h;rcases h with h | h | h <;>(obtain ⟨rfl,rfl⟩:=h) <;>first | exact ahS | exact OT | exact XK) (by decide+kernel) (by decide+kernel) (by kernel_rfl) (by decide+kernel)
theorem J5:Pr (22834869333004942403898+1):=eU (l:= [(3,1),(2,1),(3651845256751,1)]) (L:=75) (a:=3) (v:=21655329101214184530252) (by decide+kernel) (by decide+kernel) (by decide+kernel) (fun f k h=>by simp at h;rcases h with h | h | h <;>(obtain ⟨rfl,rfl⟩:=h) <;>first | exact CN | exact xm | exact IU) (by decide+kernel) (by decide+kernel) (by kernel_rfl) (by decide+kernel)
def lQ:List (Nat×Nat):= [(2,64),(3,2),(5,1),(7,1),(13,1),(31,1),(73,1),(199,1),(313,1),(3851,1),(18661,1),(4332967,1),(58502243,1),(290866399,1),(182088203053,1),(500905890761075075179,1),(22834869333004942403899,1)]
theorem ara (f k:Nat) (h:(f,k)∈lQ):Pr f:=by
 simp [lQ] at h
 rcases h with h | h | h | h | h | h | h | h | h | h | h | h | h | h | h | h | h <;>(obtain ⟨rfl,rfl⟩:=h) <;>first | exact xm | exact CN | exact OT | exact Vj | exact aqA | exact aqW | exact amn | exact afP | exact ab8 | exact aa9 | exact Vg | exact Po | exact Md | exact IF | exact L2 | exact LB | exact J5
def xQ:V7:=⟨619156953510124584840972238367707136359470755609529308357206401816712224979289970261622747411342062982008556891454584395159983290899110351048612044579536085345830250666663507491711100986212609090714738227830116578582363267635622853,138610260408283159125407010449514201387936323980994698146885549503888546460103769491789317027543610516835830756783648883668802968049652187536810708003225599650537506364095700029170155205845962998133866609277378462638544010050700826,244349304874187703607619211800316296135163527677067890675771491081210894421294285411444415927500472536137650691834615716136815668823919132923537804128855271964174239829524007453607188468221240131320357582434385921429397485439519029,56483800499733040760581762283106866099640241271753899363617460874634362698659313467648181460084735370510438101659365889270675979846943957641519138324830777729590382957697670019297903572274791319198290497633924388139313939842510629,243717798761737243174451853257331037922766201206184656549304917898839285879903126450215430696582375378881134570702116157281273446221002624739673442868758393983976098465139585392709425503489785900150112120443657230736920552938061367,507268891867790266032907888646939444212013157477871102718825543657088529174949896869450879358650127661190811058943616782450780590734113738844457677745186286219818882014354895587911459897498151185394639777796199249471565333401549645,519190128529207405154437232082807651330010866928369913991915427522075516309452798935833208933184079218800589449055348519757873633802327521214480603896532060722643871037819066789348803341347222426292322829264103226457726921507902529⟩
def uQ:V7:=⟨80211473802450178760199653970989325728314481791561296150173635116016619553254238749928997679800605056474125292440564842710934604601877639318440392193089848553812059934160352249963823718119668110864868823545576265434564187808539598,232540457691508878670696846686123589441399794431882324255032071183153076624949552606522206110898044194106313252329965558412393764605061934956154920375118792080197359876144916590001929861420113961968874039077787744539842196255035224,622665816935469279383126821538911950948437975235579540487034658246601495511103361628118386605831144611021116277675795321484697969491285151747032592818271238843072509356687774797907250519872122221855700428514680809008712281372332285,281246691927707718795483032252437523117719565025279091081128849026024256572941861441113483230510375201921339262673948856750170802830477228695710079176867155015268270600540709606836450098044134486257216861034022087742425852137185294,704626996654500644387300586101910125423706740282132790508433861129451805620081229470573154419560461984354892702587247194277339616992681904029794509354063542426374851685972571094991126481280417140688279035583713088044867448577012628,120178352761549519321512059186724850542924613258093530106490076907713319967206135103196476583952029815789984898152372497538232219461580828155312250629140891883364629005217168783286588250453356305613622533994308640857464338216259426,287307348677877183378058197150625268244497904127242897215233640745488786074116781888551476184334802800697239834573402072552436600394104827046646675000373006814481550876570939640768868045699950823955765922929676421827955206449502422⟩
def wQ:V7:=⟨332682448350151914670911028126817519063857296307395924257646684622064194274807594412572025830698209094909287360061899477675172225482438501992727345649560639373795890190756347537679433853555680435886332520668537865350833072973695269,332682448350151914670911028126817519063857296307395924257646684622064194274807594412572025830698209094909287360061899477675172225482438501992727345649560639373795890190756347537679433853555680435886332520668537865350833072973695268,332682448350151914670911028126817519063857296307395924257646684622064194274807594412572025830698209094909287360061899477675172225482438501992727345649560639373795890190756347537679433853555680435886332520668537865350833072973695268,332682448350151914670911028126817519063857296307395924257646684622064194274807594412572025830698209094909287360061899477675172225482438501992727345649560639373795890190756347537679433853555680435886332520668537865350833072973695268,332682448350151914670911028126817519063857296307395924257646684622064194274807594412572025830698209094909287360061899477675172225482438501992727345649560639373795890190756347537679433853555680435886332520668537865350833072973695268,332682448350151914670911028126817519063857296307395924257646684622064194274807594412572025830698209094909287360061899477675172225482438501992727345649560639373795890190756347537679433853555680435886332520668537865350833072973695268,332682448350151914670911028126817519063857296307395924257646684622064194274807594412572025830698209094909287360061899477675172225482438501992727345649560639373795890190756347537679433853555680435886332520668537865350833072973695268⟩
theorem atV:UR 776259046150354467565459065629240877815667024717257156601175597451483119974551053629334726938295821221455003840144432114575401859459023171316363806515641491872190410445098144254585345658296587683734775881559921685818610503605288958 lQ 117503813392761817068111132675669899316816427660372966666489466295074426660089323991980846165815105337757663273943040 386 767 xQ uQ wQ=true:=by kernel_rfl
theorem prQ:Pr (776259046150354467565459065629240877815667024717257156601175597451483119974551053629334726938295821221455003840144432114575401859459023171316363806515641491872190410445098144254585345658296587683734775881559921685818610503605288958+1):=Up (l:=lQ) (L:=386) (M:=767) (x:=xQ) (u:=uQ) (w:=wQ) (by decide+kernel) (by decide+kernel) (by decide+kernel) (by decide+kernel) ara (by decide+kernel) (by decide+kernel) rfl atV (by decide+kernel) (by decide+kernel)
theorem prP:Pr (1552518092300708935130918131258481755631334049434514313202351194902966239949102107258669453876591642442910007680288864229150803718918046342632727613031282983744380820890196288509170691316593175367469551763119843371637221007210577918+1):=eU (l:= [(776259046150354467565459065629240877815667024717257156601175597451483119974551053629334726938295821221455003840144432114575401859459023171316363806515641491872190410445098144254585345658296587683734775881559921685818610503605288959,1)]) (L:=768) (a:=2) (v:=517506030766902978376972710419493918543778016478171437734117064967655413316367369086223151292197214147636669226762954743050267906306015447544242537677094327914793606963398762836390230438864391789156517254373281123879073669070192640) (by decide+kernel) (by decide+kernel) (by decide+kernel) (fun f k h=>by simp at h;(obtain ⟨rfl,rfl⟩:=h) <;>first | exact prQ) (by decide+kernel) (by decide+kernel) (by kernel_rfl) (by decide+kernel)
end Go.NT
namespace Go.Proofs.YteiecapbaeajdaaGreatDoor
open Go Go.Avc Go.Proofs
set_option linter.unusedVariables false
set_option linter.unusedSimpArgs false
set_option maxRecDepth 100000
open Go Go.Avc
set_option maxRecDepth 10000
noncomputable section
theorem aqI:ae2:=by
 delta ae2 lM bR ax mc
 intro l n _ h0 _
 refine aa (fun h=> ?_) (fun h=> ?_)
 ·have h:=au h
  exact ⟨⟨h0,h⟩,by omega,rfl⟩
 ·have h:=aw h
  exact (xx (by omega)).symm
theorem ajo:(base.with Y4).Ok:=ab c9 (ai am c9 Tryz.func152 (by kernel_rfl) Tryz.call152 (by kernel_rfl) aqI)
theorem anw:acN:=by
 delta acN lM iR bR ax
 intro l _ hd _
 refine ⟨⟨⟨rfl,by omega,by omega,fun j hj=>xx (by omega)⟩,trivial⟩,?_⟩
 intro l1 n _ h
 obtain ⟨e,h0,h1,h2⟩:=h
 rw [e]
 refine ⟨fun h=> ?_,fun h=> ?_,fun h=> ?_,aa (fun h=> ?_) (fun h=> ?_)⟩
 ·have h:=au h;have:=hd.2;omega
 ·have h:=au h;omega
 ·have h:=au h;omega
 ·rw [cZ] at h
  have h3:=au h.1
  have h4:rv l (n-1).toNat=0:=au h.2
  have:=hd.2
  refine ⟨by omega,⟨rfl,by omega,by omega,fun j hj=> ?_⟩,by omega⟩
  by_cases e:(j:Int)=n-1
  ·rw [show j=(n-1).toNat from by omega];exact h4
  ·exact h2 j (by omega)
 ·refine ⟨⟨by omega,h0,h1⟩,?_⟩
  rw [as8]
  refine SF hd.1 (by omega) (fun j hj=>h2 j (by omega)) ?_
  by_cases e:n=0
  ·exact .inl (by omega)
  ·refine .inr fun h4=> ?_
   rw [atd] at h
   rcases h with h | h
   ·have:=aw h;omega
   ·refine aw h ?_
    show rv l (n-1).toNat=0
    rw [show (n-1).toNat=n.toNat-1 from by omega];exact h4
theorem aiR:(base.with WP).Ok:=ab ajo (ai aeJ ajo Tryz.func110 (by kernel_rfl) Tryz.call110 (by kernel_rfl) anw)
theorem aaE {x y:Nat} (h:x<y): -1=lY x y:=by unfold lY;rw [if_pos h]
theorem abb {x y:Nat} (h:y<x):1=lY x y:=by unfold lY;rw [if_neg (by omega),if_pos h]
theorem aab {x y:Nat} (h:x=y):0=lY x y:=by unfold lY;rw [if_neg (by omega),if_neg (by omega)]
theorem CL {x y:Nat} :lY x y<0↔x<y:=by
 unfold lY
 by_cases h:x<y
 ·rw [if_pos h];exact ⟨fun _=>h,fun _=>by decide⟩
 ·rw [if_neg h];split <;>constructor <;>intro k <;>omega
theorem aq8:af0:=by
 delta af0 lM iR ax
 intro a b _ _ hd _ _
 obtain ⟨ha,hb⟩:=hd
 have la:=ha.2
 have lb:=hb.2
 refine ⟨by omega,⟨⟨rfl,rfl,by omega,by omega,fun j hj=>by rw [xx (by omega),xx (by omega)]⟩,trivial⟩,?_⟩
 intro a' b' n _ _ h
 obtain ⟨e1,e2,h0,h1,h2⟩:=h
 rw [e1,e2]
 refine aa (fun h=> ?_) (fun h=> ?_)
 ·have h:=au h
  have h2':∀ j:Nat,((n.toNat:Nat):Int)<j→rv a j=rv b j:=fun j hj=>h2 j (by omega)
  refine ⟨h,h,aa (fun k=> ?_) (fun k=>⟨h,h,aa (fun k2=> ?_) (fun k2=> ?_)⟩)⟩
  ·exact aaE (SK ha.1 hb.1 h2' (au k))
  ·exact abb (SK hb.1 ha.1 (fun j hj=>(h2' j hj).symm) (au k2))
  ·have k:=aw k
   have k2:=aw k2
   refine ⟨by omega,⟨rfl,rfl,by omega,by omega,fun j hj=> ?_⟩,by omega⟩
   by_cases e:(j:Int)=n
   ·rw [show j=n.toNat from by omega];omega
   ·exact h2 j (by omega)
 ·have h:=aw h
  exact aab (aj1 ha.1 hb.1 fun j=>h2 j (by omega))
theorem akX:(base.with VT).Ok:=ab aiR (ai akW aiR Tryz.func108 (by kernel_rfl) Tryz.call108 (by kernel_rfl) aq8)
theorem anP:aix:=by
 delta aix lM iR aR bR ax mc EU uY Ae
 intro a b _ _ hd _
 obtain ⟨ha,hb,hle⟩:=hd
 have la:=ha.2
 refine ⟨⟨by omega,by omega,by omega,by omega⟩,⟨⟨rfl,rfl,by omega,by omega,rfl,rfl⟩,trivial⟩,?_⟩
 intro a' b' c n o _ _ _ h _
 obtain ⟨e1,e2,h0,h1,e3,e4⟩:=h
 rw [e1,e2,e3,e4]
 have lo:((fV a b n.toNat).1.map ae).length=n.toNat:=by rw [bp,DX]
 refine aa (fun h=> ?_) (fun h=> ?_)
 ·have h:=au h
  have k1:=m8 ha.1 n.toNat
  have k2:=m8 hb.1 n.toNat
  have ⟨k3,_⟩:=Ar ha.1 hb.1 n.toNat
  have f1:IntKind.u64.wrap (4294967296+rv a n.toNat)=4294967296+rv a n.toNat:=dw ⟨by omega,by omega⟩
  have f2:IntKind.u64.wrap (4294967296+rv a n.toNat-rv b n.toNat)=4294967296+rv a n.toNat-rv b n.toNat:=dw ⟨by omega,by omega⟩
  have f3:IntKind.u64.wrap (4294967296+rv a n.toNat-rv b n.toNat-(fV a b n.toNat).2)=4294967296+rv a n.toNat-rv b n.toNat-(fV a b n.toNat).2:=dw ⟨by omega,by omega⟩
  have f4:IntKind.u64.wrap (1-(4294967296+rv a n.toNat-rv b n.toNat-(fV a b n.toNat).2) / 4294967296)=1-(4294967296+rv a n.toNat-rv b n.toNat-(fV a b n.toNat).2) / 4294967296:=dw ⟨by omega,by omega⟩
  have f5:IntKind.u64.wrap ((4294967296+rv a n.toNat-rv b n.toNat-(fV a b n.toNat).2)%4294967296)=(4294967296+rv a n.toNat-rv b n.toNat-(fV a b n.toNat).2)%4294967296:=dw ⟨by omega,by omega⟩
  have hm:IntKind.u64.max=18446744073709551615:=by decide
  rw [gc,f1,f2,f3,f4,lo,hm]
  refine ⟨⟨h0,h⟩,by omega,h0,⟨by omega,by decide⟩,⟨by omega,by omega⟩,⟨by omega,by decide,by omega⟩,by omega,⟨rfl,rfl,by omega,by omega,?_,?_⟩,by omega⟩
  ·rw [show (n+1).toNat=n.toNat+1 from by omega];rfl
  ·rw [show (n+1).toNat=n.toNat+1 from by omega]
   show _=asv ae ((fV a b n.toNat).1++_)
   rw [List.map_append];rfl
 ·have h:=aw h
  have hn:n.toNat=a.length:=by omega
  rw [hn]
  have ⟨k1,k2⟩:=ahf ha.1 hb.1 hle
  rw [hn] at lo
  exact ⟨⟨k1,by rw [lo];exact la⟩,by rw [k2]⟩
theorem agl:(base.with Xj).Ok:=ab akX (ai ajx akX Tryz.func151 (by kernel_rfl) Tryz.call151 (by kernel_rfl) anP)
theorem xg (L:List Int) (i:Nat) (x:Int) (h:i<L.length):(L.map ae).set i (((L.map ae).getD i []).set 0 (CD.int x))=(L.set i x).map ae:=by
 rw [List.map_set]
 congr 1
 rw [ay,eW,cH h]
 rfl
theorem aqJ:aj9:=by
 delta aj9 lM iR bR ax mc EU Ae nM
 intro a _ ha _
 have la:=ha.2
 refine ⟨⟨by omega,by omega,by omega,by omega⟩,⟨⟨rfl,by omega,by omega,?_⟩,trivial⟩,?_⟩
 ·show _=asv ae (ab0 a.length 0)
  rw [aw0];rfl
 intro a' n o _ _ h _
 obtain ⟨e1,h0,h1,e2⟩:=h
 rw [e1,e2]
 refine aa (fun h=> ?_) (fun h=> ?_)
 ·have h:=au h
  have hl:(oK a n.toNat).length=a.length:=vo a _
  have lo:((oK a n.toNat).map ae).length=a.length:=by rw [bp,hl]
  have hn:(n+1).toNat=n.toNat+1:=by omega
  have k1:=m8 ha.1 n.toNat
  have k2:=m8 ha.1 (n.toNat+1)
  have hm:IntKind.u64.max=18446744073709551615:=by decide
  rw [hm,lo,hn,gc,gc,xg _ _ _ (by omega),bp,df,hl]
  refine ⟨⟨h0,h⟩,by omega,⟨by omega,by decide,by omega⟩,⟨h0,by omega⟩,by omega,by omega,fun _=>aa (fun h2=> ?_) (fun h2=> ?_)⟩
  ·have h2:=au h2
   have g1:((((oK a n.toNat).set n.toNat (rv a n.toNat / 2)).map ae).getD n.toNat []).getD 0 (CD.int 0)=CD.int (rv a n.toNat / 2):=by
    rw [ay (l:=asv _ _),eW,asX,if_pos rfl,if_pos (by omega)];rfl
   refine ⟨⟨h0,by omega⟩,by omega,by omega,⟨by omega,h2⟩,by omega,⟨by omega,by decide⟩,⟨h0,by omega⟩,by omega,by omega,⟨rfl,by omega,by omega,?_⟩,by omega⟩
   rw [g1,xg _ _ _ (by rw [df];omega),List.set_set]
   have f1:IntKind.u64.wrap (rv a (n.toNat+1)%2*2147483648)=rv a (n.toNat+1)%2*2147483648:=dw ⟨by omega,by omega⟩
   have f2:IntKind.u64.wrap (rv a n.toNat / 2+rv a (n.toNat+1)%2*2147483648)=rv a n.toNat / 2+rv a (n.toNat+1)%2*2147483648:=dw ⟨by omega,by omega⟩
   rw [f1,show (CD.int (rv a n.toNat / 2)).toInt=rv a n.toNat / 2 from rfl,f2]
   rfl
  ·have h2:=aw h2
   refine ⟨by omega,⟨rfl,by omega,by omega,?_⟩,by omega⟩
   have:rv a (n.toNat+1)=0:=xx (by omega)
   show _=asv ae ((oK a n.toNat).set n.toNat (rv a n.toNat / 2+rv a (n.toNat+1)%2*2147483648))
   rw [this]
   simp
 ·have h:=aw h
  have hn:n.toNat=a.length:=by omega
  rw [hn]
  have ⟨k1,k2⟩:=aaf ha.1
  exact ⟨⟨k1,by rw [bp,vo];exact la⟩,by rw [k2]⟩
theorem aka:(base.with Wr).Ok:=ab agl (ai ai7 agl Tryz.func174 (by kernel_rfl) Tryz.call174 (by kernel_rfl) aqJ)
theorem mK {l:LD} (h:jf l):av l:=by rw [show l=aj (ah l) from h];exact X8 _
theorem an1:aeS:=by
 delta aeS lM iR bR ax mc kG
 intro b _ hb _
 obtain ⟨hB,lb⟩:=hb
 have hA:=mK hB
 have hm:IntKind.i64.max=9223372036854775807:=by decide
 rw [hm]
 refine ⟨⟨by omega,by decide,by omega⟩,by omega,⟨by omega,by omega,by omega,by omega⟩,fun _=>⟨by omega,⟨⟨rfl,by omega,by omega,?_⟩,trivial⟩,?_⟩⟩
 ·rw [show ((b.length:Int)-1-((b.length:Int)-1)).toNat=0 from by omega]
  show _=asv ae (ab0 (b.length / 4+1) 0)
  rw [aw0,show ((b.length:Int) / 4+1).toNat=b.length / 4+1 from by omega];rfl
 intro b' n o _ _ h
 obtain ⟨e1,h0,h1,e2⟩:=h
 rw [e1,e2]
 obtain ⟨k,hk⟩:∃ k,k=((b.length:Int)-1-n).toNat:=⟨_,rfl⟩
 rw [← hk]
 have hl:=uE b k
 have lo:((io b k).map ae).length=b.length / 4+1:=by rw [bp,hl]
 refine aa (fun h=> ?_) (fun h=> ?_)
 ·have h:=au h
  have hn:b.length-1-k=n.toNat:=by omega
  have hn4:(n / 4).toNat=n.toNat / 4:=by omega
  have k1:=hA n.toNat
  have hg:=JH hA k (by omega) (n.toNat / 4) (by omega)
  have hrv:((asv ae (io b k)).getD (n.toNat / 4) []).getD 0 (CD.int 0)=CD.int ((io b k).getD (n.toNat / 4) 0):=by
   rw [ay (l:=asv _ _),eW,cH (by omega),ay (l:=io b k),cH (by omega)];rfl
  have hold:0≤(io b k).getD (n.toNat / 4) 0∧(io b k).getD (n.toNat / 4) 0<4294967296:=by
   rw [hg]
   have h3:∀ y e:Nat,e≤4→y%256 ^ e<4294967296:=fun y e he=>asG (as3 _ (Nat.pow_pos (by decide))) (aty (asH (by decide) he) (by decide))
   have h4:=h3 (rZ ((dI b).drop (max (4*(n.toNat / 4)) (b.length-k)))) (4*(n.toNat / 4)+4-max (4*(n.toNat / 4)) (b.length-k)) (by omega)
   omega
  rw [hn4,lo,hrv,gc,xg _ _ _ (by omega)]
  refine ⟨⟨h,by decide,by omega⟩,⟨h,by decide,by omega⟩,⟨by omega,by omega⟩,by omega,⟨h,h1⟩,by omega,⟨by omega,by omega⟩,by omega,by omega,⟨rfl,by omega,by omega,?_⟩,by omega⟩
  rw [show ((b.length:Int)-1-(n-1)).toNat=k+1 from by omega]
  show _=asv ae ((io b k).set ((b.length-1-k) / 4) ((io b k).getD ((b.length-1-k) / 4) 0*256+rv b (b.length-1-k)))
  rw [hn,show (CD.int ((io b k).getD (n.toNat / 4) 0)).toInt=(io b k).getD (n.toNat / 4) 0 from rfl]
  have f1:IntKind.u64.wrap ((io b k).getD (n.toNat / 4) 0*256)=(io b k).getD (n.toNat / 4) 0*256:=dw ⟨by omega,by omega⟩
  have f2:IntKind.u64.wrap (rv b n.toNat)=rv b n.toNat:=dw ⟨by omega,by omega⟩
  have f3:IntKind.u64.wrap ((io b k).getD (n.toNat / 4) 0*256+rv b n.toNat)=(io b k).getD (n.toNat / 4) 0*256+rv b n.toNat:=dw ⟨by omega,by omega⟩
  rw [f1,f2,f3]
 ·have h:=aw h
  have hk2:k=b.length:=by omega
  rw [hk2]
  have ⟨k1,k2⟩:=TS hA
  exact ⟨⟨k1,by rw [bp,uE];omega⟩,by rw [k2]⟩
theorem adK:(base.with WI).Ok:=ab aka (ai ak9 aka Tryz.func133 (by kernel_rfl) Tryz.call133 (by kernel_rfl) an1)
theorem anQ:ach:=by
 delta ach qg mh
 exact fun _=>rfl
theorem age:(base.with VH).Ok:=ab adK (ai am adK Tryz.func173 (by kernel_rfl) Tryz.call173 (by kernel_rfl) anQ)
theorem aqe:ajy:=by
 delta ajy qg mh
 exact fun b hb=>by
  subst hb
  exact ⟨trivial,rfl⟩
theorem aeO:(base.with Ym).Ok:=ab age (ai am age Tryz.func172 (by kernel_rfl) Tryz.call172 (by kernel_rfl) aqe)
theorem ao7:afr:=by
 delta afr Ac
 exact fun _=>rfl
theorem ag4:(base.with Yd).Ok:=ab aeO (ai am aeO Tryz.func109 (by kernel_rfl) Tryz.call109 (by kernel_rfl) ao7)
theorem Mt:∀ (f n k:Nat),n<4294967296 ^ k→(yq f n).length≤k
 | 0,_,_,_=>Nat.zero_le _
 | f+1,n,0,h=>by
  have:n=0:=by simp at h;exact h
  rw [yq,if_pos this];exact ar5 _
 | f+1,n,k+1,h=>by
  rw [yq]
  split
  ·exact Nat.zero_le _
  ·rw [adC]
   have:n / 4294967296<4294967296 ^ k:=by
    rw [Nat.div_lt_iff_lt_mul (by decide)]
    rwa [Nat.pow_succ] at h
   have:=Mt f _ k this
   omega
theorem Nm {n k:Nat} (h:n<4294967296 ^ k):(bU n).length≤k:=by
 show ((Ha n).map sb).length≤k
 rw [bp]
 exact Mt n n k h
theorem ahp:bE<4294967296 ^ 24:=by decide+kernel
theorem CO {n:Nat} (h:n≤bE):c8 (bU n):=⟨Fw n,aty (Nm (Nat.lt_of_le_of_lt h ahp)) (by decide)⟩
theorem Rw {x:LD} (h:zC x) (hl:dv x≤bE):c8 x:=by rw [show x=bU (dv x) from h];exact CO hl
theorem r6 {x:LD} (h:zC x):x.length=0↔dv x=0:=by
 constructor
 ·intro e
  rw [List.length_eq_zero_iff.1 e];rfl
 ·intro e
  rw [show x=bU (dv x) from h,e];rfl
theorem M0 {x:LD} (h:iH x):rv x 0=((dv x%4294967296:Nat):Int):=by
 have:=yr h 0
 rwa [Nat.pow_zero,Nat.div_one] at this
theorem N3 (b:Bool):Ll (!b)= -1*Ll b:=by cases b <;>rfl
theorem WC {x:LD} (h:zC x):iH x:=by rw [show x=bU (dv x) from h];exact Fw _
theorem aaq {p y:Nat} {x n:LD} {s:Bool} (h:oJ p x n s y) (he:dv x%2=0):oJ p (bU (dv x / 2)) n (bif decide (dv n%8=3∨dv n%8=5) then !s else s) y:=by
 obtain ⟨h1,h2,h3,h4,h5,h6,h7⟩:=h
 refine ⟨vS _,h2,by rw [di];omega,h4,h5,?_,?_⟩
 ·rw [di]
  exact Nat.Coprime.coprime_dvd_left (Nat.div_dvd_of_dvd (axg he)) h6
 ·rw [di]
  rw [NT.sy_half h5 h6 he] at h7
  by_cases hc:dv n%8=3∨dv n%8=5
  ·rw [if_pos hc] at h7
   rw [decide_eq_true hc]
   show Ll (!s)*_=_
   rw [N3,← h7];grind
  ·rw [if_neg hc] at h7
   rw [decide_eq_false hc]
   show Ll s*_=_
   rw [← h7];grind
theorem abj {x n:Nat} (h:n≤x):aw4 (x-n) n=aw4 x n:=by
 have:x=x-n+n:=by omega
 rw [this,Nat.gcd_add_self_left,← this]
theorem Kb {p y:Nat} {x n:LD} {s:Bool} (h:oJ p x n s y) (hl:dv n≤dv x):oJ p (bU (dv x-dv n)) n s y:=by
 obtain ⟨h1,h2,h3,h4,h5,h6,h7⟩:=h
 refine ⟨vS _,h2,by rw [di];omega,h4,h5,?_,?_⟩
 ·rw [di,abj hl];exact h6
 ·rw [di,NT.sy_sub h5 hl];exact h7
theorem Z9 {p y:Nat} {x n:LD} {s:Bool} (h:oJ p x n s y) (ho:dv x%2=1):oJ p n x (bif decide (dv x%4=3∧dv n%4=3) then !s else s) y:=by
 obtain ⟨h1,h2,h3,h4,h5,h6,h7⟩:=h
 refine ⟨h2,h1,h4,h3,ho,by rw [Nat.gcd_comm];exact h6,?_⟩
 rw [NT.sy_swap h5 ho h6] at h7
 by_cases hc:dv x%4=3∧dv n%4=3
 ·rw [if_pos hc] at h7
  rw [decide_eq_true hc]
  show Ll (!s)*_=_
  rw [N3,← h7];grind
 ·rw [if_neg hc] at h7
  rw [decide_eq_false hc]
  show Ll s*_=_
  rw [← h7];grind
theorem aiu {p y:Nat} {x n:LD} {s:Bool} (h:oJ p x n s y) (h0:dv x=0):s=decide (NT.sy y p=1):=by
 obtain ⟨h1,h2,h3,h4,h5,h6,h7⟩:=h
 rw [h0,Nat.gcd_zero_left] at h6
 rw [h0,h6,NT.sy_one,axD] at h7
 rw [← h7]
 cases s <;>rfl
theorem Jt:t7=bU bE:=by
 have h1:dI t7=Ha bE:=(SO (l:=dI t7) (fun d hd=>by
  have:∀ d∈dI t7,d<4294967296:=by decide+kernel
  exact this d hd) (fun m d e=>by
  intro h0
  have h2:(dI t7).getLast? =some d:=by rw [e];simp
  have h3:(dI t7).getLast? =some 4294967295:=by decide+kernel
  rw [h3] at h2
  cases h2;cases h0)).symm.trans (congrArg Ha (by decide+kernel:cX (dI t7)=bE))
 have h2:t7=(dI t7).map sb:=by kernel_rfl
 rw [h2,h1];rfl
theorem VL:NT.Pr bE:=NT.prP
theorem Ng:bE%2=1:=by decide+kernel
theorem abo {y:Nat} (h0:0<y) (h:y<bE):aw4 y bE=1:=by
 rw [Nat.gcd_comm]
 exact VL.coprime fun hd=>by have:=aw7 h0 hd;omega
theorem T8 {l:LD} (h:zC l) (h0:0<dv l) (h1:dv l<bE):oJ bE l t7 true (dv l):=by
 have e:dv t7=bE:=by rw [Jt,di]
 refine ⟨h,by rw [Jt];exact vS _,by omega,by omega,by rw [e];exact Ng,by rw [e];exact abo h0 h1,?_⟩
 rw [e]
 show 1*_=_
 rw [Int.one_mul]
theorem aqB:agB:=by
 delta agB lM bR ax qg mh AC fw AZ GF
 intro l _ hl
 obtain ⟨hd,ht,h0,h1⟩:=hl
 have h1:dv l<bE:=h1
 refine ⟨trivial,⟨T8 ht h0 h1,trivial⟩,?_⟩
 intro a n b _ _ h _
 have h:oJ bE a n b (dv l):=h
 refine aa (fun hc=> ?_) (fun hc=> ?_)
 ·have hc:=au hc
  have ha0:0<dv a:=by
   apply axE
   intro e
   have:=(r6 h.1).2 e
   omega
  refine ⟨⟨⟨h,ha0,ar5 _,rfl⟩,trivial⟩,?_⟩
  intro x m s _ _ hx
  obtain ⟨hs,hx0,hx1,hm⟩:=hx
  have hs:oJ bE x m s (dv l):=hs
  obtain ⟨s1,s2,s3,s4,s5,s6,s7⟩:=id hs
  have lx:0<x.length:=by
   apply axE
   intro e
   have:=(r6 s1).1 e
   omega
  have lm:0<m.length:=by
   apply axE
   intro e
   have:=(r6 s2).1 e
   omega
  have rx:=M0 (WC s1)
  have rm:=M0 (WC s2)
  have dx:=Rw s1 s3
  have dm:=Rw s2 s4
  rw [gc,gc]
  refine ⟨⟨by omega,by omega⟩,lx,⟨by omega,by decide⟩,aa (fun he=> ?_) (fun he=> ?_)⟩
  ·have he:=au he
   have he2:dv x%2=0:=by omega
   have hh:=aaq hs he2
   refine ⟨dx,⟨by omega,by omega⟩,lm,⟨by omega,by decide⟩,fun _=>⟨by omega,by omega⟩,fun _=>lm,fun _=>⟨by omega,by decide⟩,aa (fun hk=> ?_) (fun hk=> ?_)⟩
   ·have hk:dv m%8=3∨dv m%8=5:=by
     rw [as9] at hk
     rcases hk with hk | hk <;>have hk:=au hk <;>omega
    rw [decide_eq_true hk] at hh
    rw [di]
    exact ⟨⟨hh,by omega,by omega,hm⟩,by omega⟩
   ·have hk:¬ (dv m%8=3∨dv m%8=5):=by
     rw [ate] at hk
     have k1:=aw hk.1
     have k2:=aw hk.2
     omega
    rw [decide_eq_false hk] at hh
    rw [di]
    exact ⟨⟨hh,by omega,by omega,hm⟩,by omega⟩
  ·have he:=aw he
   have ho:dv x%2=1:=by omega
   refine ⟨⟨dx,dm⟩,aa (fun hk=> ?_) (fun hk=> ?_)⟩
   ·have hk:=CL.1 (au hk)
    have hw:=Z9 hs ho
    refine ⟨⟨by omega,by omega⟩,lx,⟨by omega,by decide⟩,fun _=>⟨by omega,by omega⟩,fun _=>lm,fun _=>⟨by omega,by decide⟩,aa (fun hf=> ?_) (fun hf=> ?_)⟩
    ·have hf:dv x%4=3∧dv m%4=3:=by
      rw [cZ] at hf
      have k1:=au hf.1
      have k2:=au hf.2
      omega
     rw [decide_eq_true hf] at hw
     rw [di]
     exact ⟨⟨dm,dx,by omega⟩,Kb hw (by omega),show dv m-dv x+dv x<dv a+dv n by omega⟩
    ·have hf:¬ (dv x%4=3∧dv m%4=3):=by
      rw [atd] at hf
      rcases hf with hf | hf <;>have k1:=aw hf <;>omega
     rw [decide_eq_false hf] at hw
     rw [di]
     exact ⟨⟨dm,dx,by omega⟩,Kb hw (by omega),show dv m-dv x+dv x<dv a+dv n by omega⟩
   ·have hk:dv m≤dv x:=by
     have:=aw hk
     rw [CL] at this
     omega
    rw [di]
    exact ⟨⟨dx,dm,hk⟩,Kb hs hk,show dv x-dv m+dv m<dv a+dv n by omega⟩
 ·have hc:=aw hc
  exact aiu h ((r6 h.1).1 (by omega))
theorem adq:(base.with V4).Ok:=ab ag4 (ai ahe ag4 Tryz.func135 (by kernel_rfl) Tryz.call135 (by kernel_rfl) aqB)
theorem anC {b:LD} (hb:av b):bv b<256 ^ b.length:=by
 have:=JJ (zU hb)
 rwa [mO] at this
theorem M9 {b:LD} (hb:av b) (hl:b.length≤1000):c8 (bU (bv b)):=⟨Fw _,by
 have h:=anC hb
 have h2:bv b<4294967296 ^ 250:=asG h (aty (asH (by decide) hl) (by decide+kernel))
 exact aty (Nm h2) (by decide)⟩
theorem US:c8 t7:=by rw [Jt];exact CO (ar5 _)
theorem Bd {x y:Nat} :0≤lY x y↔y≤x:=by
 have:=CL (x:=x) (y:=y)
 omega
theorem alp:adH:=by
 delta adH lM ax kG qg mh pv rJ Gy
 intro g b _ h _
 obtain ⟨hg,hB,hl⟩:=h
 have hA:=mK hB
 refine aa (fun h=>jG h rfl) (fun h=>⟨⟨hB,hl⟩,hg,⟨M9 hA hl,US⟩,aa (fun k=>cf h ?_) (fun k=>cf h ?_)⟩)
 ·have k:bE≤dv (bU (bv b)):=Bd.1 (au k)
  rw [di] at k
  exact jG (decide_eq_true k) rfl
 ·have k:¬ bE≤dv (bU (bv b)):=fun k2=>aw k (Bd.2 k2)
  rw [di] at k
  exact cf (decide_eq_false k) ⟨rfl,rfl⟩
theorem adQ:(base.with Xe).Ok:=ab adq (ai am adq Tryz.func134 (by kernel_rfl) Tryz.call134 (by kernel_rfl) alp)
theorem vG (b:LD):xX b=(decide ((b.length:Int)=96)&&(decide (bv b<bE)&&(decide (bv b≠0)&&decide (NT.sy (bv b) bE=1)))):=rfl
theorem Yn {b:LD} (h:(b.length:Int)≠96):1=iD b:=by unfold iD;rw [if_pos h]
theorem H9 {b:LD} (h:(b.length:Int)=96) (k:xX b=false):4=iD b:=by unfold iD;rw [if_neg (fun e=>e h),if_neg (by rw [k];decide)]
theorem Ye {b:LD} (h:(b.length:Int)=96) (k:xX b=true):0=iD b:=by unfold iD;rw [if_neg (fun e=>e h),if_pos k]
theorem auQ:P90:=by
 delta P90 lM ax kG pv rJ
 intro b _ h
 obtain ⟨hB,hl⟩:=h
 refine ⟨⟨rfl,hB,hl⟩,aa (fun h=>Yn (au h)) (fun h=> ?_)⟩
 have h:=aw h
 have h:(b.length:Int)=96:=by omega
 refine aa (fun k=> ?_) (fun k=> ?_)
 ·have k:bE≤bv b:=au k
  refine H9 h ?_
  rw [vG,decide_eq_false (p:=bv b<bE) (by omega)];simp
 ·have k:¬ bE≤bv b:=aw k
  have k:bv b<bE:=by omega
  intro _
  have hz:((bU (bv b)).length:Int)=0↔bv b=0:=by
   have:=r6 (vS (bv b))
   rw [di] at this
   omega
  refine ⟨fun h0=>⟨CO (by omega),vS _,?_,?_⟩,aa (fun h0=> ?_) (fun h0=> ?_)⟩
  ·rw [di]
   have:¬ ((bU (bv b)).length:Int)=0:=by simpa using h0
   rw [hz] at this
   omega
  ·rw [di];exact k
  ·refine H9 h ?_
   rw [vG]
   rw [as9] at h0
   rcases h0 with h0 | h0
   ·have h0:=hz.1 (au h0)
    rw [decide_eq_false (p:=bv b≠0) (fun hn=>hn h0)];simp
   ·rw [di] at h0
    have h0:¬ NT.sy (bv b) bE=1:=by
     have h0:(!decide (NT.sy (bv b) bE=1))=true:=h0
     simpa using h0
    rw [decide_eq_false h0];simp
  ·refine Ye h ?_
   rw [ate] at h0
   have h1:bv b≠0:=fun e=>aw h0.1 (hz.2 e)
   have h2:=h0.2
   rw [di] at h2
   have h2:NT.sy (bv b) bE=1:=by
    have h2:(!decide (NT.sy (bv b) bE=1))=false:=h2
    simpa using h2
   rw [vG,decide_eq_true h,decide_eq_true k,decide_eq_true h1,decide_eq_true h2];rfl
theorem c90:(base.with adb).Ok:=ab adQ (ai am adQ Tryz.func90 (by kernel_rfl) Tryz.call90 (by kernel_rfl) auQ)
theorem UN:c8 pP2:=by
 refine ⟨⟨by kernel_rfl,fun d hd=> ?_⟩,by decide⟩
 have:∀ d∈dI pP2,d<4294967296:=by decide+kernel
 exact this d hd
theorem avr:P89:=by
 delta P89 lM ax kG Ac
 intro b _ h _
 obtain ⟨hB,hl⟩:=h
 have hA:=mK hB
 refine aa (fun h=>by unfold oE;rw [if_pos (au h)]) (fun h=>⟨⟨hB,hl⟩,trivial,⟨M9 hA hl,UN⟩,aa (fun k=> ?_) (fun k=> ?_)⟩)
 ·have k:vq≤dv (bU (bv b)):=Bd.1 (au k)
  rw [di] at k
  unfold oE
  rw [if_neg (aw h),if_pos k]
 ·have k:¬ vq≤dv (bU (bv b)):=fun k2=>aw k (Bd.2 k2)
  rw [di] at k
  unfold oE
  rw [if_neg (aw h),if_neg k]
theorem c89:(base.with ail).Ok:=ab c90 (ai am c90 Tryz.func89 (by kernel_rfl) Tryz.call89 (by kernel_rfl) avr)
def aF (t:Int):Int:=if t=1 then 1 else if t=2 then 8 else if t=3 then 32 else if t=4 then 96 else 0
def a9 (t:Int) (l:LD):Int:=if aF t=0 then 6 else if (l.length:Int)%aF t≠0 then 3 else if (l.length:Int) / aF t<1∨1048576<(l.length:Int) / aF t then 7 else 0
def aX (t:Int) (l:LD):Int:=if a9 t l=0 then (l.length:Int) / aF t else 0
def qn (t:Int) (l:LD) (i:Nat):LD:=(l.take ((i+1)*(aF t).toNat)).drop (i*(aF t).toNat)
def Rp (b:LD):Bool:=decide ((b.length:Int)=32)&&decide (bv b<vq)
def BC (t:Int) (b:LD):Bool:=if t=3 then Rp b else if t=4 then xX b else true
def tQ (t:Int) (l:LD):Nat→Bool
 | 0=>true
 | i+1=>tQ t l i&&BC t (qn t l i)
def cG (t:Int) (l:LD):Int:=if a9 t l≠0 then a9 t l else if tQ t l (aX t l).toNat then 0 else 4
def fA (k t c:Int) (l:LD):Bool:=decide (cV k t c [] =0)&&(bif decide (k≠1) then decide ((l.length:Int)=0) else (decide (a9 t l=0)&&(decide (aX t l=c)&&decide (cG t l=0))))
abbrev auA:Pat:= .agg [i64,i64,i64,rb]
def bX (l:LD):Prop:=jf l∧l.length≤1000
def avZ:Ct:= {ps:= [i64],bs:= [],pre:=fun _=>True,res:=fun | [.i t] => .ret i64 [] [.i (aF t)] | _=>ag}
def auJ:Ct:= {ps:= [i64,rb],bs:= [],pre:=fun | [.i t,.r l] =>bX l | _=>False,res:=fun | [.i t,.r l] => .ret (.tup [i64,i64]) [] [.i (aX t l),.i (a9 t l)] | _=>ag}
def avY:Ct:= {ps:= [i64,rb],bs:= [],pre:=fun | [.i t,.r l] =>bX l | _=>False,res:=fun | [.i t,.r l] => .ret i64 [] [.i (cG t l)] | _=>ag}
def aql:List Dat→Ann
 | [.i t,.r l] => {cut:= [],loop:= [(5,[la 51 [(0,i64),(1,rb),(5,i64),(7,i64)] [] (fun
   | [.i t',.r l',.i n,.i i] =>t'=t∧l'=l∧a9 t l=0∧n=aX t l∧0≤i∧i≤n∧tQ t l i.toNat=true
   | _=>False) (fun | [_,_,.i n,.i i] =>(n-i).toNat | _=>0)])]}
 | _=> {cut:= [],loop:= []}
def auz:Ct:= {ps:= [auA],bs:= [],pre:=fun | [.i k,.i t,.i c,.r l] =>bX l | _=>False,res:=fun | [.i k,.i t,.i c,.r l] => .ret .bool [] [.b (fA k t c l)] | _=>ag}
def P88:Prop:=
 ∀ (a:Int),
 True→
 bif decide (a=1) then 1=aF a
 else
 bif decide (a=2) then 8=aF a
 else
 bif decide (a=3) then 32=aF a
 else bif decide (a=4) then 96=aF a else 0=aF a
def aju:ac:=ak ail 88 (aq avZ)
def P49:Prop:=
 ∀ (a:Int) (b:LD),
 lM b→
 bX b→
 True∧
 bif decide (aF a=0) then
 0=aX a b∧(6:Int)=a9 a b
 else
 lM b→
 True∧
 ((0:Int)≤↑b.length∧(0:Int)<aF a)∧
 bif decide (↑b.length%aF a≠0) then
 0=aX a b∧(3:Int)=a9 a b
 else
 lM b→
 True∧
 ((0:Int)≤↑b.length∧(0:Int)<aF a∧↑b.length≤IntKind.i64.max)∧
 bif
 decide (↑b.length / aF a<(1:Int)) ||
 decide ((1048576:Int)<↑b.length / aF a) then
 0=aX a b∧(7:Int)=a9 a b
 else
 ↑b.length / aF a=aX a b∧
 (0:Int)=a9 a b
def acT:ac:=ak aju 49 (aq auJ)
abbrev tj (a b:Int)(c:LD):LD:=
 ar1 (a*aF b).toNat (ar0 ((a+1)*aF b).toNat c)
abbrev EN (a b c d:Int)(e f:LD):Prop:=
 iR (a+1)∧
 (b=c∧
 e=f∧
 a9 c f=0∧
 d=aX c f∧
 0≤a+1∧a+1≤d∧tQ c f (a+1).toNat=true)∧
 (d-(a+1)).toNat<(d-a).toNat
abbrev Kf (a b c d:Int)(e f:LD):Prop:=
 (jf (tj a b e)∧(tj a b e).length≤1000)∧
 bif decide (iD (tj a b e)≠0) then 4=cG c f
 else EN a b c d e f
def P50:Prop:=
 ∀ (a:Int) (b:LD),
 lM b→
 bX b→
 bX b∧
 bif decide (a9 a b≠0) then a9 a b=cG a b
 else
 ((a=a∧
 b=b∧
 a9 a b=0∧
 aX a b=aX a b∧
 (0:Int)≤0∧0≤aX a b∧tQ a b 0=true)∧
 True)∧
 ∀ (c:Int) (d:LD) (e f:Int),
 lM d→
 c=a∧
 d=b∧
 a9 a b=0∧
 e=aX a b∧0≤f∧f≤e∧tQ a b f.toNat=true→
 bif decide (f<e) then
 True∧
 iR (f*aF c)∧
 iR (f+1)∧
 True∧
 iR ((f+1)*aF c)∧
 (0≤f*aF c∧
 f*aF c≤(f+1)*aF c∧
 (f+1)*aF c≤↑d.length)∧
 bif decide (c=3) then
 (jf (tj f c d)∧
 (tj f c d).length≤1000)∧
 bif decide (c=4) then Kf f c a e d b
 else
 bif decide (oE (tj f c d)≠0) then
 4=cG a b
 else EN f c a e d b
 else
 bif decide (c=4) then Kf f c a e d b else EN f c a e d b
 else 0=cG a b
def ah5:ac:=ak acT 50 (aq avY)
def P23:Prop:=
 ∀ (a b c:Int) (d:LD),
 lM d→
 bX d→
 True∧
 bif decide (cV a b c [] ≠(0:Int)) then false=fA a b c d
 else
 bif decide (a≠1) then lM d→decide ((↑d.length:Int)=0)=fA a b c d
 else
 bX d∧
 ((decide (a9 b d=0)&&decide (aX b d=c))=true→
 bX d)∧
 (decide (a9 b d=0)&&decide (aX b d=c) &&
 decide (cG b d=0))=
 fA a b c d
def aii:ac:=ak ah5 23 (aq auz)
theorem afv:P88:=by
 unfold P88
 intro n _
 unfold aF
 refine aa (fun h=> ?_) (fun h=>aa (fun h2=> ?_) (fun h2=>aa (fun h3=> ?_) (fun h3=>aa (fun h4=> ?_) (fun h4=> ?_))))
 ·rw [if_pos (au h)]
 ·rw [if_neg (aw h),if_pos (au h2)]
 ·rw [if_neg (aw h),if_neg (aw h2),if_pos (au h3)]
 ·rw [if_neg (aw h),if_neg (aw h2),if_neg (aw h3),if_pos (au h4)]
 ·rw [if_neg (aw h),if_neg (aw h2),if_neg (aw h3),if_neg (aw h4)]
theorem c88:(base.with aju).Ok:=ab c89 (ai am c89 Tryz.func88 (by kernel_rfl) Tryz.call88 (by kernel_rfl) afv)
theorem yJ (t:Int):aF t=0∨aF t=1∨aF t=8∨aF t=32∨aF t=96:=by
 unfold aF
 split
 ·omega
 ·split
  ·omega
  ·split
   ·omega
   ·split <;>omega
theorem aui:P49:=by
 delta P49 lM
 intro t l _ hl
 have hlen:=hl.2
 have hs:=yJ t
 refine ⟨trivial,aa (fun h=> ?_) (fun h=> ?_)⟩
 ·have h:=au h
  have k:a9 t l=6:=by unfold a9;rw [if_pos h]
  unfold aX
  rw [k]
  exact ⟨rfl,rfl⟩
 have h:=aw h
 intro _
 refine ⟨trivial,⟨by omega,by omega⟩,aa (fun h2=> ?_) (fun h2=> ?_)⟩
 ·have k:a9 t l=3:=by unfold a9;rw [if_neg h,if_pos (au h2)]
  unfold aX
  rw [k]
  exact ⟨rfl,rfl⟩
 have h2:=aw h2
 intro _
 have hm:IntKind.i64.max=9223372036854775807:=by decide
 rw [hm]
 refine ⟨trivial,⟨by omega,by omega,by omega⟩,aa (fun h3=> ?_) (fun h3=> ?_)⟩
 ·have h3:(l.length:Int) / aF t<1∨1048576<(l.length:Int) / aF t:=by
   rw [as9] at h3
   exact h3.imp au au
  have k:a9 t l=7:=by unfold a9;rw [if_neg h,if_neg h2,if_pos h3]
  unfold aX
  rw [k]
  exact ⟨rfl,rfl⟩
 ·have h3:¬ ((l.length:Int) / aF t<1∨1048576<(l.length:Int) / aF t):=by
   rw [ate] at h3
   have k1:=aw h3.1
   have k2:=aw h3.2
   omega
  have k:a9 t l=0:=by unfold a9;rw [if_neg h,if_neg h2,if_neg h3]
  unfold aX
  rw [k,if_pos rfl]
  exact ⟨rfl,rfl⟩
theorem c49:(base.with acT).Ok:=ab c88 (ai am c88 Tryz.func49 (by kernel_rfl) Tryz.call49 (by kernel_rfl) aui)
theorem GH (b:LD):iD b=0↔xX b=true:=by
 unfold iD
 by_cases h:(b.length:Int)=96
 ·rw [if_neg (fun e=>e h)]
  cases xX b <;>simp
 ·rw [if_pos h]
  constructor
  ·intro e;cases e
  ·intro e
   rw [vG,decide_eq_false h] at e;cases e
theorem FY (b:LD):oE b=0↔Rp b=true:=by
 unfold oE Rp
 by_cases h:(b.length:Int)=32
 ·rw [if_neg (fun e=>e h),decide_eq_true h,Bool.true_and]
  by_cases k:vq≤bv b
  ·rw [if_pos k,decide_eq_false (by omega)];simp
  ·rw [if_neg k,decide_eq_true (by omega)];simp
 ·rw [if_pos h,decide_eq_false h];simp
theorem FS {l:LD} (h:jf l) (i j:Nat):jf ((l.take j).drop i):=by
 have e:(l.take j).drop i=aj (((ah l).take j).drop i):=by
  rw [show l=aj (ah l) from h]
  unfold aj
  rw [← List.map_take,← List.map_drop]
  rw [← show l=asv _ (ah l) from h]
 rw [e]
 exact jJ _
theorem Td {t:Int} {l:LD} {i:Nat} (h:BC t (qn t l i)=false):∀ {n:Nat},i<n→tQ t l n=false
 | n+1,hi=>by
  rw [tQ]
  by_cases e:i=n
  ·subst e;rw [h];simp
  ·rw [Td h (show i<n by omega)];rfl
theorem Qq {t:Int} {l:LD} {i:Nat} (hk:a9 t l=0) (hi:i<(aX t l).toNat) (h:BC t (qn t l i)=false):4=cG t l:=by
 unfold cG
 rw [if_neg (fun e=>e hk),Td h hi];rfl
theorem Xm (b:LD):BC 3 b=Rp b:=rfl
theorem Xc (b:LD):BC 4 b=xX b:=rfl
theorem auF:P50:=by
 delta P50 lM iR tj EN Kf
 intro t l _ hl
 have hlen:=hl.2
 refine ⟨hl,aa (fun h=> ?_) (fun h=> ?_)⟩
 ·have h:=au h
  unfold cG
  rw [if_pos h]
 have hk:a9 t l=0:=by simpa using aw h
 have qu:aF t≠0:=fun e=>by unfold a9 at hk;rw [if_pos e] at hk;cases hk
 have hm:(l.length:Int)%aF t=0:=by
  apply Classical.byContradiction
  intro e
  unfold a9 at hk
  rw [if_neg qu,if_pos e] at hk;cases hk
 have hn:aX t l=(l.length:Int) / aF t:=by unfold aX;rw [if_pos hk]
 have hs:=yJ t
 have hlen2:(l.length:Int)=aF t*aX t l:=by
  rw [hn]
  have:=asd (l.length:Int) (aF t)
  omega
 have hn0:0≤aX t l:=by rw [hn];exact ase (by omega) (by omega)
 have hn1:aX t l≤1048576:=by
  rw [hn]
  apply Classical.byContradiction
  intro e
  unfold a9 at hk
  rw [if_neg qu,if_neg (fun e2=>e2 hm),if_pos (.inr (by omega))] at hk;cases hk
 refine ⟨⟨⟨rfl,rfl,hk,rfl,by omega,hn0,rfl⟩,trivial⟩,?_⟩
 intro t' l' n i _ h
 obtain ⟨e1,e2,_,e3,h0,h1,h2⟩:=h
 rw [e1,e2,e3]
 rw [e3] at h1
 refine aa (fun hi=> ?_) (fun hi=> ?_)
 ·have hi:=au hi
  have hii:i.toNat<(aX t l).toNat:=by omega
  have m1:(i+1)*aF t≤l.length:=by
   rw [hlen2,Int.mul_comm (aF t)]
   exact aw3 (by omega) (by omega)
  have m0:0≤i*aF t:=awX h0 (by omega)
  have m2:(i+1)*aF t=i*aF t+aF t:=by rw [Int.add_mul,Int.one_mul]
  have q1:(i*aF t).toNat=i.toNat*(aF t).toNat:=Int.toNat_mul h0 (by omega)
  have q2:((i+1)*aF t).toNat=(i.toNat+1)*(aF t).toNat:=by rw [Int.toNat_mul (by omega) (by omega),show (i+1).toNat=i.toNat+1 from by omega]
  have ev:ar1 (i*aF t).toNat (ar0 ((i+1)*aF t).toNat l)=qn t l i.toNat:=by rw [q1,q2];rfl
  rw [ev]
  have hB:jf (qn t l i.toNat)∧(qn t l i.toNat).length≤1000:=by
   refine ⟨FS hl.1 _ _,?_⟩
   unfold qn
   rw [eH,ajw]
   omega
  have nx:BC t (qn t l i.toNat)=true→(-9223372036854775808≤i+1∧i+1≤9223372036854775807)∧(t=t∧l=l∧a9 t l=0∧aX t l=aX t l∧0≤i+1∧i+1≤aX t l∧tQ t l (i+1).toNat=true)∧(aX t l-(i+1)).toNat<(aX t l-i).toNat:=fun hv=>by
   refine ⟨by omega,⟨rfl,rfl,hk,rfl,by omega,by omega,?_⟩,by omega⟩
   rw [show (i+1).toNat=i.toNat+1 from by omega,tQ,h2,hv];rfl
  have hF:t=3→jf (qn t l i.toNat)∧True:=fun _=>⟨hB.1,trivial⟩
  refine ⟨trivial,by omega,by omega,trivial,by omega,⟨m0,by omega,m1⟩,aa (fun c3=> ?_) (fun c3=> ?_)⟩
  ·have c3:=au c3
   refine ⟨hB,cf (decide_eq_false (by omega)) (aa (fun k=> ?_) (fun k=> ?_))⟩
   ·refine Qq hk hii ?_
    rw [c3,Xm,← c3]
    cases hf:Rp (qn t l i.toNat) with
    | false=>rfl
    | true=>exact absurd ((FY _).2 hf) (au k)
   ·refine nx ?_
    rw [c3,Xm,← c3]
    exact (FY _).1 (by simpa using aw k)
  ·have c3:=aw c3
   refine aa (fun c4=> ?_) (fun c4=> ?_)
   ·have c4:=au c4
    refine ⟨hB,aa (fun k=> ?_) (fun k=> ?_)⟩
    ·refine Qq hk hii ?_
     rw [c4,Xc,← c4]
     cases hf:xX (qn t l i.toNat) with
     | false=>rfl
     | true=>exact absurd ((GH _).2 hf) (au k)
    ·refine nx ?_
     rw [c4,Xc,← c4]
     exact (GH _).1 (by simpa using aw k)
   ·have c4:=aw c4
    refine nx ?_
    unfold BC
    rw [if_neg c3,if_neg c4]
 ·have hi:=aw hi
  unfold cG
  rw [if_neg (fun e=>e hk),show (aX t l).toNat=i.toNat from by omega,h2];rfl
theorem c50:(base.with ah5).Ok:=ab c49 (ai aql c49 Tryz.func50 (by kernel_rfl) Tryz.call50 (by kernel_rfl) auF)
theorem avu:P23:=by
 delta P23 lM
 intro k t c l _ hl
 refine ⟨trivial,aa (fun h=> ?_) (fun h=>aa (fun h2=>fun _=> ?_) (fun h2=>⟨hl,fun _=>hl,?_⟩))⟩
 ·unfold fA
  rw [decide_eq_false (au h)];rfl
 ·unfold fA
  have h:cV k t c [] =0:=by simpa using aw h
  rw [decide_eq_true h,h2];rfl
 ·unfold fA
  have h:cV k t c [] =0:=by simpa using aw h
  rw [decide_eq_true h,h2,Bool.and_assoc];rfl
theorem c23:(base.with aii).Ok:=ab c50 (ai am c50 Tryz.func23 (by kernel_rfl) Tryz.call23 (by kernel_rfl) avu)
def cY (x:Int) (b:LD) (t:List Int):Nat→List Int×Int
 | 0=>(t,0)
 | j+1=>((cY x b t j).1.set j (eO (gI (cY x b t j).1 j) x (rv b j) (cY x b t j).2),cT (gI (cY x b t j).1 j) x (rv b j) (cY x b t j).2)
def lU (k:Int) (m:LD) (t:List Int) (c:Int):Nat→List Int×Int
 | 0=>(t,c)
 | j+1=>((lU k m t c j).1.set j (eO (gI (lU k m t c j).1 (j+1)) k (rv m (j+1)) (lU k m t c j).2),cT (gI (lU k m t c j).1 (j+1)) k (rv m (j+1)) (lU k m t c j).2)
def zZ (n:Nat) (r:List Int×Int):List Int:=(r.1.set n (dc (gI r.1 n) r.2 0)).set (n+1) (dj (gI r.1 n) r.2 0)
def oH (v:Int) (t:List Int):Int:=IntKind.u64.wrap (gI t 0*v)
def mW (m:LD) (v:Int) (t:List Int) (j:Nat):List Int×Int:=lU (oH v t) m t (cT (gI t 0) (oH v t) (rv m 0) 0) j
def BB (n:Nat) (r:List Int×Int):List Int:=(r.1.set (n-1) (dc (gI r.1 n) r.2 0)).set n (IntKind.u64.wrap (gI (r.1.set (n-1) (dc (gI r.1 n) r.2 0)) (n+1)+dj (gI r.1 n) r.2 0))
def Hr (m b:LD) (v x:Int) (t:List Int):List Int:=BB m.length (mW m v (zZ m.length (cY x b t m.length)) (m.length-1))
def iC (m b:LD) (v:Int) (a:LD):Nat→List Int
 | 0=>ab0 (m.length+2) 0
 | i+1=>Hr m b v (rv a i) (iC m b v a i)
def qt (m b:LD) (v:Int) (a:LD):List Int:=iC m b v a a.length
def eL (m b:LD) (v:Int) (a:LD):LD:=n9 m (((qt m b v a).take m.length).map ae) (gI (qt m b v a) m.length)
def ary:Ct:= {ps:= [u64,u64,u64,u64],bs:= [],pre:=fun | [.i a,.i x,.i y,.i c] =>ap a∧ap x∧ap y∧ap c | _=>False,res:=fun | [.i a,.i x,.i y,.i c] => .ret (.tup [u64,u64]) [] [.i (eO a x y c),.i (cT a x y c)] | _=>ag}
def nP (a b m:LD) (v:Int):Prop:=aI a∧aI b∧aI m∧ap v∧b.length=m.length∧2≤m.length
def O8:Ct:= {ps:= [.ptr 0 0,aK,aK],bs:= [qM],pre:=fun | [.r a,.r b,.r m,.i v,.r _] =>nP a b m v | _=>False,res:=fun | [.r a,.r b,.r m,.i v,.r q] => .ret aK [qM] [.r (eL m b v a),.r m,.i v,.r q] | _=>ag}
def EK:List (Nat×Pat):= [(0,.ptr 0 0),(2,aK),(7,i64),(8,.own 1),(25,aK),(26,i64),(27,i64)]
def akQ:List Dat→Ann
 | [.r a,.r b,.r m,.i v,.r q] =>⟨[(23,[la 151 [(0,.ptr 0 0),(7,i64),(8,aK)] [qM] (fun | [.i n,.r t,.r m',.i v',.r q'] =>n=m.length∧t=(qt m b v a).map ae∧m'=m∧v'=v∧q'=q | _=>False) jS])],
   [(4,[la 151 EK [qM,ow] (fun | [.r b',.i n,.r a',.i na,.i i,.r m',.i v',.r q',.r t] =>b'=b∧n=m.length∧a'=a∧na=a.length∧0≤i∧i≤na∧m'=m∧v'=v∧q'=q∧t=(iC m b v a i.toNat).map ae | _=>False) (fun | [_,_,_,.i na,.i i,_,_,_,_] =>(na-i).toNat | _=>0)])],
   [ (8,[la 151 (EK++ [(10,u64),(11,u64),(31,aK),(32,i64),(33,i64)]) [qM,ow] (fun _=>True) jS],fun
     | [.r b0,.i n0,.i x0,.i c0,.r a0,.i na0,.i i0,.r bb0,.i nb0,.i j0,.r m0,.i v0,.r q0,.r t0] => [la 151 (EK++ [(10,u64),(11,u64),(31,aK),(32,i64),(33,i64)]) [qM,ow]
      (fun | [.r b',.i n,.i x,.i c,.r a',.i na,.i i,.r bb,.i nb,.i j,.r m',.i v',.r q',.r t] =>b'=b∧n=m.length∧x=x0∧a'=a∧na=na0∧i=i0∧bb=b∧nb=m.length∧0≤j∧j≤nb∧m'=m∧v'=v∧q'=q∧t=(cY x0 b (iC m b v a i0.toNat) j.toNat).1.map ae∧c=(cY x0 b (iC m b v a i0.toNat) j.toNat).2 | _=>False)
      (fun | [_,_,_,_,_,_,_,_,.i nb,.i j,_,_,_,_] =>(nb-j).toNat | _=>0)]
     | _=> []),
    (17,[la 151 (EK++ [(11,u64),(15,u64),(16,i64)]) [qM,ow] (fun _=>True) jS],fun
     | [.r b0,.i n0,.i c0,.i k0,.i j0,.r a0,.i na0,.i i0,.r m0,.i v0,.r q0,.r t0] => [la 151 (EK++ [(11,u64),(15,u64),(16,i64)]) [qM,ow]
      (fun | [.r b',.i n,.i c,.i k,.i j,.r a',.i na,.i i,.r m',.i v',.r q',.r t] =>b'=b∧n=m.length∧k=k0∧1≤j∧j≤n∧a'=a∧na=na0∧i=i0∧m'=m∧v'=v∧q'=q∧t=(mW m v (zZ m.length (cY (rv a i0.toNat) b (iC m b v a i0.toNat) m.length)) (j.toNat-1)).1.map ae∧c=(mW m v (zZ m.length (cY (rv a i0.toNat) b (iC m b v a i0.toNat) m.length)) (j.toNat-1)).2 | _=>False)
      (fun | [_,.i n,_,_,.i j,_,_,_,_,_,_,_] =>(n-j).toNat | _=>0)]
     | _=> [])]⟩
 | _=> {cut:= [],loop:= []}
def avK:Prop:=
 ∀ (a b c d:Int),
 ap a∧ap b∧ap c∧ap d→
 (ap b∧ap c)∧
 (ap (b*c%(18446744073709551616:Int))∧ap a∧(0:Int)≤0∧(0:Int)≤1)∧
 (ap (dc (b*c%(18446744073709551616:Int)) a 0)∧
 ap d∧(0:Int)≤0∧(0:Int)≤1)∧
 dc (dc (b*c%(18446744073709551616:Int)) a 0) d 0=
 eO a b c d∧
 IntKind.u64.wrap
 (IntKind.u64.wrap (b*c / 18446744073709551616+dj (b*c%(18446744073709551616:Int)) a 0)+
 dj (dc (b*c%(18446744073709551616:Int)) a 0) d 0)=
 cT a b c d
def Yq:ac:=ak aii 249 (aq ary)
abbrev tM (a:LD):Int:=
 ↑a.length+2
abbrev jL (a:Int)(b:LD):Prop:=
 a=↑b.length
abbrev oa (a:Int)(b:LD):Prop:=
 a.toNat<b.length
abbrev cI (a:Int)(b:LD):Int:=
 ((b.getD a.toNat []).getD 0 (.int 0)).toInt
abbrev D2 (a b:Int)(c:LD):LD:=
 c.set a.toNat ((c.getD a.toNat []).set 0 (.int (dc (cI a c) b 0)))
abbrev xA (a b:Int)(c:LD):LD:=
 (D2 a b c).set (a+1).toNat
 (((D2 a b c).getD (a+1).toNat []).set 0
 (.int (dj (cI a c) b 0)))
abbrev rj (a b:Int)(c:LD):Int:=
 (((xA a b c).getD 0 []).getD 0 (.int 0)).toInt
abbrev wX (a b:Int)(c d e:LD):List Int:=
 zZ c.length
 (cY (rv d a.toNat) e (iC c e b d a.toNat) c.length)
abbrev tW (a b:Int)(c:LD):LD:=
 c.set (a-(1:Int)).toNat
 ((c.getD (a-(1:Int)).toNat []).set 0 (.int (dc (cI a c) b 0)))
def aeN:Prop:=
 ∀ (a b c:LD) (d:Int) (e:LD),
 lM a→
 lM b→
 lM c→
 lM e→
 nP a b c d→
 lM c→
 iR (tM c)∧
 (0≤tM c∧
 tM c≤tM c∧
 (↑(8:Nat):Int)*tM c≤140737488355328∧
 tM c≤9223372036854775807)∧
 (lM a→
 ((b=b∧
 (↑c.length:Int)=(↑c.length:Int)∧
 a=a∧
 (↑a.length:Int)=(↑a.length:Int)∧
 (0:Int)≤0∧
 0≤(↑a.length:Int)∧
 c=c∧
 d=d∧
 e=e∧
 ab0 (tM c).toNat [.int 0] =
 asv ae (iC c b d a 0))∧
 True)∧
 ∀ (f:LD) (g:Int) (h:LD) (i j:Int) (k:LD) (m:Int) (o p:LD),
 lM f→
 lM h→
 lM k→
 lM o→
 lM p→
 f=b∧
 jL g c∧
 h=a∧
 jL i a∧
 0≤j∧
 j≤i∧
 k=c∧
 m=d∧
 o=e∧p=asv ae (iC c b d a j.toNat)→
 bif decide (j<i) then
 bR j h∧
 oa j h∧
 (lM f→
 ((f=b∧
 jL g c∧
 cI j h=cI j h∧
 h=a∧
 i=i∧
 j=j∧
 f=b∧
 (↑f.length:Int)=(↑c.length:Int)∧
 (0:Int)≤0∧
 0≤(↑f.length:Int)∧
 k=c∧
 m=d∧
 o=e∧
 p=
 asv ae
 (cY (cI j h) b
 (iC c b d a j.toNat) 0).fst∧
 (0:Int)=
 (cY (cI j h) b
 (iC c b d a j.toNat) 0).snd)∧
 True)∧
 ∀ (q:LD) (r s t:Int) (u:LD) (v w:Int) (x:LD) (y z:Int)
 (A:LD) (B:Int) (D F:LD),
 lM q→
 lM u→
 lM x→
 lM A→
 lM D→
 lM F→
 q=b∧
 jL r c∧
 s=cI j h∧
 u=a∧
 v=i∧
 w=j∧
 x=b∧
 jL y c∧
 0≤z∧
 z≤y∧
 A=c∧
 B=d∧
 D=e∧
 F=
 asv ae
 (cY
 (cI j h) b
 (iC c b d a j.toNat) z.toNat).fst∧
 t=
 (cY
 (cI j h) b
 (iC c b d a j.toNat) z.toNat).snd→
 bif decide (z<y) then
 bR z x∧
 oa z x∧
 bR z F∧
 oa z F∧
 (ap (cI z F)∧
 ap s∧
 ap (cI z x)∧
 ap t)∧
 bR z F∧
 oa z F∧
 iR (z+1)∧
 (q=b∧
 jL r c∧
 s=cI j h∧
 u=a∧
 v=i∧
 w=j∧
 x=b∧
 jL y c∧
 0≤z+1∧
 z+1≤y∧
 A=c∧
 B=d∧
 D=e∧
 F.set z.toNat
 ((F.getD z.toNat []).set 0
 (.int
 (eO
 (cI z F) s
 (cI z x) t)))=
 asv ae
 (cY
 (cI j h) b
 (iC c b d a j.toNat)
 (z+1).toNat).fst∧
 cT
 (cI z F) s
 (cI z x) t=
 (cY
 (cI j h) b
 (iC c b d a j.toNat)
 (z+1).toNat).snd)∧
 (y-(z+1)).toNat<(y-z).toNat
 else
 bR r F∧
 oa r F∧
 (ap (cI r F)∧
 ap t∧(0:Int)≤0∧(0:Int)≤1)∧
 bR r F∧
 oa r F∧
 iR (r+1)∧
 bR (r+1)
 (D2 r t F)∧
 (r+1).toNat<(D2 r t F).length∧
 bR 0
 (xA r t F)∧
 (0:Nat)<(xA r t F).length∧
 bR 0
 (xA r t F)∧
 (0:Nat)<(xA r t F).length∧
 bR 0 A∧
 (0:Nat)<A.length∧
 (ap
 (rj r t F)∧
 ap
 (IntKind.u64.wrap (rj r t F*B))∧
 ap
 ((A.getD 0 []).getD 0 (.int 0)).toInt∧
 ap 0)∧
 ((q=b∧
 jL r c∧
 IntKind.u64.wrap (rj r t F*B)=
 IntKind.u64.wrap
 (rj r t F*B)∧
 (1:Int)≤1∧
 1≤r∧
 u=a∧
 v=v∧
 w=w∧
 A=c∧
 B=d∧
 D=e∧
 xA r t F=
 asv ae
 (mW c d
 (wX w d c
 a b)
 0).fst∧
 cT
 (rj r t F)
 (IntKind.u64.wrap
 (rj r t F *
 B))
 ((A.getD 0 []).getD 0
 (.int 0)).toInt
 0=
 (mW c d
 (wX w d c a
 b)
 0).snd)∧
 True)∧
 ∀ (G:LD) (H I J K:Int) (L:LD)
 (M N:Int) (O:LD) (R:Int) (S T:LD),
 lM G→
 lM L→
 lM O→
 lM S→
 lM T→
 G=b∧
 jL H c∧
 J=
 IntKind.u64.wrap
 (rj r t F*B)∧
 1≤K∧
 K≤H∧
 L=a∧
 M=v∧
 N=w∧
 O=c∧
 R=d∧
 S=e∧
 T=
 asv
 ae
 (mW
 c d
 (wX
 w d c a b)
 (K.toNat-(1:Nat))).fst∧
 I=
 (mW c
 d
 (wX
 w d c a b)
 (K.toNat-(1:Nat))).snd→
 bif decide (K<H) then
 iR (K-(1:Int))∧
 bR K T∧
 oa K T∧
 bR K O∧
 oa K O∧
 (ap
 (cI K T)∧
 ap J∧
 ap
 (cI K
 O)∧
 ap I)∧
 bR (K-(1:Int))
 T∧
 (K-(1:Int)).toNat<T.length∧
 iR
 (K+1)∧
 (G=b∧
 jL H
 c∧
 J=
 IntKind.u64.wrap
 (rj
 r t F *
 B)∧
 1≤K+1∧
 K+1≤H∧
 L=a∧
 M=v∧
 N=w∧
 O=c∧
 R=d∧
 S=e∧
 T.set
 (K -
 (1:
 Int)).toNat
 ((T.getD
 (K -
 (1:
 Int)).toNat
 []).set
 0
 (.int
 (eO
 (cI
 K T)
 J
 (cI
 K O)
 I)))=
 asv
 ae
 (mW
 c d
 (wX
 w d c a b)
 ((K+
 (1:
 Int)).toNat -
 (1:
 Nat))).fst∧
 cT
 (cI
 K T)
 J
 (cI
 K O)
 I=
 (mW
 c d
 (wX
 w d c a b)
 ((K+
 (1:
 Int)).toNat -
 (1:
 Nat))).snd)∧
 (H-(K+1)).toNat<(H-K).toNat
 else
 iR (H-(1:Int))∧
 bR H T∧
 oa H T∧
 (ap
 (cI H T)∧
 ap I∧
 (0:Int)≤0∧(0:Int)≤1)∧
 bR (H-(1:Int)) T∧
 (H-(1:Int)).toNat<T.length∧
 iR
 (H+1)∧
 bR
 (H+1)
 (tW H I
 T)∧
 (H+1).toNat <
 (tW H I
 T).length∧
 bR H
 (tW H
 I T)∧
 H.toNat <
 (tW
 H I T).length∧
 iR
 (N+1)∧
 (G=b∧
 jL
 H c∧
 L=a∧
 jL
 M a∧
 0≤N+1∧
 N+1≤M∧
 O=c∧
 R=d∧
 S=e∧
 (tW
 H I T).set
 H.toNat
 (((tW
 H I
 T).getD
 H.toNat
 []).set
 0
 (.int
 (IntKind.u64.wrap
 ((((tW
 H
 I
 T).getD
 (H+
 (1:
 Int)).toNat
 []).getD
 (0:
 Nat)
 (.int
 (0:
 Int))).toInt+
 dj
 (cI
 H T)
 I
 (0:
 Int)))))=
 asv
 ae
 (iC
 c b d a
 (N+
 (1:
 Int)).toNat))∧
 (M-(N+1)).toNat <
 (i-j).toNat)
 else
 (jL g c∧
 p=asv ae (qt c b d a)∧k=c∧m=d∧o=e)∧
 True)∧
 ∀ (f:Int) (g h:LD) (i:Int) (j:LD),
 lM g→
 lM h→
 lM j→
 jL f c∧
 g=asv ae (qt c b d a)∧h=c∧i=d∧j=e→
 ((0:Int)≤0∧0≤f∧f≤(↑g.length:Int))∧
 bR f g∧
 oa f g∧
 (aI (ar1 0 (ar0 f.toNat g))∧aI h)∧
 n9 h (ar1 0 (ar0 f.toNat g)) (cI f g)=
 eL c b d a∧
 h=c∧i=d∧j=e
def PB:ac:=ak Yq 246 (aq O8)
theorem aoB:avK:=by
 rintro a x y c ⟨ha,hx,hy,hc⟩
 have iw:∀ z:Int,ap (z%18446744073709551616):=fun z=>by unfold ap;omega
 refine ⟨⟨hx,hy⟩,⟨iw _,ha,by omega,by omega⟩,⟨xd _ _ _,hc,by omega,by omega⟩,?_⟩
 have hb:=C2 ha hx hy hc
 unfold ap at ha hc
 have h1:0≤x*y:=awX hx.1 hy.1
 simp only [xJ]
 unfold eO cT dc dj
 generalize x*y=m at *
 refine ⟨by omega,by omega⟩
theorem ac9:(base.with Yq).Ok:=ab c23 (ai am c23 Tryz.func249 (by kernel_rfl) Tryz.call249 (by kernel_rfl) aoB)
def wl (k:Nat) (t:List Int):Prop:=t.length=k∧∀ j,ap (gI t j)
theorem tl {k:Nat} {t:List Int} (h:wl k t) (i:Nat) {x:Int} (hx:ap x):wl k (t.set i x):=by
 refine ⟨by rw [df];exact h.1,fun j=> ?_⟩
 unfold gI
 rw [ay,asX]
 split
 ·split
  ·exact hx
  ·exact ⟨by decide,by decide⟩
 ·rw [← ay];exact h.2 j
theorem KC (k:Nat):wl k (ab0 k 0):=⟨asy,fun j=>by
 unfold gI
 rw [ay,awV]
 split <;>exact ⟨by decide,by decide⟩⟩
theorem EV {k:Nat} {x:Int} {b:LD} {t:List Int} (hx:ap x) (hb:cQ b) (ht:wl k t):∀ j,wl k (cY x b t j).1∧ap (cY x b t j).2
 | 0=>⟨ht,bl⟩
 | j+1=>by
  have ⟨h1,h2⟩:=EV hx hb ht j
  exact ⟨tl h1 j (wD ..),sD (h1.2 j) hx (hb j) h2⟩
theorem Rh {n:Nat} {k c:Int} {m:LD} {t:List Int} (hk:ap k) (hm:cQ m) (hc:ap c) (ht:wl n t):∀ j,wl n (lU k m t c j).1∧ap (lU k m t c j).2
 | 0=>⟨ht,hc⟩
 | j+1=>by
  have ⟨h1,h2⟩:=Rh hk hm hc ht j
  exact ⟨tl h1 j (wD ..),sD (h1.2 (j+1)) hk (hm (j+1)) h2⟩
theorem Jk {k n:Nat} {r:List Int×Int} (h:wl k r.1∧ap r.2):wl k (zZ n r):=tl (tl h.1 _ (xd ..)) _ (ZK (h.1.2 n) h.2 ⟨by decide,by decide⟩)
theorem Dd {n:Nat} {v:Int} {m:LD} {t:List Int} (hm:cQ m) (ht:wl n t) (j:Nat):wl n (mW m v t j).1∧ap (mW m v t j).2:=Rh (mJ _) hm (sD (ht.2 0) (mJ _) (hm 0) ⟨by decide,by decide⟩) ht j
theorem aih {k n:Nat} {r:List Int×Int} (h:wl k r.1∧ap r.2):wl k (BB n r):=tl (tl h.1 _ (xd ..)) _ (mJ _)
theorem yg {a b m:LD} {v:Int} (ha:cQ a) (hb:cQ b) (hm:cQ m):∀ i,wl (m.length+2) (iC m b v a i)
 | 0=>KC _
 | i+1=>aih (Dd hm (Jk (EV (ha i) hb (yg ha hb hm i) _)) _)
theorem FX {n k:Nat} {t:List Int} (h:wl n t) (hk:k≤n):wl k (t.take k):=by
 refine ⟨by rw [ajw,h.1];omega,fun j=> ?_⟩
 unfold gI
 rw [ay]
 by_cases hj:j<k
 ·rw [awU hj,← ay];exact h.2 j
 ·rw [gd (by rw [ajw];omega)];exact bl
theorem sR (L:List Int) (i:Nat) (x:Int):(L.map ae).set i (((L.map ae).getD i []).set 0 (CD.int x))=(L.set i x).map ae:=by
 by_cases h:i<L.length
 ·exact xg L i x h
 ·rw [axF (by rw [bp];omega),axF (by omega)]
theorem ii (L:List Int) (i:Nat):rv (L.map ae) i=gI L i:=da L i
set_option maxHeartbeats 1000000 in
theorem amw:aeN:=by
 delta aeN lM iR bR tM jL oa cI D2 xA rj wX tW
 intro a b m v q _ _ _ _ hp _
 obtain ⟨ha,hb,hm,hv,hbm,h2⟩:=hp
 have la:=ha.1
 have lm:=hm.1
 have hT:=fun i=>yg (v:=v) ha.2 hb.2 hm.2 i
 refine ⟨by omega,⟨by omega,by omega,by omega,by omega⟩,⟨fun _=>⟨⟨⟨rfl,rfl,rfl,rfl,by omega,by omega,rfl,rfl,rfl,?_⟩,trivial⟩,?_⟩,?_⟩⟩
 case' refine_3=>
  intro n t m2 v2 q2 _ _ _ h
  obtain ⟨e1,e2,e3,e4,e5⟩:=h
  rw [e1,e2,e3,e4,e5]
  have h3:wl (m.length+2) (qt m b v a):=hT a.length
  have n0:((m.length:Int)).toNat=m.length:=by omega
  have hk:=FX (k:=m.length) h3 (by omega)
  simp only [n0,gc,ii,as8,bp]
  rw [show (qt m b v a).length=m.length+2 from h3.1,← List.map_take]
  exact ⟨by omega,by omega,by omega,⟨⟨by rw [bp,hk.1];exact lm,fun j=>by rw [ii];exact hk.2 j⟩,hm⟩,by repeat' first | exact trivial | rfl | apply And.intro⟩
 ·show _=asv ae (ab0 (m.length+2) 0)
  rw [aw0,show ((m.length:Int)+2).toNat=m.length+2 from by omega];rfl
 intro b' n a' na i m' v' q' t _ _ _ _ _ h
 obtain ⟨e1,e2,e3,e4,i0,i1,e6,e7,e8,e9⟩:=h
 rw [e1,e2,e3,e4,e6,e7,e8,e9]
 rw [e4] at i1
 clear e1 e2 e3 e4 e6 e7 e8 e9
 have ht:=hT i.toNat
 have hs:iC m b v a (i.toNat+1)=Hr m b v (rv a i.toNat) (iC m b v a i.toNat):=rfl
 obtain ⟨t,et⟩:∃ t,t=iC m b v a i.toNat:=⟨_,rfl⟩
 rw [← et] at ht hs
 refine aa (fun hi=> ?_) (fun hi=> ?_)
 ·have hi:=au hi
  refine ⟨⟨i0,hi⟩,by omega,fun _=>⟨⟨⟨rfl,rfl,rfl,rfl,rfl,rfl,rfl,by omega,by omega,by omega,rfl,rfl,rfl,rfl,rfl⟩,trivial⟩,?_⟩⟩
  rw [gc]
  intro b2 n2 x c a2 na2 i2 bb nb j m2 v2 q2 u _ _ _ _ _ _ h
  obtain ⟨e1,e2,e3,e4,e5,e6,e7,e8,j0,j1,EG,e11,e12,e13,e14⟩:=h
  rw [e1,e2,e3,e4,e5,e6,e7,e8,EG,e11,e12,e13,e14]
  rw [e8] at j1
  clear e1 e2 e3 e4 e5 e6 e7 e8 EG e11 e12 e13 e14
  have hx:=ha.2 i.toNat
  have hM:=fun j=>EV (k:=m.length+2) hx hb.2 ht j
  refine aa (fun hj=> ?_) (fun hj=> ?_)
  ·have hj:=au hj
   have hw:=hM j.toNat
   simp only [gc,sR,ii,bp,df,← et,hw.1.1]
   have en:(j+1).toNat=j.toNat+1:=by omega
   rw [en]
   repeat' first
    | exact trivial
    | rfl
    | exact hw.1.2 _
    | exact hx
    | exact hb.2 _
    | exact hw.2
    | omega
    | apply And.intro
  ·have hj:=aw hj
   have hjn:j.toNat=m.length:=by omega
   rw [hjn]
   have hw:=hM m.length
   have h1:=Jk (n:=m.length) hw
   have hs1:zZ m.length (cY (rv a i.toNat) b t m.length)=((cY (rv a i.toNat) b t m.length).1.set m.length (dc (gI (cY (rv a i.toNat) b t m.length).1 m.length) (cY (rv a i.toNat) b t m.length).2 0)).set (m.length+1) (dj (gI (cY (rv a i.toNat) b t m.length).1 m.length) (cY (rv a i.toNat) b t m.length).2 0):=rfl
   have n1:((m.length:Int)+1).toNat=m.length+1:=by omega
   have n0:((m.length:Int)).toNat=m.length:=by omega
   simp only [gc,sR,ii,bp,df,← et,hw.1.1,n0,n1]
   simp only [← hs1]
   obtain ⟨w,ew⟩:∃ w,w=zZ m.length (cY (rv a i.toNat) b t m.length):=⟨_,rfl⟩
   simp only [← ew]
   rw [← ew] at h1
   refine ⟨by omega,by omega,⟨hw.1.2 _,hw.2,by decide,by decide⟩,by omega,by omega,by omega,by omega,by omega,by omega,by omega,by omega,by omega,by omega,by omega,⟨h1.2 0,mJ _,hm.2 0,bl⟩,⟨?_,trivial⟩,?_⟩
   ·repeat' first
     | exact trivial
     | rfl
     | omega
     | apply And.intro
   intro b3 n3 c3 k3 j3 a3 na3 i3 m3 v3 q3 u3 _ _ _ _ _ h
   obtain ⟨f1,f2,f3,g0,g1,f6,f7,f8,f9,f10,f11,f12,f13⟩:=h
   rw [f1,f2,f3,f6,f7,f8,f9,f10,f11,f12,f13]
   rw [f2] at g1
   clear f1 f2 f3 f6 f7 f8 f9 f10 f11 f12 f13
   refine aa (fun hj3=> ?_) (fun hj3=> ?_)
   ·have hj3:=au hj3
    obtain ⟨p,hp⟩:∃ p,p=j3.toNat-1:=⟨_,rfl⟩
    have p1:j3.toNat=p+1:=by omega
    have p2:(j3-1).toNat=p:=by omega
    have p3:(j3+1).toNat-1=p+1:=by omega
    have hw2:=Dd (v:=v) hm.2 h1 p
    simp only [p2,p3,p1,Nat.add_sub_cancel,gc,sR,ii,bp,df,hw2.1.1]
    refine ⟨by omega,by omega,by omega,by omega,by omega,⟨hw2.1.2 _,mJ _,hm.2 _,hw2.2⟩,by omega,by omega,by omega,?_,by omega⟩
    repeat' first
     | exact trivial
     | rfl
     | omega
     | apply And.intro
   ·have hj3:=aw hj3
    have p1:j3.toNat=m.length:=by omega
    have n3:((m.length:Int)-1).toNat=m.length-1:=by omega
    have hw3:=Dd (v:=v) hm.2 h1 (m.length-1)
    have en:(i+1).toNat=i.toNat+1:=by omega
    have hf:Hr m b v (rv a i.toNat) t=((mW m v w (m.length-1)).1.set (m.length-1) (dc (gI (mW m v w (m.length-1)).1 m.length) (mW m v w (m.length-1)).2 0)).set m.length (IntKind.u64.wrap (gI ((mW m v w (m.length-1)).1.set (m.length-1) (dc (gI (mW m v w (m.length-1)).1 m.length) (mW m v w (m.length-1)).2 0)) (m.length+1)+dj (gI (mW m v w (m.length-1)).1 m.length) (mW m v w (m.length-1)).2 0)):=by
     unfold Hr BB
     rw [← ew]
    simp only [p1,n0,n1,n3,gc,sR,ii,bp,df,hw3.1.1,en,hs,hf]
    refine ⟨by omega,by omega,by omega,⟨hw3.1.2 _,hw3.2,by decide,by decide⟩,by omega,by omega,by omega,by omega,by omega,by omega,by omega,by omega,?_,by omega⟩
    refine ⟨trivial,trivial,trivial,trivial,by omega,by omega,trivial,trivial,trivial,?_⟩
    exact trivial
 ·have hi:=aw hi
  have hn:i.toNat=a.length:=by omega
  rw [hn]
  exact ⟨⟨rfl,rfl,rfl,rfl,rfl⟩,trivial⟩
theorem afD:(base.with PB).Ok:=ab ac9 (ai akQ ac9 Tryz.func246 (by kernel_rfl) Tryz.call246 (by kernel_rfl) amw)
def ps (f:Nat→Int):Nat→Int
 | 0=>0
 | n+1=>ps f n+18446744073709551616 ^ n*f n
theorem iN {f g:Nat→Int} :∀ {n},(∀ i,i<n→f i=g i)→ps f n=ps g n
 | 0,_=>rfl
 | n+1,h=>by rw [ps,ps,iN fun i hi=>h i (by omega),h n (by omega)]
theorem r7 (n:Nat):(0:Int)<18446744073709551616 ^ n:=awP (by decide)
theorem i8 {f:Nat→Int} :∀ {n},(∀ i,i<n→ap (f i))→0≤ps f n∧ps f n<18446744073709551616 ^ n
 | 0,_=>⟨Int.le_refl 0,by show (0:Int)<1;decide⟩
 | n+1,h=>by
  have ⟨h1,h2⟩:=i8 (n:=n) fun i hi=>h i (by omega)
  have ⟨k1,k2⟩:=h n (by omega)
  have hp:=r7 n
  rw [ps,awM]
  have m1:0≤18446744073709551616 ^ n*f n:=awX (by omega) k1
  have m2:18446744073709551616 ^ n*f n≤18446744073709551616 ^ n*(18446744073709551616-1):=axj (by omega) (by omega)
  omega
theorem Cv {a b:LD} (ha:cQ a) (hb:cQ b):∀ n,(gJ a b n<0↔ps (rv a) n<ps (rv b) n)∧(gJ a b n=0↔ps (rv a) n=ps (rv b) n)
 | 0=>⟨⟨fun h=>absurd h (by show ¬ (0:Int)<0;decide),fun h=>absurd h (by show ¬ (0:Int)<0;decide)⟩,⟨fun _=>rfl,fun _=>rfl⟩⟩
 | n+1=>by
  have ⟨h1,h2⟩:=Cv ha hb n
  have ⟨a1,a2⟩:=i8 (n:=n) (f:=rv a) fun i _=>ha i
  have ⟨b1,b2⟩:=i8 (n:=n) (f:=rv b) fun i _=>hb i
  have hp:=r7 n
  have key:∀ x y:Int,x<y→18446744073709551616 ^ n*x+18446744073709551616 ^ n≤18446744073709551616 ^ n*y:=fun x y h=>by
   have:=axj (show x+1≤y by omega) (show (0:Int)≤18446744073709551616 ^ n by omega)
   rw [Int.mul_add,axD] at this
   exact this
  rw [gJ,ps,ps]
  unfold uo
  by_cases c1:rv a n<rv b n
  ·have:=key _ _ c1
   rw [if_pos c1]
   rw [if_neg (by decide)]
   exact ⟨⟨fun _=>by omega,fun _=>by decide⟩,⟨fun h=>absurd h (by decide),fun h=>by omega⟩⟩
  ·rw [if_neg c1]
   by_cases c2:rv b n<rv a n
   ·have:=key _ _ c2
    rw [if_pos c2,if_neg (by decide)]
    exact ⟨⟨fun h=>absurd h (by decide),fun h=>by omega⟩,⟨fun h=>absurd h (by decide),fun h=>by omega⟩⟩
   ·rw [if_neg c2,if_pos rfl,show rv a n=rv b n from by omega]
    exact ⟨⟨fun h=>by have:=h1.1 h;omega,fun h=>h1.2 (by omega)⟩,⟨fun h=>by have:=h2.1 h;omega,fun h=>h2.2 (by omega)⟩⟩
theorem cn (t:List Int) (i j:Nat) (x:Int):gI (t.set i x) j=if i=j then (if i<t.length then x else 0) else gI t j:=by
 unfold gI
 rw [ay,asX]
 split
 ·split <;>rfl
 ·rw [← ay]
theorem QE {a b:LD} (ha:cQ a) (hb:cQ b):∀ i,i≤cU a b→ps (gI (d7 a b i).1) i=ps (rv a) i-ps (rv b) i+18446744073709551616 ^ i*(d7 a b i).2
 | 0,_=>rfl
 | i+1,h=>by
  have ih:=QE ha hb i (by omega)
  have hc:=Yj a b i
  have hl:=wg a b i
  have he:=Fa (ha i) (hb i) hc
  rw [ps,ps,ps,d7]
  dsimp only
  rw [iN (f:=gI ((d7 a b i).1.set i _)) (g:=gI (d7 a b i).1) fun j hj=>by rw [cn,if_neg (by omega)],ih,cn,if_pos rfl,if_pos (by omega),he,awM]
  grind
theorem tK (L:List Int):rv (L.map ae)=gI L:=by funext i;exact da L i
theorem MB {m a:LD} {c V:Int} (ha:cQ a) (hm:cQ m) (hl:a.length=m.length) (hV:V=ps (rv a) m.length+18446744073709551616 ^ m.length*c) (h0:0≤c) (h2:V<2*ps (rv m) m.length):
  ps (rv (n9 m a c)) m.length=V%ps (rv m) m.length:=by
 have ⟨a1,a2⟩:=i8 (n:=m.length) (f:=rv a) fun i _=>ha i
 have ⟨b1,b2⟩:=i8 (n:=m.length) (f:=rv m) fun i _=>hm i
 have hmx:cU a m=m.length:=by unfold cU;omega
 have ⟨k1,_⟩:=Cv ha hm m.length
 unfold n9
 rw [hmx]
 by_cases hc:c=0∧gJ a m m.length<0
 ·rw [if_pos hc]
  have:=k1.1 hc.2
  rw [hc.1,axG,axH] at hV
  rw [hV,aw2 a1 this]
 ·rw [if_neg hc]
  have hge:ps (rv m) m.length≤V:=by
   by_cases e:c=0
   ·have:¬ gJ a m m.length<0:=fun h=>hc ⟨e,h⟩
    rw [k1] at this
    rw [hV,e];omega
   ·have:=axj (show 1≤c by omega) (show (0:Int)≤18446744073709551616 ^ m.length by have:=r7 m.length;omega)
    omega
  have h3:=QE ha hm m.length (by omega)
  have hw:=OJ a m m.length
  have ⟨r1,r2⟩:=i8 (n:=m.length) (f:=gI (d7 a m m.length).1) fun i _=>hw i
  rw [tK]
  have hd:0≤V-ps (rv m) m.length∧V-ps (rv m) m.length<ps (rv m) m.length:=by omega
  have he:V%ps (rv m) m.length=V-ps (rv m) m.length:=by
   have:V=V-ps (rv m) m.length+ps (rv m) m.length*1:=by omega
   rw [this,Int.add_mul_emod_self_left,aw2 hd.1 hd.2]
   omega
  rw [he]
  have hx:ps (gI (d7 a m m.length).1) m.length-(V-ps (rv m) m.length)=18446744073709551616 ^ m.length*((d7 a m m.length).2-c):=by rw [h3,hV];grind
  have hp:=r7 m.length
  have hz:(d7 a m m.length).2-c=0:=by
   rcases axI ((d7 a m m.length).2-c) 0 with h | h | h
   ·have:=axj (show (d7 a m m.length).2-c≤-1 by omega) (show (0:Int)≤18446744073709551616 ^ m.length by omega)
    omega
   ·exact h
   ·have:=axj (show 1≤(d7 a m m.length).2-c by omega) (show (0:Int)≤18446744073709551616 ^ m.length by omega)
    omega
  rw [hz,axG] at hx
  omega
theorem JV {x:Int} {b:LD} {t:List Int} :∀ (j i:Nat),j≤i→gI (cY x b t j).1 i=gI t i
 | 0,_,_=>rfl
 | j+1,i,h=>by rw [cY];dsimp only;rw [cn,if_neg (by omega),JV j i (by omega)]
theorem Gx {x:Int} {b:LD} {t:List Int} :∀ j,(cY x b t j).1.length=t.length
 | 0=>rfl
 | j+1=>by rw [cY];dsimp only;rw [df,Gx j]
theorem Od {x:Int} {b:LD} {t:List Int} :∀ j,j≤t.length→ps (gI (cY x b t j).1) j+18446744073709551616 ^ j*(cY x b t j).2=ps (gI t) j+x*ps (rv b) j
 | 0,_=>by simp [cY,ps]
 | j+1,h=>by
  have ih:=Od (x:=x) (b:=b) (t:=t) j (by omega)
  have he:=oC (gI (cY x b t j).1 j) x (rv b j) (cY x b t j).2
  have hh:=JV (x:=x) (b:=b) (t:=t) j j (ar5 j)
  rw [ps,ps,ps,cY]
  dsimp only
  rw [iN (f:=gI ((cY x b t j).1.set j _)) (g:=gI (cY x b t j).1) fun i hi=>by rw [cn,if_neg (by omega)],cn,if_pos rfl,if_pos (by rw [Gx];omega),awM]
  rw [hh] at he ⊢
  generalize eO (gI t j) x (rv b j) (cY x b t j).2=lo at *
  generalize cT (gI t j) x (rv b j) (cY x b t j).2=hi at *
  generalize (18446744073709551616:Int) ^ j=w at *
  grind
theorem Dw {k c:Int} {m:LD} {t:List Int} :∀ (j i:Nat),j≤i→gI (lU k m t c j).1 i=gI t i
 | 0,_,_=>rfl
 | j+1,i,h=>by rw [lU];dsimp only;rw [cn,if_neg (by omega),Dw j i (by omega)]
theorem Ft {k c:Int} {m:LD} {t:List Int} :∀ j,(lU k m t c j).1.length=t.length
 | 0=>rfl
 | j+1=>by rw [lU];dsimp only;rw [df,Ft j]
theorem MY {k c:Int} {m:LD} {t:List Int} (hc:18446744073709551616*c=gI t 0+k*rv m 0):∀ j,j<t.length→18446744073709551616*(ps (gI (lU k m t c j).1) j+18446744073709551616 ^ j*(lU k m t c j).2)=ps (gI t) (j+1)+k*ps (rv m) (j+1)
 | 0,_=>by
  show 18446744073709551616*(0+1*c)=0+1*gI t 0+k*(0+1*rv m 0)
  grind
 | j+1,h=>by
  have ih:=MY hc j (by omega)
  have hh:=Dw (k:=k) (c:=c) (m:=m) (t:=t) j (j+1) (by omega)
  have he:=oC (gI (lU k m t c j).1 (j+1)) k (rv m (j+1)) (lU k m t c j).2
  have e1:ps (gI t) (j+1+1)=ps (gI t) (j+1)+18446744073709551616 ^ (j+1)*gI t (j+1):=rfl
  have e2:ps (rv m) (j+1+1)=ps (rv m) (j+1)+18446744073709551616 ^ (j+1)*rv m (j+1):=rfl
  rw [e1,e2,ps,lU]
  dsimp only
  rw [iN (f:=gI ((lU k m t c j).1.set j _)) (g:=gI (lU k m t c j).1) fun i hi=>by rw [cn,if_neg (by omega)],cn,if_pos rfl,if_pos (by rw [Ft];omega),awM]
  rw [hh] at he ⊢
  generalize eO (gI t (j+1)) k (rv m (j+1)) (lU k m t c j).2=lo at *
  generalize cT (gI t (j+1)) k (rv m (j+1)) (lU k m t c j).2=hi at *
  generalize (18446744073709551616:Int) ^ j=w at *
  grind
theorem Z4 {m b:LD} {v x:Int} {t:List Int} (hx:ap x) (hb:cQ b) (hm:cQ m) (ht:wl (m.length+2) t) (hv:(rv m 0*v+1)%18446744073709551616=0) (h2:2≤m.length)
  (hV:ps (gI t) (m.length+1)<ps (rv b) m.length+ps (rv m) m.length):
  ∃ k,ap k∧18446744073709551616*ps (gI (Hr m b v x t)) (m.length+1)=ps (gI t) (m.length+1)+x*ps (rv b) m.length+k*ps (rv m) m.length:=by
 obtain ⟨n,hn⟩:∃ n,m.length=n+1:=⟨m.length-1,by omega⟩
 have hM:=EV (k:=m.length+2) hx hb ht m.length
 have hu:=Jk (n:=m.length) hM
 have v1:=Od (x:=x) (b:=b) (t:=t) m.length (by rw [ht.1];omega)
 have hi1:=JV (x:=x) (b:=b) (t:=t) m.length m.length (ar5 _)
 have hlen:=Gx (x:=x) (b:=b) (t:=t) m.length
 unfold Hr
 obtain ⟨u,eu⟩:∃ u,u=zZ m.length (cY x b t m.length):=⟨_,rfl⟩
 have un:gI u m.length=dc (gI t m.length) (cY x b t m.length).2 0:=by
  rw [eu,zZ,cn,if_neg (by omega),cn,if_pos rfl,if_pos (by rw [hlen,ht.1];omega),hi1]
 have un1:gI u (m.length+1)=dj (gI t m.length) (cY x b t m.length).2 0:=by
  rw [eu,zZ,cn,if_pos rfl,if_pos (by rw [df,hlen,ht.1];omega),hi1]
 have ul:ps (gI u) m.length=ps (gI (cY x b t m.length).1) m.length:=iN fun i hi=>by rw [eu,zZ,cn,if_neg (by omega),cn,if_neg (by omega)]
 have had:=A6 (x:=gI t m.length) (y:=(cY x b t m.length).2) (c:=0)
 rw [← un,← un1] at had
 rw [← eu] at hu ⊢
 have vt:ps (gI t) (m.length+1)=ps (gI t) m.length+18446744073709551616 ^ m.length*gI t m.length:=rfl
 have hk:=mJ (gI u 0*v)
 refine ⟨oH v u,hk,?_⟩
 have hc:18446744073709551616*cT (gI u 0) (oH v u) (rv m 0) 0=gI u 0+oH v u*rv m 0:=by
  have he:=oC (gI u 0) (oH v u) (rv m 0) 0
  have hz:eO (gI u 0) (oH v u) (rv m 0) 0=0:=by
   show (gI u 0+oH v u*rv m 0+0)%18446744073709551616=0
   unfold oH
   rw [gq,axH,axJ,axK,axL,← axK,← axJ]
   rw [show gI u 0+gI u 0*v*rv m 0=gI u 0*(rv m 0*v+1) from by grind,axK,hv,axG];rfl
  rw [hz] at he
  omega
 have v2:=MY (k:=oH v u) (m:=m) (t:=u) hc n (by rw [hu.1];omega)
 have hR:=Dd (v:=v) hm hu (m.length-1)
 have hh1:=Dw (k:=oH v u) (c:=cT (gI u 0) (oH v u) (rv m 0) 0) (m:=m) (t:=u) n m.length (by omega)
 have hh2:=Dw (k:=oH v u) (c:=cT (gI u 0) (oH v u) (rv m 0) 0) (m:=m) (t:=u) n (m.length+1) (by omega)
 have hl2:=Ft (k:=oH v u) (c:=cT (gI u 0) (oH v u) (rv m 0) 0) (m:=m) (t:=u) n
 have en:m.length-1=n:=by omega
 rw [en] at hR ⊢
 obtain ⟨r,er⟩:∃ r,r=mW m v u n:=⟨_,rfl⟩
 have er':lU (oH v u) m u (cT (gI u 0) (oH v u) (rv m 0) 0) n=r:=by rw [er];rfl
 rw [er'] at v2 hh1 hh2 hl2
 rw [← er] at hR ⊢
 have hadu:0≤dj (gI r.1 m.length) r.2 0∧dj (gI r.1 m.length) r.2 0≤1:=HZ (hR.1.2 _) hR.2 ⟨by decide,by decide⟩
 have hadv:0≤gI u (m.length+1)∧gI u (m.length+1)≤1:=by rw [un1];exact HZ (ht.2 _) hM.2 ⟨by decide,by decide⟩
 have had2:=A6 (x:=gI r.1 m.length) (y:=r.2) (c:=0)
 have g1:gI (BB m.length r) m.length=gI u (m.length+1)+dj (gI r.1 m.length) r.2 0:=by
  unfold BB
  rw [cn,if_pos rfl,if_pos (by rw [df,hl2,hu.1];omega),cn,if_neg (by omega),hh2]
  exact dw ⟨by omega,by omega⟩
 have g2:gI (BB m.length r) n=dc (gI r.1 m.length) r.2 0:=by
  unfold BB
  rw [cn,if_neg (by omega),cn,en,if_pos rfl,if_pos (by rw [hl2,hu.1];omega)]
 have g3:ps (gI (BB m.length r)) n=ps (gI r.1) n:=iN fun i hi=>by unfold BB;rw [cn,if_neg (by omega),cn,if_neg (by omega)]
 have hps:∀ F:Nat→Int,ps F m.length=ps F n+18446744073709551616 ^ n*F n:=fun F=>by rw [hn];rfl
 have w0:(18446744073709551616:Int) ^ m.length=18446744073709551616 ^ (n+1):=by rw [hn]
 have gs:ps (gI (BB m.length r)) (m.length+1)=ps (gI r.1) n+18446744073709551616 ^ n*dc (gI r.1 m.length) r.2 0+18446744073709551616 ^ (n+1)*(gI u (m.length+1)+dj (gI r.1 m.length) r.2 0):=by
  rw [ps,g1,hps,g3,g2,w0]
 rw [gs,vt]
 rw [hh1] at had2 ⊢
 rw [hn] at v1 ul had had2 un un1 ⊢
 have w1:(18446744073709551616:Int) ^ (n+1)=18446744073709551616 ^ n*18446744073709551616:=awM ..
 rw [w1] at v1 ⊢
 rw [ul] at v2
 generalize (18446744073709551616:Int) ^ n=w at *
 generalize dc (gI u (n+1)) r.2 0=s at *
 generalize dj (gI u (n+1)) r.2 0=d at *
 generalize ps (gI (cY x b t (n+1)).1) (n+1)=p at *
 generalize (cY x b t (n+1)).2=c at *
 clear hv hc un un1
 grind
theorem Mp {m b a:LD} {v:Int} (ha:cQ a) (hb:cQ b) (hm:cQ m) (hv:(rv m 0*v+1)%18446744073709551616=0) (h2:2≤m.length) (hM:0<ps (rv m) m.length):
  ∀ i,ps (gI (iC m b v a i)) (m.length+1)<ps (rv b) m.length+ps (rv m) m.length∧
   ∃ k:Int,18446744073709551616 ^ i*ps (gI (iC m b v a i)) (m.length+1)=ps (rv a) i*ps (rv b) m.length+k*ps (rv m) m.length
 | 0=>by
  have e:ps (gI (iC m b v a 0)) (m.length+1)=0:=by
   have:∀ n,ps (gI (ab0 (m.length+2) 0)) n=0:=fun n=>by
    induction n with
    | zero=>rfl
    | succ n ih=>
     rw [ps,ih]
     have:gI (ab0 (m.length+2) 0) n=0:=by
      unfold gI
      rw [ay,awV]
      split <;>rfl
     rw [this,axG];rfl
   exact this _
  rw [e]
  have hB:=i8 (n:=m.length) (f:=rv b) fun i _=>hb i
  exact ⟨by omega,0,by simp [ps]⟩
 | i+1=>by
  have ⟨h1,k1,h3⟩:=Mp ha hb hm hv h2 hM i
  obtain ⟨k,hk,hs⟩:=Z4 (ha i) hb hm (yg (v:=v) ha hb hm i) hv h2 h1
  have es:iC m b v a (i+1)=Hr m b v (rv a i) (iC m b v a i):=rfl
  rw [es]
  have hB:=(i8 (n:=m.length) (f:=rv b) fun i _=>hb i).1
  have hx:=ha i
  have m1:rv a i*ps (rv b) m.length≤18446744073709551615*ps (rv b) m.length:=aw3 (by have:=hx.2;omega) hB
  have m2:k*ps (rv m) m.length≤18446744073709551615*ps (rv m) m.length:=aw3 (by have:=hk.2;omega) (by omega)
  refine ⟨by omega,k1+18446744073709551616 ^ i*k,?_⟩
  have ea:ps (rv a) (i+1)=ps (rv a) i+18446744073709551616 ^ i*rv a i:=rfl
  rw [ea,awM]
  generalize ps (gI (Hr m b v (rv a i) (iC m b v a i))) (m.length+1)=y at *
  generalize ps (gI (iC m b v a i)) (m.length+1)=z at *
  generalize (18446744073709551616:Int) ^ i=w at *
  have:w*18446744073709551616*y=w*(18446744073709551616*y):=by grind
  rw [this,hs]
  grind
theorem Gv {m b a:LD} {v:Int} (hp:nP a b m v) (hv:(rv m 0*v+1)%18446744073709551616=0) (hM:0<ps (rv m) m.length) (hB:ps (rv b) m.length≤ps (rv m) m.length):
  (0≤ps (rv (eL m b v a)) m.length∧ps (rv (eL m b v a)) m.length<ps (rv m) m.length)∧
   ∃ k:Int,18446744073709551616 ^ a.length*ps (rv (eL m b v a)) m.length=ps (rv a) a.length*ps (rv b) m.length+k*ps (rv m) m.length:=by
 obtain ⟨ha,hb,hm,_,_,h2⟩:=hp
 have ⟨h1,k,h3⟩:=Mp ha.2 hb.2 hm.2 hv h2 hM a.length
 have hT:wl (m.length+2) (qt m b v a):=yg (v:=v) ha.2 hb.2 hm.2 a.length
 have hk:=FX (k:=m.length) hT (by omega)
 have e:ps (rv (eL m b v a)) m.length=ps (gI (qt m b v a)) (m.length+1)%ps (rv m) m.length:=by
  unfold eL
  refine MB (V:=ps (gI (qt m b v a)) (m.length+1)) (fun j=>by rw [ii];exact hk.2 j) hm.2 (by rw [bp,hk.1]) ?_ (hT.2 _).1 ?_
  ·rw [ps,tK]
   congr 1
   refine iN fun i hi=> ?_
   unfold gI
   rw [ay,ay,awU hi]
  ·show ps (gI (iC m b v a a.length)) (m.length+1)<_
   omega
 rw [e]
 refine ⟨⟨Int.emod_nonneg _ (by omega),axM _ hM⟩,k-18446744073709551616 ^ a.length*(ps (gI (qt m b v a)) (m.length+1) / ps (rv m) m.length),?_⟩
 have hd:=asd (ps (gI (qt m b v a)) (m.length+1)) (ps (rv m) m.length)
 have h3:18446744073709551616 ^ a.length*ps (gI (qt m b v a)) (m.length+1)=ps (rv a) a.length*ps (rv b) m.length+k*ps (rv m) m.length:=h3
 generalize ps (gI (qt m b v a)) (m.length+1)%ps (rv m) m.length=r at *
 generalize ps (gI (qt m b v a)) (m.length+1) / ps (rv m) m.length=d at *
 generalize ps (gI (qt m b v a)) (m.length+1)=y at *
 generalize (18446744073709551616:Int) ^ a.length=w at *
 rw [← hd] at h3
 grind
theorem abz {a c:Int} (ha:ap a) (hc:c=0∨c=1):iq .u64 (eG .u64 a 1) c=(2*a+c)%18446744073709551616:=by
 obtain ⟨n,rfl⟩:∃ n:Nat,a=n:=⟨a.toNat,by have:=ha.1;omega⟩
 obtain ⟨d,rfl⟩:∃ d:Nat,c=d:=⟨c.toNat,by omega⟩
 have h1:=Pg n 1 (by decide)
 rw [show ((1:Nat):Int)=1 from rfl] at h1
 rw [h1,Nat.pow_one]
 obtain ⟨y,hy⟩:∃ y,n*2%18446744073709551616=2*y:=⟨n*2%18446744073709551616 / 2,by omega⟩
 rw [hy]
 unfold iq
 have hlt:2*y<18446744073709551616:=by rw [← hy];exact as3 _ (by decide)
 have e1:abN IntKind.u64.bits ((2*y:Nat):Int)=axN 64 (2*y):=awF ..
 have e2:abN IntKind.u64.bits (d:Int)=axN 64 d:=awF ..
 rw [e1,e2]
 have e3:(axN 64 (2*y) |||axN 64 d).toNat=2*y+d:=by
  have hd2:d<2 ^ 64:=Nat.lt_trans (show d<2 by omega) (by decide)
  rw [BitVec.toNat_or,awG,awG,awC (show 2*y<2 ^ 64 from hlt),awC hd2]
  have:=Nat.two_pow_add_eq_or_of_lt (i:=1) (b:=d) (by omega) y
  rw [Nat.pow_one] at this
  exact this.symm
 show IntKind.u64.wrap (((axN 64 (2*y) |||axN 64 d).toNat:Nat):Int)=_
 rw [e3,gq]
 omega
theorem Ta {a:LD} {c:Int} (ha:cQ a) (hc:c=0∨c=1):∀ i,i≤a.length→((fy a c i).2=0∨(fy a c i).2=1)∧ps (gI (fy a c i).1) i+18446744073709551616 ^ i*(fy a c i).2=2*ps (rv a) i+c
 | 0,_=>⟨hc,by simp [fy,ps]⟩
 | i+1,h=>by
  have ⟨h1,ih⟩:=Ta ha hc i (by omega)
  have hw:=ha i
  have hl:=rC a c i
  rw [ps,ps,fy]
  dsimp only
  rw [iN (f:=gI ((fy a c i).1.set i _)) (g:=gI (fy a c i).1) fun j hj=>by rw [cn,if_neg (by omega)],cn,if_pos rfl,if_pos (by omega),abz hw h1]
  have e:aL .u64 (rv a i) 63=rv a i / 9223372036854775808:=by
   have:=Lu (rv a i) 63 (by decide)
   exact this
  rw [e,awM]
  have hw1:=hw.1
  have hw2:=hw.2
  have hd:(2*rv a i+(fy a c i).2)%18446744073709551616+18446744073709551616*(rv a i / 9223372036854775808)=2*rv a i+(fy a c i).2:=by omega
  refine ⟨by omega,?_⟩
  generalize (2*rv a i+(fy a c i).2)%18446744073709551616=lo at *
  generalize rv a i / 9223372036854775808=hi at *
  generalize (18446744073709551616:Int) ^ i=w at *
  grind
theorem N5 {m a:LD} {c:Int} (ha:cQ a) (hm:cQ m) (hl:a.length=m.length) (hc:c=0∨c=1) (h:ps (rv a) m.length<ps (rv m) m.length):
  ps (rv (Bz m a c)) m.length=(2*ps (rv a) m.length+c)%ps (rv m) m.length:=by
 have ⟨h1,h2⟩:=Ta ha hc a.length (ar5 _)
 unfold Bz
 refine MB (V:=2*ps (rv a) m.length+c) (fun j=>by rw [ii];exact Ie a c _ j) hm (by rw [bp,rC,hl]) ?_ (by omega) (by omega)
 rw [tK,← hl,← h2]
theorem MX {m:LD} (hm:aI m) (h0:0<m.length) (hM:1<ps (rv m) m.length):∀ i,ps (rv (qO m i)) m.length=2 ^ i%ps (rv m) m.length
 | 0=>by
  have e:qO m 0=((ab0 m.length 0).set 0 1).map ae:=by rw [qO,List.map_set,aw0];rfl
  rw [e,tK,axO,aw2 (by omega) hM]
  have:∀ n,0<n→n≤m.length→ps (gI ((ab0 m.length 0).set 0 1)) n=1:=fun n hn hle=>by
   induction n with
   | zero=>omega
   | succ n ih=>
    by_cases hz:n=0
    ·subst hz
     show 0+1*gI _ 0=1
     rw [cn,if_pos rfl,if_pos (by rw [asy];omega)];rfl
    ·rw [ps,ih (by omega) (by omega),cn,if_neg (by omega)]
     have:gI (ab0 m.length 0) n=0:=by
      unfold gI
      rw [ay,awV]
      split <;>rfl
     rw [this,axG];rfl
  exact this _ h0 (ar5 _)
 | i+1=>by
  have h1:=Du hm h0 i
  have h2:=FW m i
  have ih:=MX hm h0 hM i
  rw [qO,N5 h1.2 hm.2 h2 (.inl rfl) (by rw [ih];exact axM _ (by omega)),ih,axH,awM,Int.mul_comm (2 ^ i)]
  rw [axK,axL,← axK]
theorem aaK {x:Int} (hx:ap x):dp .u64 x 1=x%2:=by
 obtain ⟨n,rfl⟩:∃ n:Nat,x=n:=⟨x.toNat,by have:=hx.1;omega⟩
 have hn:n<2 ^ 64:=by have:=hx.2;omega
 unfold dp
 have e1:abN IntKind.u64.bits ((n:Nat):Int)=axN 64 n:=awF ..
 have e2:abN IntKind.u64.bits 1=axN 64 1:=awF (w:=64) (n:=1)
 rw [e1,e2]
 have e3:(axN 64 n &&&axN 64 1).toNat=n%2:=by
  rw [BitVec.toNat_and,awG,awG,awC hn]
  exact Nat.and_one_is_mod n
 show IntKind.u64.wrap (((axN 64 n &&&axN 64 1).toNat:Nat):Int)=_
 rw [e3,gq]
 omega
theorem Lm {f:Nat→Int} (j:Nat):∀ n,j<n→∃ q:Int,ps f n=ps f j+18446744073709551616 ^ j*(f j+18446744073709551616*q)
 | n+1,h=>by
  by_cases e:j=n
  ·subst e
   exact ⟨0,by rw [ps,axG,axH]⟩
  ·obtain ⟨q,hq⟩:=Lm j n (by omega)
   obtain ⟨d,rfl⟩:∃ d,n=j+1+d:=⟨n-(j+1),by omega⟩
   refine ⟨q+18446744073709551616 ^ d*f (j+1+d),?_⟩
   rw [ps,hq,axP,awM]
   grind
theorem ahc {f:Nat→Int} {n:Nat} (hf:∀ i,ap (f i)) {j s:Nat} (hj:j<n) (hs:s<64):(f j / 2 ^ s)%2=(ps f n / 2 ^ (64*j+s))%2:=by
 obtain ⟨q,hq⟩:=Lm (f:=f) j n hj
 have ⟨h1,h2⟩:=i8 (n:=j) (f:=f) fun i _=>hf i
 have hp:=r7 j
 have e1:(2:Int) ^ (64*j+s)=18446744073709551616 ^ j*2 ^ s:=by rw [axP,axQ];rfl
 have e2:ps f n / 18446744073709551616 ^ j=f j+18446744073709551616*q:=by
  rw [hq,axR _ _ (by omega),axS h1 h2,Int.zero_add]
 rw [e1,← awN (by omega),e2]
 obtain ⟨d,hd⟩:∃ d,64=s+1+d:=⟨63-s,by omega⟩
 have e3:(18446744073709551616:Int)=2 ^ s*(2*2 ^ d):=by
  rw [show (18446744073709551616:Int)=2 ^ 64 from rfl,hd,axP,awM];grind
 have qu:(0:Int)<2 ^ s:=awP (by decide)
 rw [e3,show f j+2 ^ s*(2*2 ^ d)*q=f j+2 ^ s*(2*(2 ^ d*q)) from by grind,axR _ _ (by omega)]
 omega
theorem PQ {a:LD} (ha:cQ a):∀ n,ps (rv a) n<2 ^ (bk a n).toNat
 | 0=>by show (0:Int)<1;decide
 | n+1=>by
  have ih:=PQ ha n
  have ⟨h1,h2⟩:=i8 (n:=n) (f:=rv a) fun i _=>ha i
  rw [ps,bk]
  by_cases e:rv a n=0
  ·rw [if_pos e,e,axG,axH];exact ih
  ·rw [if_neg e]
   have hw:=ha n
   have hb:=Lq hw
   have hl:rv a n<2 ^ (cE (rv a n)).toNat:=by
    obtain ⟨k,hk⟩:∃ k:Nat,rv a n=k:=⟨(rv a n).toNat,by have:=hw.1;omega⟩
    rw [hk]
    unfold cE
    rw [aA,aA]
    have:=(bitLen_spec k).1
    exact_mod_cast this
   have hp:=r7 n
   have e1:(2:Int) ^ (64*(n:Int)+cE (rv a n)).toNat=18446744073709551616 ^ n*2 ^ (cE (rv a n)).toNat:=by
    rw [show (64*(n:Int)+cE (rv a n)).toNat=64*n+(cE (rv a n)).toNat from by omega,axP,axQ];rfl
   rw [e1]
   have:=axj (show rv a n+1≤2 ^ (cE (rv a n)).toNat by omega) (show (0:Int)≤18446744073709551616 ^ n by omega)
   rw [Int.mul_add,axD] at this
   omega
theorem QP {a:LD} (ha:cQ a) {t:Nat} (ht:t<64*a.length):dp .u64 (aL .u64 (rv a (t / 64)) ((t%64:Nat):Int)) 1=ps (rv a) a.length / 2 ^ t%2:=by
 have hw:=ha (t / 64)
 have hs:t%64<64:=as3 _ (by decide)
 rw [Lu _ _ (by omega)]
 have hp:(0:Int)<2 ^ (t%64):=awP (by decide)
 have hr:ap (rv a (t / 64) / 2 ^ (t%64)):=⟨ase hw.1 (by omega),Int.lt_of_le_of_lt (Int.ediv_le_self _ hw.1) hw.2⟩
 rw [aaK hr,ahc (f:=rv a) (n:=a.length) ha (show t / 64<a.length by omega) hs]
 congr 2
 rw [axh]
theorem Ua (x:Int) (t:Nat):x / 2 ^ t=2*(x / 2 ^ (t+1))+x / 2 ^ t%2:=by
 have hp:(0:Int)<2 ^ t:=awP (by decide)
 rw [awM,← awN (by omega)]
 omega
theorem NQ {m a:LD} (hm:aI m) (ha:aI a) (h0:0<m.length) (hM:1<ps (rv m) m.length) {k:Nat} (hk:k≤64*a.length) (hlt:ps (rv a) a.length<2 ^ k):∀ i,i≤k→
  aI (p9 m a k i)∧(p9 m a k i).length=m.length∧ps (rv (p9 m a k i)) m.length=(ps (rv a) a.length / 2 ^ (k-i))%ps (rv m) m.length
 | 0,_=>by
  have h1:=(i8 (n:=a.length) (f:=rv a) fun i _=>ha.2 i).1
  have e:p9 m a k 0=(ab0 m.length 0).map ae:=by rw [p9,aw0];rfl
  have hw:=KC m.length
  refine ⟨?_,by rw [p9,asy],?_⟩
  ·rw [e]
   exact ⟨by rw [bp,hw.1];exact hm.1,fun j=>by rw [ii];exact hw.2 j⟩
  ·rw [Nat.sub_zero,axS h1 hlt,Int.zero_emod,e,tK]
   have:∀ n,ps (gI (ab0 m.length 0)) n=0:=fun n=>by
    induction n with
    | zero=>rfl
    | succ n ih=>
     rw [ps,ih]
     have:gI (ab0 m.length 0) n=0:=by
      unfold gI
      rw [ay,awV]
      split <;>rfl
     rw [this,axG];rfl
   exact this _
 | i+1,h=>by
  have ⟨h1,h2,h3⟩:=NQ hm ha h0 hM hk hlt i (by omega)
  have hb:=QP ha.2 (t:=k-1-i) (by omega)
  have e1:k-i=k-1-i+1:=by omega
  have e2:k-(i+1)=k-1-i:=by omega
  have hbit:ps (rv a) a.length / 2 ^ (k-1-i)%2=0∨ps (rv a) a.length / 2 ^ (k-1-i)%2=1:=by omega
  rw [p9,hb]
  refine ⟨J6 h1 hm _,FQ h2 _,?_⟩
  rw [N5 h1.2 hm.2 h2 hbit (by rw [h3];exact axM _ (by omega)),h3,e1,e2]
  have hh:=Ua (ps (rv a) a.length) (k-1-i)
  generalize ps (rv a) a.length / 2 ^ (k-1-i+1)=y at hh ⊢
  generalize ps (rv a) a.length / 2 ^ (k-1-i)=x at hh ⊢
  rw [hh]
  rw [← hh,axJ,axK,axL,← axK,← axJ,← hh]
theorem GL {m a:LD} (hm:aI m) (ha:aI a) (h0:0<m.length) (hM:1<ps (rv m) m.length):aI (fm m a)∧(fm m a).length=m.length∧ps (rv (fm m a)) m.length=ps (rv a) a.length%ps (rv m) m.length:=by
 have hb:=Bc ha.2 a.length
 have h:=NQ hm ha h0 hM (k:=(bk a a.length).toNat) (by omega) (PQ ha.2 a.length) _ (ar5 _)
 rw [Nat.sub_self,axO,Int.ediv_one] at h
 unfold fm
 rw [al]
 exact h
def rp (m x:LD) (X:Int):Prop:=aI x∧x.length=m.length∧(0≤ps (rv x) m.length∧ps (rv x) m.length<ps (rv m) m.length)∧ps (rv m) m.length∣ps (rv x) m.length-X*18446744073709551616 ^ m.length
structure mdl (m:LD) (v:Int):Prop where
 ok:aI m
 vw:ap v
 inv:(rv m 0*v+1)%18446744073709551616=0
 len:2≤m.length
 one:1<ps (rv m) m.length
 cop:∀ n,Int.gcd (18446744073709551616 ^ n) (ps (rv m) m.length)=1
theorem kA {m b a:LD} {v:Int} (ha:cQ a) (hb:cQ b) (hm:aI m):aI (eL m b v a)∧(eL m b v a).length=m.length:=by
 have hT:wl (m.length+2) (qt m b v a):=yg (v:=v) ha hb hm.2 a.length
 have hk:=FX (k:=m.length) hT (by omega)
 unfold eL
 refine ⟨Nt ⟨by rw [bp,hk.1];exact hm.1,fun j=>by rw [ii];exact hk.2 j⟩ hm _,IS (by rw [bp,hk.1]) _⟩
theorem Q8 {m x y:LD} {v X Y:Int} (hd:mdl m v) (hx:rp m x X) (hy:rp m y Y):rp m (eL m y v x) (X*Y):=by
 obtain ⟨x1,x2,x3,p,hp⟩:=hx
 obtain ⟨y1,y2,y3,q,hq⟩:=hy
 have ⟨k1,k2⟩:=kA (v:=v) x1.2 y1.2 hd.ok
 have ⟨h1,k,h2⟩:=Gv (m:=m) (b:=y) (a:=x) (v:=v) ⟨x1,y1,hd.ok,hd.vw,y2,hd.len⟩ hd.inv (by have:=hd.one;omega) (by omega)
 refine ⟨k1,k2,h1,NT.int_cop (x:=18446744073709551616 ^ m.length) ?_ (hd.cop _)⟩
 rw [x2] at h2
 refine ⟨X*18446744073709551616 ^ m.length*q+p*ps (rv y) m.length+k,?_⟩
 generalize (18446744073709551616:Int) ^ m.length=w at *
 rw [axT,h2]
 have e1:ps (rv x) m.length=ps (rv m) m.length*p+X*w:=by omega
 have e2:ps (rv y) m.length=ps (rv m) m.length*q+Y*w:=by omega
 rw [e1,e2]
 grind
theorem VE {m s a:LD} {v A:Int} (hd:mdl m v) (hs:aI s) (hsl:s.length=m.length) (hsv:ps (rv s) m.length=(18446744073709551616 ^ m.length*18446744073709551616 ^ m.length)%ps (rv m) m.length) (ha:aI a) (hal:a.length=m.length) (hav:ps (rv a) m.length=A):rp m (eL m s v a) A:=by
 have hone:=hd.one
 have ⟨k1,k2⟩:=kA (v:=v) ha.2 hs.2 hd.ok
 have ⟨h1,k,h2⟩:=Gv (m:=m) (b:=s) (a:=a) (v:=v) ⟨ha,hs,hd.ok,hd.vw,hsl,hd.len⟩ hd.inv (by omega) (by rw [hsv];exact Int.le_of_lt (axM _ (by omega)))
 refine ⟨k1,k2,h1,NT.int_cop (x:=18446744073709551616 ^ m.length) ?_ (hd.cop _)⟩
 rw [hal,hav,hsv] at h2
 have he:=asd (18446744073709551616 ^ m.length*18446744073709551616 ^ m.length) (ps (rv m) m.length)
 generalize (18446744073709551616:Int) ^ m.length=w at *
 refine ⟨k-A*(w*w / ps (rv m) m.length),?_⟩
 generalize w*w / ps (rv m) m.length=d at *
 generalize w*w%ps (rv m) m.length=r at *
 rw [axT,h2]
 have:w*(A*w)=A*(r+ps (rv m) m.length*d):=by rw [he];grind
 rw [this]
 grind
theorem afY {m x o:LD} {v X:Int} (hd:mdl m v) (hx:rp m x X) (ho:aI o) (hol:o.length=m.length) (hov:ps (rv o) m.length=1):ps (rv (eL m o v x)) m.length=X%ps (rv m) m.length:=by
 obtain ⟨x1,x2,x3,p,hp⟩:=hx
 have hone:=hd.one
 have ⟨h1,k,h2⟩:=Gv (m:=m) (b:=o) (a:=x) (v:=v) ⟨x1,ho,hd.ok,hd.vw,hol,hd.len⟩ hd.inv (by omega) (by omega)
 have hdv:ps (rv m) m.length∣ps (rv (eL m o v x)) m.length-X:=by
  refine NT.int_cop (x:=18446744073709551616 ^ m.length) ?_ (hd.cop _)
  rw [x2,hov] at h2
  refine ⟨p+k,?_⟩
  generalize (18446744073709551616:Int) ^ m.length=w at *
  rw [axT,h2]
  have e1:ps (rv x) m.length=ps (rv m) m.length*p+X*w:=by omega
  rw [e1]
  grind
 have:=Int.emod_emod_of_dvd X (Int.dvd_refl (ps (rv m) m.length))
 have e:=Int.emod_eq_emod_iff_emod_sub_eq_zero.2 (Int.emod_eq_zero_of_dvd hdv)
 rw [← e,aw2 h1.1 h1.2]
def jB (m:LD):LD:=((ab0 m.length 0).set 0 1).map ae
def CW (e:LD) (t:Nat):Bool:=decide (dp .u64 (aL .u64 (rv e (t / 64)) ((t%64:Nat):Int)) 1=1)
def xW (m:LD) (v:Int) (one base e:LD) (k:Nat):Nat→LD
 | 0=>one
 | i+1=>bif CW e (k-1-i) then eL m base v (eL m (xW m v one base e k i) v (xW m v one base e k i)) else eL m (xW m v one base e k i) v (xW m v one base e k i)
def m9 (m q a e:LD) (v:Int) (i:Nat):LD:=hid (xW m v (eL m q v (jB m)) (eL m q v (fm m a)) e (bk e e.length).toNat i)
def js (m q a e:LD) (v:Int):LD:=hid (eL m (jB m) v (m9 m q a e v (bk e e.length).toNat))
def qp (a e m q:LD) (v:Int):Prop:=aI a∧aI e∧mdl m v∧aI q∧q.length=m.length
def aph:Ct:= {ps:= [.ptr 0 0,aK,aK],bs:= [qM],pre:=fun | [.r a,.r e,.r m,.i v,.r q] =>qp a e m q v | _=>False,res:=fun | [.r a,.r e,.r m,.i v,.r q] => .ret aK [qM] [.r (js m q a e v),.r m,.i v,.r q] | _=>ag}
def aip:List Dat→Ann
 | [.r a,.r e,.r m,.i v,.r q] =>⟨[(3,[la 64 [(0,.ptr 0 0),(1,aK),(2,aK),(7,aK)] [qM] (fun | [.r a',.r e',.r o,.r m',.i v',.r q'] =>a'=a∧e'=e∧o=jB m∧m'=m∧v'=v∧q'=q | _=>False) jS])],
   [(5,[la 64 [(0,.ptr 0 0),(2,aK),(7,aK),(8,aK),(9,aK),(10,i64)] [qM] (fun | [.r e',.r o,.r bs,.r x,.i i,.r m',.i v',.r q'] =>e'=e∧o=jB m∧bs=eL m q v (fm m a)∧-1≤i∧i<bk e e.length∧x=m9 m q a e v ((bk e e.length).toNat-(i+1).toNat)∧m'=m∧v'=v∧q'=q | _=>False) (fun | [_,_,_,_,.i i,_,_,_] =>(i+1).toNat | _=>0)])],[]⟩
 | _=> {cut:= [],loop:= []}
def Qo:ac:=ak PB 144 (wR (aq P1))
theorem aoe:b9 (base.with PB) 144 (wR (aq P1)):=Fq (afD.spec 144)
theorem akD:(base.with Qo).Ok:=ab afD aoe
def VR:ac:=ak Qo 246 (wR (aq O8))
theorem arp:b9 (base.with Qo) 246 (wR (aq O8)):=Fq (akD.spec 246)
theorem ad4:(base.with VR).Ok:=ab akD arp
abbrev C8 (a:LD):LD:=
 ab0 (↑a.length:Int).toNat [.int 0]
abbrev O5 (a:Int)(b c:LD):List Blk:=
 [.cells (332:TypeId) [.rd [.int .u64] b,.int .u64 a,.rd [.int .u64] c]]
abbrev wK (a:Int)(b c:LD):Prop:=
 j6 (O5 a b c)
 (cO (cx [0] 1) [0] (O5 a b c))
def ahT:Prop:=
 ∀ (a b c:LD) (d:Int) (e:LD),
 lM a→
 lM b→
 lM c→
 lM e→
 qp a b c e d→
 lM c→
 (0≤(↑c.length:Int)∧
 (↑c.length:Int)≤(↑c.length:Int)∧(↑(8:Nat):Int)*(↑c.length:Int)≤140737488355328∧(↑c.length:Int)≤9223372036854775807)∧
 (bR 0 (C8 c)∧
 (0:Nat)<(C8 c).length∧
 (a=a∧
 b=b∧
 (C8 c).set 0
 (((C8 c).getD 0 []).set 0 (.int 1))=
 jB c∧
 c=c∧d=d∧e=e)∧
 True)∧
 ∀ (f g h i:LD) (j:Int) (k:LD),
 lM f→
 lM g→
 lM h→
 lM i→
 lM k→
 f=a∧g=b∧h=jB c∧i=c∧j=d∧k=e→
 ((aI f∧aI i)∧wK j i k)∧
 (nP (fm i f) k i j∧
 wK j i k)∧
 (nP h k i j∧wK j i k)∧
 aI g∧
 iR (bk g g.length-(1:Int))∧
 ((g=b∧
 h=jB c∧
 eL i k j (fm i f)=
 eL c e d (fm c a)∧
 (-1:Int)≤bk g g.length-(1:Int)∧
 bk g g.length-(1:Int)<bk b b.length∧
 eL i k j h=
 m9 c e a b d
 ((bk b b.length).toNat -
 (bk g g.length-(1:Int)+1).toNat)∧
 i=c∧j=d∧k=e)∧
 True)∧
 ∀ (m o p q:LD) (r:Int) (s:LD) (t:Int) (u:LD),
 lM m→
 lM o→
 lM p→
 lM q→
 lM s→
 lM u→
 m=b∧
 o=jB c∧
 p=eL c e d (fm c a)∧
 (-1:Int)≤r∧
 r<bk b b.length∧
 q=
 m9 c e a b d
 ((bk b b.length).toNat-(r+1).toNat)∧
 s=c∧t=d∧u=e→
 bif decide (0≤r) then
 (nP q q s t∧wK t s u)∧
 (0≤r∧(0:Int)<(64:Int)∧r≤IntKind.i64.max)∧
 bR (r / 64) m∧
 (r / 64).toNat<m.length∧
 (0≤r∧(0:Int)<(64:Int))∧
 0≤r%(64:Int)∧
 bif
 decide
 (dp .u64
 (aL .u64
 ((m.getD (r / 64).toNat []).getD 0 (.int 0)).toInt
 (r%(64:Int)))
 1=
 (1:Int)) then
 (nP (eL s q t q) p s t∧
 wK t s u)∧
 iR (r-(1:Int))∧
 (m=b∧
 o=jB c∧
 p=
 eL c e d
 (fm c a)∧
 (-1:Int)≤r-(1:Int)∧
 r-(1:Int)<bk b b.length∧
 eL s p t
 (eL s q t q)=
 m9 c e a b d
 ((bk b b.length).toNat -
 (r-(1:Int)+1).toNat)∧
 s=c∧t=d∧u=e)∧
 (r-(1:Int)+1).toNat<(r+1).toNat
 else
 iR (r-(1:Int))∧
 (m=b∧
 o=jB c∧
 p=
 eL c e d
 (fm c a)∧
 (-1:Int)≤r-(1:Int)∧
 r-(1:Int)<bk b b.length∧
 eL s q t q=
 m9 c e a b d
 ((bk b b.length).toNat -
 (r-(1:Int)+1).toNat)∧
 s=c∧t=d∧u=e)∧
 (r-(1:Int)+1).toNat<(r+1).toNat
 else
 (nP q o s t∧wK t s u)∧
 eL s o t q=js c e a b d∧
 s=c∧t=d∧u=e
def X9:ac:=ak VR 236 (aq aph)
theorem aku {m:LD} :wl m.length ((ab0 m.length 0).set 0 1):=tl (KC m.length) 0 ⟨by decide,by decide⟩
theorem FC {m:LD} (hm:aI m):aI (jB m)∧(jB m).length=m.length:=by
 have h:=aku (m:=m)
 unfold jB
 exact ⟨⟨by rw [bp,h.1];exact hm.1,fun j=>by rw [ii];exact h.2 j⟩,by rw [bp,h.1]⟩
theorem Lv {m:LD} (h0:0<m.length):ps (rv (jB m)) m.length=1:=by
 unfold jB
 rw [tK]
 have:∀ n,0<n→n≤m.length→ps (gI ((ab0 m.length 0).set 0 1)) n=1:=fun n hn hle=>by
  induction n with
  | zero=>omega
  | succ n ih=>
   by_cases hz:n=0
   ·subst hz
    show 0+1*gI _ 0=1
    rw [cn,if_pos rfl,if_pos (by rw [asy];omega)];rfl
   ·rw [ps,ih (by omega) (by omega),cn,if_neg (by omega)]
    have:gI (ab0 m.length 0) n=0:=by
     unfold gI
     rw [ay,awV]
     split <;>rfl
    rw [this,axG];rfl
 exact this _ h0 (ar5 _)
theorem I8 {m one base e:LD} {v:Int} {k:Nat} (hm:aI m) (ho:aI one) (hol:one.length=m.length) (hb:aI base):∀ i,aI (xW m v one base e k i)∧(xW m v one base e k i).length=m.length
 | 0=>⟨ho,hol⟩
 | i+1=>by
  have ⟨h1,h2⟩:=I8 (v:=v) (e:=e) (k:=k) hm ho hol hb i
  have ⟨k1,k2⟩:=kA (v:=v) h1.2 h1.2 hm
  rw [xW]
  cases CW e (k-1-i) with
  | true=>exact kA (v:=v) k1.2 hb.2 hm
  | false=>exact ⟨k1,k2⟩
theorem aqD:ahT:=by
 delta ahT lM iR bR C8 O5 wK
 intro a e m v q _ _ _ _ hp _
 obtain ⟨ha,he,hd,hq,hql⟩:=hp
 have hm:=hd.ok
 have lm:=hm.1
 have l2:=hd.len
 have ⟨o1,o2⟩:=FC hm
 have ⟨r1,r2,_⟩:=GL hm ha (by omega) hd.one
 have ⟨s1,s2⟩:=kA (v:=v) (m:=m) (b:=q) r1.2 hq.2 hm
 have ⟨t1,t2⟩:=kA (v:=v) (m:=m) (b:=q) o1.2 hq.2 hm
 have hb:=Bc he.2 e.length
 have le:=he.1
 have hx:∀ i,aI (m9 m q a e v i)∧(m9 m q a e v i).length=m.length:=fun i=>by
  unfold m9
  rw [al]
  exact I8 hm t1 t2 s1 i
 have n0:((m.length:Int)).toNat=m.length:=by omega
 have pr:∀ x y:LD,aI x→aI y→y.length=m.length→nP x y m v:=fun x y h1 h2 h3=>⟨h1,h2,hm,hd.vw,h3,l2⟩
 have h1r:(ab0 m.length [CD.int 0]).set 0 (((ab0 m.length [CD.int 0]).getD 0 []).set 0 (CD.int 1))=jB m:=by
  have e:ab0 m.length [CD.int 0] =(ab0 m.length 0).map ae:=by rw [aw0];rfl
  rw [e,sR];rfl
 rw [n0,asy]
 refine ⟨by omega,⟨⟨by omega,by omega⟩,by omega,⟨rfl,rfl,h1r,rfl,rfl,rfl⟩,trivial⟩,?_⟩
 intro a2 e2 o2' m2 v2 q2 _ _ _ _ _ h
 obtain ⟨f1,f2,f3,f4,f5,f6⟩:=h
 rw [f1,f2,f3,f4,f5,f6]
 clear f1 f2 f3 f4 f5 f6
 refine ⟨⟨⟨ha,hm⟩,rfl,trivial⟩,⟨pr _ _ r1 hq hql,rfl,trivial⟩,⟨pr _ _ o1 hq hql,rfl,trivial⟩,he,by omega,⟨⟨rfl,rfl,rfl,by omega,by omega,?_,rfl,rfl,rfl⟩,trivial⟩,?_⟩
 ·rw [show (bk e e.length).toNat-(bk e e.length-1+1).toNat=0 from by omega]
  unfold m9
  rw [al];rfl
 intro e3 o3 b3 x3 i m3 v3 q3 _ _ _ _ _ _ h
 obtain ⟨f1,f2,f3,i0,i1,f4,f5,f6,f7⟩:=h
 rw [f1,f2,f3,f4,f5,f6,f7]
 clear f1 f2 f3 f4 f5 f6 f7
 obtain ⟨j,hj⟩:∃ j,j=(bk e e.length).toNat-(i+1).toNat:=⟨_,rfl⟩
 rw [← hj]
 have ⟨x1,x2⟩:=hx j
 have ⟨y1,y2⟩:=kA (v:=v) x1.2 x1.2 hm
 refine aa (fun hi=> ?_) (fun hi=> ?_)
 ·have hi:=au hi
  have hmx:IntKind.i64.max=9223372036854775807:=by decide
  have ht:(bk e e.length).toNat-1-j=i.toNat:=by omega
  have q1:(i / 64).toNat=i.toNat / 64:=by omega
  have q2:i%64=((i.toNat%64:Nat):Int):=by omega
  have ej:(bk e e.length).toNat-(i-1+1).toNat=j+1:=by omega
  have ex:m9 m q a e v (j+1)=bif CW e i.toNat then eL m (eL m q v (fm m a)) v (eL m (m9 m q a e v j) v (m9 m q a e v j)) else eL m (m9 m q a e v j) v (m9 m q a e v j):=by
   unfold m9
   rw [al,al,xW,ht]
  rw [hmx,ej,ex,q1,gc]
  refine ⟨⟨pr _ _ x1 x1 x2,rfl,trivial⟩,⟨by omega,by decide,by omega⟩,⟨by omega,by omega⟩,by omega,⟨by omega,by decide⟩,by omega,aa (fun hc=> ?_) (fun hc=> ?_)⟩
  ·have hc:CW e i.toNat=true:=by unfold CW;rw [← q2];exact hc
   rw [hc]
   exact ⟨⟨pr _ _ y1 s1 s2,rfl,trivial⟩,by omega,⟨rfl,rfl,rfl,by omega,by omega,rfl,rfl,rfl,rfl⟩,by omega⟩
  ·have hc:CW e i.toNat=false:=by unfold CW;rw [← q2];exact hc
   rw [hc]
   exact ⟨by omega,⟨rfl,rfl,rfl,by omega,by omega,rfl,rfl,rfl,rfl⟩,by omega⟩
 ·have hi:=aw hi
  have hjn:j=(bk e e.length).toNat:=by omega
  refine ⟨⟨pr _ _ x1 o1 o2,rfl,trivial⟩,?_,rfl,rfl,rfl⟩
  unfold js
  rw [al,hjn]
theorem aif:(base.with X9).Ok:=ab ad4 (ai aip ad4 Tryz.func236 (by kernel_rfl) Tryz.call236 (by kernel_rfl) aqD)
theorem aj3 {e:LD} (he:cQ e) {E:Nat} (hE:ps (rv e) e.length=E) {t:Nat} (ht:t<64*e.length):CW e t=decide (E / 2 ^ t%2=1):=by
 have h:=QP he ht
 unfold CW
 rw [h,hE]
 have:((E:Int) / 2 ^ t%2)=((E / 2 ^ t%2:Nat):Int):=by simp
 rw [this]
 by_cases hc:E / 2 ^ t%2=1
 ·rw [decide_eq_true hc,decide_eq_true (by omega)]
 ·rw [decide_eq_false hc,decide_eq_false (by omega)]
theorem Ni {m one base e:LD} {v A:Int} {E k:Nat} (hd:mdl m v) (ho:rp m one 1) (hb:rp m base A) (he:cQ e) (hE:ps (rv e) e.length=E) (hk:k≤64*e.length) (hlt:E<2 ^ k):∀ i,i≤k→rp m (xW m v one base e k i) (A ^ (E / 2 ^ (k-i)))
 | 0,_=>by
  rw [Nat.sub_zero,Nat.div_eq_of_lt hlt,axO];exact ho
 | i+1,h=>by
  have ih:=Ni hd ho hb he hE hk hlt i (by omega)
  have h2:=Q8 hd ih ih
  have e1:k-i=k-1-i+1:=by omega
  have e2:k-(i+1)=k-1-i:=by omega
  have hbit:=aj3 he hE (t:=k-1-i) (by omega)
  have hh:E / 2 ^ (k-1-i)=2*(E / 2 ^ (k-1-i+1))+E / 2 ^ (k-1-i)%2:=by
   rw [Nat.pow_succ,← Nat.div_div_eq_div_mul];omega
  rw [e1] at h2
  rw [xW,hbit,e2]
  generalize E / 2 ^ (k-1-i+1)=y at *
  generalize E / 2 ^ (k-1-i)=x at *
  have e3:A ^ y*A ^ y=A ^ (2*y):=by rw [← axP];congr 1;omega
  rw [e3] at h2
  by_cases hc:x%2=1
  ·rw [decide_eq_true hc]
   have h3:=Q8 hd h2 hb
   rwa [show A ^ (2*y)*A=A ^ x from by rw [← awM];congr 1;omega] at h3
  ·rw [decide_eq_false hc]
   rwa [show 2*y=x from by omega] at h2
theorem aaN {m q a e:LD} {v A:Int} {E:Nat} (hd:mdl m v) (hq:aI q) (hql:q.length=m.length) (hqv:ps (rv q) m.length=(18446744073709551616 ^ m.length*18446744073709551616 ^ m.length)%ps (rv m) m.length)
  (ha:aI a) (hA:ps (rv a) a.length%ps (rv m) m.length=A) (he:aI e) (hE:ps (rv e) e.length=E):
  aI (js m q a e v)∧(js m q a e v).length=m.length∧ps (rv (js m q a e v)) m.length=A ^ E%ps (rv m) m.length:=by
 have hm:=hd.ok
 have l2:=hd.len
 have ⟨o1,o2⟩:=FC hm
 have ⟨r1,r2,r3⟩:=GL hm ha (by omega) hd.one
 rw [hA] at r3
 have hone:=VE hd hq hql hqv o1 o2 (Lv (by omega))
 have hbase:=VE hd hq hql hqv r1 r2 r3
 have hb:=Bc he.2 e.length
 have hlt:E<2 ^ (bk e e.length).toNat:=by
  have:=PQ he.2 e.length
  rw [hE] at this
  exact_mod_cast this
 have h:=Ni hd hone hbase he.2 hE (k:=(bk e e.length).toNat) (by omega) hlt _ (ar5 _)
 rw [Nat.sub_self,Nat.pow_zero,Nat.div_one] at h
 have hx:m9 m q a e v (bk e e.length).toNat=xW m v (eL m q v (jB m)) (eL m q v (fm m a)) e (bk e e.length).toNat (bk e e.length).toNat:=by unfold m9;rw [al]
 have hr:js m q a e v=eL m (jB m) v (m9 m q a e v (bk e e.length).toNat):=by unfold js;rw [al]
 rw [hr,hx]
 have ⟨k1,k2⟩:=kA (v:=v) (m:=m) (b:=jB m) h.1.2 o1.2 hm
 exact ⟨k1,k2,afY hd h o1 o2 (Lv (by omega))⟩
abbrev a12:Pat:= .arrI 12 .u64
abbrev xT:Pat:= .agg [a12]
abbrev q12:BPat:= .cells 324 [a12]
abbrev Di:BPat:= .cells 376 [.ptr 1 0]
def TR:List Int:= [18446744073709551615,17603518614768072224,16466767132611215046,5755940542857986629,3470879405153129527,17263733006627652379,5857503583518590173,147421033984662306,2955010104097229940,14179128828124470481,14488038916154245684,18446744073709551615]
def bZ:LD:=TR.map ae
def uV:Nat→List Int×Int
 | 0=>(TR,0)
 | k+1=>((uV k).1.set (11-k) (iq .u64 (aL .u64 (gI (uV k).1 (11-k)) 1) (eG .u64 (uV k).2 63)),dp .u64 (gI (uV k).1 (11-k)) 1)
def acq:List Int:= [9223372036854775807,8801759307384036112,17456755603160383331,12101342308283769122,10958811739431340571,17855238540168601997,2928751791759295086,73710516992331153,10700877088903390778,7089564414062235240,16467391494931898650,9223372036854775807]
def mI:LD:=acq.map ae
def S8:List Int:=ab0 12 0
def BT:List Int:= [1,0,0,0,0,0,0,0,0,0,0,0]
def fg (l:LD):List Int:=l.map fun r=>(r.getD 0 (CD.int 0)).toInt
def ami:Ct:= {ps:= [],bs:= [],pre:=fun _=>True,res:=fun _=> .ret xT [] [.li TR]}
def am8:Ct:= {ps:= [xT],bs:= [],pre:=fun | [.li l] =>yp (l.map ae) | _=>False,res:=fun | [.li l] => .ret (.ptr 0 0) [Di,qM] [.r (l.map ae),.i (uA (rv (l.map ae) 0)),.r (fp (l.map ae))] | _=>ag}
def alI:Ct:= {ps:= [],bs:= [],pre:=fun _=>True,res:=fun _=> .ret (.ptr 0 0) [Di,qM] [.r bZ,.i 1,.r (fp bZ)]}
def arc:Ct:= {ps:= [],bs:= [],pre:=fun _=>True,res:=fun _=> .ret (.ptr 0 0) [Di,qM] [.r mI,.i (uA 9223372036854775807),.r (fp mI)]}
def ae9:List Dat→Ann:=fun _=> {cut:= [],loop:= [(3,[la 24 [(1,.ptr 0 0),(2,u64),(3,i64)] [q12] (fun | [.i c,.i i,.li l] => -1≤i∧i≤11∧l=(uV (11-i).toNat).1∧c=(uV (11-i).toNat).2 | _=>False) (fun | [_,.i i,_] =>(i+1).toNat | _=>0)])]}
def apO:Ct:= {ps:= [.ptr 0 0],bs:= [qM],pre:=fun | [.r m,.i _,.r _] =>m.length≤1000 | _=>False,res:=fun | [.r m,.i v,.r q] => .ret (.own 1) [qM,ow] [.r m,.i v,.r q,.r m] | _=>ag}
def anu:Ct:= {ps:= [.ptr 0 0],bs:= [Di,qM],pre:=fun | [.r m,.i _,.r _] =>m.length=12 | _=>False,res:=fun | [.r m,.i v,.r q] => .ret xT [Di,qM] [.li (fg m),.r m,.i v,.r q] | _=>ag}
def amX:Ct:= {ps:= [],bs:= [],pre:=fun _=>True,res:=fun _=> .ret xT [] [.li BT]}
def lW (m b:LD):Int:=if (b.length:Int)≠96 then 1 else if gJ ((bg b b.length).map ae) m (cU ((bg b b.length).map ae) m)<0 then 0 else 4
def mT (m b:LD):List Int:=if lW m b=0 then bg b b.length else S8
def apc:Ct:= {ps:= [.ptr 0 0,rb],bs:= [Di,qM],pre:=fun | [.r b,.r m,.i _,.r _] =>av b∧b.length≤1000∧m.length=12 | _=>False,res:=fun | [.r b,.r m,.i v,.r q] => .ret (.tup [xT,i64]) [Di,qM] [.li (mT m b),.i (lW m b),.r m,.i v,.r q] | _=>ag}
def ap5:Ct:= {ps:= [.fb 236 [.ptr 0 0],xT,xT],bs:= [qM],pre:=fun | [.li a,.li e,.r m,.i v,.r q] =>qp (a.map ae) (e.map ae) m q v∧m.length=12 | _=>False,res:=fun | [.li a,.li e,.r m,.i v,.r q] => .ret xT [qM] [.li (fg (js m q (a.map ae) (e.map ae) v)),.r m,.i v,.r q] | _=>ag}
def amp:Ct:= {ps:= [.ptr 0 0,xT,xT],bs:= [Di,qM],pre:=fun | [.li a,.li e,.r m,.i v,.r q] =>qp (a.map ae) (e.map ae) m q v∧m.length=12 | _=>False,res:=fun | [.li a,.li e,.r m,.i v,.r q] => .ret xT [Di,qM] [.li (fg (js m q (a.map ae) (e.map ae) v)),.r m,.i v,.r q] | _=>ag}
def gE (b:LD):List Int:=if iD b=0 then bg b b.length else S8
def aq5:Ct:= {ps:= [rb],bs:= [],pre:=fun | [.r b] =>av b∧b.length≤1000 | _=>False,res:=fun | [.r b] => .ret (.tup [xT,i64]) [] [.li (gE b),.i (iD b)] | _=>ag}
abbrev AO:List Int:=
 [18446744073709551615,17603518614768072224,16466767132611215046,5755940542857986629,3470879405153129527,17263733006627652379,
 (5857503583518590173:Int),147421033984662306,2955010104097229940,14179128828124470481,14488038916154245684,18446744073709551615]
def ahn:Prop:=
 True→AO=AO
def YO:ac:=ak X9 232 (aq ami)
abbrev Ej:Prop:=
 (0:Int)≤0∧0≤(↑(12:Nat):Int)∧(↑(12:Nat):Int)≤(↑(12:Nat):Int)∧(0:Int)<(↑(12:Nat):Int)
abbrev kw (a:List Int):LD:=
 asv (fun b=> [.int b]) (ar0 12 (ar1 0 a))
def agH:Prop:=
 ∀ (a:List Int),
 a.length=12→
 yp (asv ae a)→
 Ej∧
 yp (kw a)∧
 kw a=asv ae a∧
 uA (rv (kw a) 0)=
 uA (rv (asv ae a) 0)∧
 fp (kw a)=
 fp (asv ae a)
def V8:ac:=ak YO 231 (aq am8)
abbrev iE:LD:=
 [[.int 18446744073709551615],[.int 17603518614768072224],[.int 16466767132611215046],
 [.int 5755940542857986629],[.int 3470879405153129527],[.int 17263733006627652379],
 [.int 5857503583518590173],[.int 147421033984662306],[.int 2955010104097229940],
 [.int 14179128828124470481],[.int 14488038916154245684],[.int 18446744073709551615]]
def aez:Prop:=
 True→
 True∧
 yp iE∧
 iE=iE∧
 uA (rv iE 0)=1∧
 fp iE=fp iE
def Xh:ac:=ak V8 203 (aq alI)
abbrev Ay:List CD:=
 [.int 9223372036854775807]
abbrev OA:LD:=
 [Ay,[.int 8801759307384036112],[.int 17456755603160383331],[.int 12101342308283769122],
 [.int 10958811739431340571],[.int 17855238540168601997],[.int 2928751791759295086],
 [.int 73710516992331153],[.int 10700877088903390778],[.int 7089564414062235240],
 [.int 16467391494931898650],Ay]
def aft:Prop:=
 True→
 True∧
 (((-1:Int)≤11∧
 (11:Int)≤11∧
 AO=AO∧0=(uV 0).snd)∧
 True)∧
 ∀ (a b:Int) (c:List Int),
 c.length=12→
 (-1:Int)≤b∧
 b≤11∧c=(uV ((11:Int)-b).toNat).fst∧a=(uV ((11:Int)-b).toNat).snd→
 bif decide (0≤b) then
 (0≤b∧b<(↑(12:Nat):Int))∧
 b.toNat*1<(12:Nat)∧
 (0:Int)≤1∧
 (0:Int)≤63∧
 (0≤b∧b<(↑(12:Nat):Int))∧
 b.toNat*1<(12:Nat)∧
 (0≤b∧b<(↑(12:Nat):Int))∧
 b.toNat*1<(12:Nat)∧
 iR (b-(1:Int))∧
 ((-1:Int)≤b-(1:Int)∧
 b-(1:Int)≤11∧
 c.set (b.toNat*1)
 (iq .u64 (aL .u64 (c.getD (b.toNat*1) 0) 1)
 (eG .u64 a 63))=
 (uV ((11:Int)-(b-(1:Int))).toNat).fst∧
 dp .u64 (c.getD (b.toNat*1) 0) 1=
 (uV ((11:Int)-(b-(1:Int))).toNat).snd)∧
 (b-(1:Int)+1).toNat<(b+1).toNat
 else
 yp (asv ae c)∧
 asv ae c=OA∧
 uA (rv (asv ae c) 0)=
 uA 9223372036854775807∧
 fp (asv ae c)=
 fp OA
def WJ:ac:=ak Xh 206 (aq arc)
abbrev lJ (a:LD):Prop:=
 a.length≤1000
def adB:Prop:=
 ∀ (a:LD) (b:Int) (c:LD),
 lM a→
 lM c→lJ a→lJ a∧a=a∧b=b∧c=c∧a=a
def Zx:ac:=ak WJ 234 (aq apO)
def adf:Prop:=
 ∀ (a:LD) (b:Int) (c:LD),
 a.length=12→
 lJ a∧
 12≤a.length∧
 12≤a.length∧
 asv (fun d=>(d.getD 0 (.int 0)).toInt) (ar0 12 (ar1 0 a))=fg a∧
 a=a∧b=b∧c=c
def XT:ac:=ak Zx 207 (aq anu)
abbrev EX:List Int:=
 [1,0,0,0,0,0,0,0,0,0,0,0]
def aiE:Prop:=
 True→EX=EX
def Wf:ac:=ak XT 208 (aq amX)
abbrev AJ:List Int:=
 [0,0,0,0,0,0,0,0,0,0,0,0]
abbrev xF (a:LD):LD:=
 asv ae (bg a a.length)
def ahm:Prop:=
 ∀ (a b:LD) (c:Int) (d:LD),
 lM a→
 av a∧lJ a∧b.length=12→
 lM a→
 bif decide ((↑a.length:Int)≠96) then
 AJ=mT b a∧1=lW b a∧b=b∧c=c∧d=d
 else
 (lJ a∧av a)∧
 lJ b∧
 ((xF a).length≤1000∧lJ b)∧
 bif
 decide
 ((0:Int)≤
 gJ (xF a) b
 (cU (xF a) b)) then
 AJ=mT b a∧
 4=lW b a∧b=b∧c=c∧d=d
 else
 12≤(xF a).length∧
 12≤(xF a).length∧
 asv (fun e=>(e.getD 0 (.int 0)).toInt)
 (ar0 12 (ar1 0 (xF a)))=
 mT b a∧
 0=lW b a∧b=b∧c=c∧d=d
def YR:ac:=ak Wf 204 (aq apc)
abbrev z8 (a:Int)(b c:LD)(d e:List Int):Prop:=
 qp (asv ae d) (asv ae e) b c a∧b.length=12
def agx:Prop:=
 ∀ (a b:List Int) (c:LD) (d:Int) (e:LD),
 a.length=12→
 b.length=12→
 lM c→
 lM e→
 z8 d c e a b→
 Ej∧
 Ej∧
 qp (kw a) (kw b) c e d∧
 12≤(js c e (kw a) (kw b) d).length∧
 12≤
 (js c e (kw a) (kw b) d).length∧
 asv (fun f=>(f.getD 0 (.int 0)).toInt)
 (ar0 12
 (ar1 0
 (js c e (kw a) (kw b) d)))=
 fg
 (js c e (asv ae a) (asv ae b)
 d)∧
 c=c∧d=d∧e=e
def Wv:ac:=ak YR 235 (aq ap5)
def acM:Prop:=
 ∀ (a b:List Int) (c:LD) (d:Int) (e:LD),
 a.length=12→
 b.length=12→
 z8 d c e a b→
 z8 d c e a b∧
 fg
 (js c e (asv ae a) (asv ae b) d)=
 fg
 (js c e (asv ae a) (asv ae b) d)∧
 c=c∧d=d∧e=e
def ZN:ac:=ak Wv 205 (aq amp)
abbrev Kj:LD:=
 [[CD.int ((fun r=>(r.getD 0 (CD.int 0)).toInt) Ay)],
 [CD.int ((fun r=>(r.getD 0 (CD.int 0)).toInt) [CD.int 8801759307384036112])],
 [CD.int ((fun r=>(r.getD 0 (CD.int 0)).toInt) [CD.int 17456755603160383331])],
 [CD.int ((fun r=>(r.getD 0 (CD.int 0)).toInt) [CD.int 12101342308283769122])],
 [CD.int ((fun r=>(r.getD 0 (CD.int 0)).toInt) [CD.int 10958811739431340571])],
 [CD.int ((fun r=>(r.getD 0 (CD.int 0)).toInt) [CD.int 17855238540168601997])],
 [CD.int ((fun r=>(r.getD 0 (CD.int 0)).toInt) [CD.int 2928751791759295086])],
 [CD.int ((fun r=>(r.getD 0 (CD.int 0)).toInt) [CD.int 73710516992331153])],
 [CD.int ((fun r=>(r.getD 0 (CD.int 0)).toInt) [CD.int 10700877088903390778])],
 [CD.int ((fun r=>(r.getD 0 (CD.int 0)).toInt) [CD.int 7089564414062235240])],
 [CD.int ((fun r=>(r.getD 0 (CD.int 0)).toInt) [CD.int 16467391494931898650])],
 [CD.int ((fun r=>(r.getD 0 (CD.int 0)).toInt) Ay)]]
def aiY:Prop:=
 ∀ (a:LD),
 lM a→
 av a∧lJ a→
 True∧
 (av a∧lJ a∧12=12)∧
 bif decide (lW iE a≠0) then
 AJ=gE a∧
 lW iE a=iD a
 else
 True∧
 12=12∧
 (qp
 (asv ae (mT iE a))
 Kj iE
 (fp iE) 1∧
 12=12)∧
 True∧
 bif
 !decide
 (fg
 (js iE
 (fp iE)
 (asv ae (mT iE a))
 Kj 1)=
 EX) then
 AJ=gE a∧4=iD a
 else
 mT iE a=gE a∧
 0=iD a
def Wb:ac:=ak ZN 179 (aq aq5)
theorem Ob {l:LD} (hb:av l):∀ n,n≤l.length→∀ j,j<(l.length+7) / 8→(bg l n).getD j 0=wd (fun k=>rv l (8*j+k)) (min 8 (n-8*j))
 | 0,_,j,hj=>by
  rw [bg,show min 8 (0-8*j)=0 from by omega,wd,ay,awV]
  split <;>rfl
 | n+1,hn,j,hj=>by
  have ih:=Ob hb n (by omega)
  rw [bg,ka _ _ _ _ (by rw [fK];omega)]
  by_cases e:n / 8=j
  ·subst e
   have hv:=By (f:=fun k=>rv l (8*(n / 8)+k)) (fun k=>hb _) (n%8)
   have hbn:=hb n
   rw [if_pos rfl,ih _ hj,show min 8 (n-8*(n / 8))=n%8 from by omega,show min 8 (n+1-8*(n / 8))=n%8+1 from by omega,dw ⟨hbn.1,by omega⟩,KI (by omega) hv hbn,wd,show 8*(n / 8)+n%8=n from by omega]
  ·rw [if_neg e,ih j hj]
   congr 1
   omega
theorem R6 {t:List Int} {k:Nat} {x:Int} (hk:k<t.length):∀ n,k<n→ps (gI (t.set k x)) n=ps (gI t) n+18446744073709551616 ^ k*(x-gI t k)
 | n+1,h=>by
  rw [ps,ps,cn]
  by_cases e:k=n
  ·subst e
   rw [if_pos rfl,if_pos hk,iN (f:=gI (t.set k x)) (g:=gI t) fun i hi=>by rw [cn,if_neg (by omega)]]
   grind
  ·rw [if_neg e,R6 hk n (by omega)]
   grind
theorem RM {l:LD} (hb:av l):∀ n,n≤l.length→ps (gI (bg l n)) ((l.length+7) / 8)=wd (rv l) n
 | 0,_=>by
  rw [bg]
  have:∀ n,ps (gI (ab0 ((l.length+7) / 8) 0)) n=0:=fun n=>by
   induction n with
   | zero=>rfl
   | succ n ih=>
    rw [ps,ih]
    have:gI (ab0 ((l.length+7) / 8) 0) n=0:=by
     unfold gI
     rw [ay,awV]
     split <;>rfl
    rw [this,axG];rfl
  exact this _
 | n+1,h=>by
  have ih:=RM hb n (by omega)
  have hg:=Ob hb n (by omega) (n / 8) (by omega)
  have hv:=By (f:=fun k=>rv l (8*(n / 8)+k)) (fun k=>hb _) (n%8)
  have hbn:=hb n
  rw [bg,R6 (by rw [fK];omega) _ (by omega),ih,wd]
  rw [hg,show min 8 (n-8*(n / 8))=n%8 from by omega,dw ⟨hbn.1,by omega⟩,KI (by omega) hv hbn]
  show _+18446744073709551616 ^ (n / 8)*(_-(bg l n).getD (n / 8) 0)=_
  rw [hg,show min 8 (n-8*(n / 8))=n%8 from by omega]
  have e:(256:Int) ^ n=18446744073709551616 ^ (n / 8)*256 ^ (n%8):=by
   have h1:(18446744073709551616:Int) ^ (n / 8)=256 ^ (8*(n / 8)):=by rw [axQ];rfl
   rw [h1,← axP,axh]
  rw [e]
  grind
theorem M7 (f:Nat→Int):∀ n,wd f (n+1)=f 0+256*wd (fun k=>f (k+1)) n
 | 0=>by show 0+f 0*256 ^ 0=f 0+256*0;simp
 | n+1=>by
  rw [wd,M7 f n,wd,awM]
  grind
theorem Yb:∀ {l:LD},av l→(bv l:Int)=wd (rv l) l.length
 | [],_=>rfl
 | r::l,h=>by
  have hl:av l:=fun i=>h (i+1)
  have ih:=Yb hl
  rw [adC,M7]
  have e1:(fun k=>rv (r::l) (k+1))=rv l:=rfl
  have e2:bv (r::l)=(rv (r::l) 0).toNat+256*bv l:=rfl
  rw [e1,← ih,e2]
  have:=(h 0).1
  omega
theorem Pl {l:LD} (hb:av l):ps (rv ((bg l l.length).map ae)) ((l.length+7) / 8)=bv l:=by
 rw [tK,RM hb _ (ar5 _),Yb hb]
theorem Rd {f g:Nat→Int} :∀ {n},(∀ i,i<n→ap (f i))→(∀ i,i<n→ap (g i))→ps f n=ps g n→∀ i,i<n→f i=g i
 | n+1,hf,hg,h,i,hi=>by
  have ⟨f1,f2⟩:=i8 (n:=n) (f:=f) fun i hi=>hf i (by omega)
  have ⟨g1,g2⟩:=i8 (n:=n) (f:=g) fun i hi=>hg i (by omega)
  have hp:=r7 n
  rw [ps,ps] at h
  have hn:f n=g n:=by
   have e:18446744073709551616 ^ n*(f n-g n)=ps g n-ps f n:=by rw [axT];omega
   rcases axI (f n-g n) 0 with k | k | k
   ·have:=axj (show f n-g n≤-1 by omega) (show (0:Int)≤18446744073709551616 ^ n by omega)
    omega
   ·omega
   ·have:=axj (show 1≤f n-g n by omega) (show (0:Int)≤18446744073709551616 ^ n by omega)
    omega
  by_cases e:i=n
  ·rw [e];exact hn
  ·exact Rd (n:=n) (fun i hi=>hf i (by omega)) (fun i hi=>hg i (by omega)) (by rw [hn] at h;omega) i (by omega)
theorem gS:bZ.length=12:=by decide
theorem sM:ps (rv bZ) 12=(bE:Int):=by decide+kernel
theorem TQ:ps (rv mI) 12=((bE / 2:Nat):Int):=by decide+kernel
theorem SJ {L:List Int} (hl:L.length=12) (h:∀ x∈L,0≤x∧x<18446744073709551616):aI (L.map ae):=⟨by rw [bp];omega,fun i=>by
 rw [ii]
 unfold gI
 rw [ay]
 cases e:L[i]? with
 | none=>exact ⟨by decide,by decide⟩
 | some x=>exact h x (List.mem_of_getElem? e)⟩
theorem uK:aI bZ:=SJ (by decide) (by decide+kernel)
theorem FI:aI mI:=SJ (by decide) (by decide+kernel)
theorem Qr:mdl bZ 1 where
 ok:=uK
 vw:=⟨by decide,by decide⟩
 inv:=by decide+kernel
 len:=by decide
 one:=by rw [gS,sM];decide+kernel
 cop:=fun n=>by
  rw [gS,sM]
  show aw4 (Int.natAbs (18446744073709551616 ^ n)) bE=1
  rw [Int.natAbs_pow]
  exact Nat.Coprime.pow_left n (by decide+kernel:aw4 18446744073709551616 bE=1)
theorem aa5:(2:Int) ^ (128*12)=18446744073709551616 ^ 12*18446744073709551616 ^ 12:=by decide+kernel
theorem KA:aI (fp bZ)∧(fp bZ).length=12∧ps (rv (fp bZ)) 12=(18446744073709551616 ^ 12*18446744073709551616 ^ 12)%ps (rv bZ) 12:=by
 have h0:0<bZ.length:=by rw [gS];decide
 have h1:=Qr.one
 have hv:=MX uK h0 h1 (128*bZ.length)
 unfold fp
 rw [al]
 refine ⟨Du uK h0 _,(FW _ _).trans gS,?_⟩
 rw [gS] at hv ⊢
 rw [hv]
 exact congrArg (· % ps (rv bZ) 12) aa5
theorem Uv {L:List Int} (h:aI (L.map ae)):qp (L.map ae) mI bZ (fp bZ) 1:=⟨h,FI,Qr,KA.1,by rw [KA.2.1,gS]⟩
theorem Vh {b:LD} (hb:av b) (hl:b.length=96) (hlt:bv b<bE):
  fg (js bZ (fp bZ) ((bg b b.length).map ae) mI 1)=BT↔bv b ^ (bE / 2)%bE=1:=by
 have hw:aI ((bg b b.length).map ae):=Df (by omega) hb
 have hA:=Pl hb
 rw [hl] at hA
 have hlen:((bg b 96).map ae).length=12:=by rw [bp,fK,hl]
 have ⟨s1,s2,s3⟩:=KA
 have ⟨k1,k2,k3⟩:=aaN (m:=bZ) (q:=fp bZ) (a:=(bg b b.length).map ae) (e:=mI) (v:=1) (A:=(bv b:Int)) (E:=bE / 2) Qr s1 (by rw [s2,gS]) (by rw [gS];exact s3) hw
  (by
   rw [hl,hlen,gS,sM]
   rw [show ((96+7) / 8:Nat)=12 from rfl] at hA
   rw [hA]
   exact aw2 (by omega) (by omega)) FI (by rw [show mI.length=12 from by decide];exact TQ)
 rw [gS] at k2 k3
 rw [sM] at k3
 generalize js bZ (fp bZ) ((bg b b.length).map ae) mI 1=x at *
 have e1:ps (rv x) 12=((bv b ^ (bE / 2)%bE:Nat):Int):=by rw [k3];simp
 have hg:∀ i,gI (fg x) i=rv x i:=fun i=>by
  unfold gI fg rv
  rw [ay (l:=x.map _),eW,ay (l:=x)]
  cases x[i]? <;>rfl
 have hlx:(fg x).length=12:=by unfold fg;rw [bp,k2]
 have e2:ps (gI (fg x)) 12=ps (rv x) 12:=iN fun i _=>hg i
 have e3:ps (gI BT) 12=1:=by decide+kernel
 constructor
 ·intro h
  rw [h,e3,e1] at e2
  omega
 ·intro h
  rw [h] at e1
  have hi:=Rd (f:=gI (fg x)) (g:=gI BT) (n:=12) (fun i _=>by rw [hg];exact k1.2 i) (fun i hi=>by
   have:∀ i,i<12→ap (gI BT i):=by unfold ap;decide
   exact this i hi) (by rw [e2,e1,e3];rfl)
  refine List.ext_getElem (by rw [hlx];rfl) fun i h1 h2=> ?_
  have:=hi i (by omega)
  unfold gI at this
  rwa [ay,cH h1,ay,cH h2] at this
theorem UV {b:LD} (hb:av b) (hl:b.length=96) (hlt:bv b<bE):
  xX b=true↔fg (js bZ (fp bZ) ((bg b b.length).map ae) mI 1)=BT:=by
 rw [Vh hb hl hlt,vG,decide_eq_true (show (b.length:Int)=96 by omega),decide_eq_true hlt]
 by_cases h0:bv b=0
 ·rw [decide_eq_false (fun h=>h h0),h0]
  have:(0:Nat) ^ (bE / 2)%bE=0:=by
   rw [Nat.zero_pow (by decide+kernel),Nat.zero_mod]
  rw [this]
  simp
 ·rw [decide_eq_true h0]
  have hd:¬ bE∣bv b:=fun h=>by have:=aw7 (by omega) h;omega
  have:=NT.euler_sy VL Ng hd
  simpa using this
theorem aoK:ahn:=by
 delta ahn AO
 exact fun _=>rfl
theorem acl:(base.with YO).Ok:=ab aif (ai am aif Tryz.func232 (by kernel_rfl) Tryz.call232 (by kernel_rfl) aoK)
theorem IQ {l:List Int} (h:l.length=12):asv (fun x=> [CD.int x]) (ar0 12 (ar1 0 l))=l.map ae:=by
 rw [as8,agv (by omega)];rfl
theorem ap8:agH:=by
 delta agH Ej kw
 intro l hl hk
 rw [IQ hl]
 exact ⟨by omega,hk,rfl,rfl,rfl⟩
theorem acf:(base.with V8).Ok:=ab acl (ai am acl Tryz.func231 (by kernel_rfl) Tryz.call231 (by kernel_rfl) ap8)
theorem aav:yp bZ:=⟨by decide,by decide,uK.2,by decide+kernel,by decide+kernel⟩
theorem aaB:yp mI:=⟨by decide,by decide,FI.2,by decide+kernel,by decide+kernel⟩
theorem aqs:aez:=by
 delta aez iE
 exact fun _=>⟨trivial,aav,rfl,by decide+kernel,rfl⟩
theorem akq:(base.with Xh).Ok:=ab acf (ai am acf Tryz.func203 (by kernel_rfl) Tryz.call203 (by kernel_rfl) aqs)
theorem aqG:(uV 12).1=acq:=by decide+kernel
theorem aof:aft:=by
 delta aft iR AO Ay OA
 intro _
 refine ⟨trivial,⟨⟨by decide,by decide,rfl,rfl⟩,trivial⟩,?_⟩
 intro c i l hl h
 obtain ⟨i0,i1,e1,e2⟩:=h
 refine aa (fun hi=> ?_) (fun hi=> ?_)
 ·have hi:=au hi
  have n1:(11-(i-1)).toNat=(11-i).toNat+1:=by omega
  have n2:11-(11-i).toNat=i.toNat:=by omega
  rw [n1,uV,n2,← e1,← e2,Nat.mul_one]
  refine ⟨⟨hi,by omega⟩,by omega,by decide,by decide,⟨hi,by omega⟩,by omega,⟨hi,by omega⟩,by omega,by omega,⟨by omega,by omega,rfl,rfl⟩,by omega⟩
 ·have hi:=aw hi
  rw [show (11-i).toNat=12 from by omega,aqG] at e1
  rw [e1]
  exact ⟨aaB,rfl,rfl,rfl⟩
theorem ajg:(base.with WJ).Ok:=ab akq (ai ae9 akq Tryz.func206 (by kernel_rfl) Tryz.call206 (by kernel_rfl) aof)
theorem arh:adB:=by
 delta adB lM lJ
 intro m v q _ _ h
 exact ⟨h,rfl,rfl,rfl,rfl⟩
theorem agS:(base.with Zx).Ok:=ab ajg (ai am ajg Tryz.func234 (by kernel_rfl) Tryz.call234 (by kernel_rfl) arh)
theorem JU {l:LD} (h:l.length=12):asv (fun r=>(r.getD 0 (CD.int 0)).toInt) (ar0 12 (ar1 0 l))=fg l:=by
 rw [as8,agv (by omega)];rfl
theorem apL:adf:=by
 delta adf lJ
 intro m v q h
 exact ⟨by omega,by omega,by omega,JU h,rfl,rfl,rfl⟩
theorem aiy:(base.with XT).Ok:=ab agS (ai am agS Tryz.func207 (by kernel_rfl) Tryz.call207 (by kernel_rfl) apL)
theorem ard:aiE:=by
 delta aiE EX
 exact fun _=>rfl
theorem akl:(base.with Wf).Ok:=ab aiy (ai am aiy Tryz.func208 (by kernel_rfl) Tryz.call208 (by kernel_rfl) ard)
theorem am1:ahm:=by
 delta ahm lM lJ AJ xF
 intro b m v q _ h _
 obtain ⟨hb,hl,hm⟩:=h
 refine aa (fun h=> ?_) (fun h=> ?_)
 ·have h:=au h
  have k:lW m b=1:=by unfold lW;rw [if_pos h]
  have w:mT m b=S8:=by unfold mT;rw [k,if_neg (by decide)]
  rw [w,k]
  exact ⟨rfl,rfl,rfl,rfl,rfl⟩
 have h:=aw h
 have hlen:((bg b b.length).map ae).length=12:=by rw [bp,fK];omega
 refine ⟨⟨hl,hb⟩,by omega,⟨by omega,by omega⟩,aa (fun h2=> ?_) (fun h2=> ?_)⟩
 ·have h2:=au h2
  have k:lW m b=4:=by unfold lW;rw [if_neg h,if_neg (by omega)]
  have w:mT m b=S8:=by unfold mT;rw [k,if_neg (by decide)]
  rw [w,k]
  exact ⟨rfl,rfl,rfl,rfl,rfl⟩
 ·have h2:=aw h2
  have k:lW m b=0:=by unfold lW;rw [if_neg h,if_pos (by omega)]
  have w:mT m b=bg b b.length:=by unfold mT;rw [if_pos k]
  rw [w,k]
  refine ⟨by omega,by omega,?_,rfl,rfl,rfl,rfl⟩
  rw [JU hlen]
  unfold fg
  rw [List.map_map]
  have:((fun r:List CD=>(r.getD 0 (CD.int 0)).toInt) ∘ ae)=id:=by funext x;rfl
  rw [this,List.map_id]
theorem akK:(base.with YR).Ok:=ab akl (ai am akl Tryz.func204 (by kernel_rfl) Tryz.call204 (by kernel_rfl) am1)
theorem abm {m q a e:LD} {v:Int} (hm:aI m) (ha:cQ a) (hq:cQ q) (hr:aI (fm m a)):(js m q a e v).length=m.length:=by
 have ⟨o1,o2⟩:=FC hm
 have ⟨s1,s2⟩:=kA (v:=v) (m:=m) (b:=q) hr.2 hq hm
 have ⟨t1,t2⟩:=kA (v:=v) (m:=m) (b:=q) o1.2 hq hm
 unfold js m9
 rw [al,al]
 have ⟨x1,x2⟩:=I8 (v:=v) (e:=e) (k:=(bk e e.length).toNat) hm t1 t2 s1 (bk e e.length).toNat
 exact (kA (v:=v) x1.2 o1.2 hm).2
theorem amt:agx:=by
 delta agx lM Ej kw z8
 intro a e m v q ha he _ _ h
 obtain ⟨hp,hm⟩:=h
 obtain ⟨p1,p2,p3,p4,p5⟩:=id hp
 have ⟨r1,_,_⟩:=GL p3.ok p1 (by omega) p3.one
 have hlen:=abm (e:=e.map ae) (v:=v) p3.ok p1.2 p4.2 r1
 rw [IQ ha,IQ he]
 exact ⟨by omega,by omega,hp,by omega,by omega,JU (by rw [hlen,hm]),rfl,rfl,rfl⟩
theorem abG:(base.with Wv).Ok:=ab akK (ai am akK Tryz.func235 (by kernel_rfl) Tryz.call235 (by kernel_rfl) amt)
theorem aon:acM:=by
 delta acM z8
 intro a e m v q ha he h
 exact ⟨h,rfl,rfl,rfl,rfl⟩
theorem ald:(base.with ZN).Ok:=ab abG (ai am abG Tryz.func205 (by kernel_rfl) Tryz.call205 (by kernel_rfl) aon)
theorem Q4 {b:LD} (hb:av b) (hl:b.length=96):lW bZ b=0↔bv b<bE:=by
 have hw:aI ((bg b b.length).map ae):=Df (by omega) hb
 have hlen:((bg b b.length).map ae).length=12:=by rw [bp,fK,hl]
 have hA:=Pl hb
 rw [show (b.length+7) / 8=12 from by omega] at hA
 have hmx:cU ((bg b b.length).map ae) bZ=12:=by unfold cU;rw [hlen,gS];rfl
 have ⟨k1,_⟩:=Cv hw.2 uK.2 12
 rw [hA,sM] at k1
 unfold lW
 rw [if_neg (by omega),hmx]
 by_cases hc:gJ ((bg b b.length).map ae) bZ 12<0
 ·rw [if_pos hc]
  have:=k1.1 hc
  exact ⟨fun _=>by omega,fun _=>rfl⟩
 ·rw [if_neg hc]
  exact ⟨fun h=>absurd h (by decide),fun h=>absurd (k1.2 (by omega)) hc⟩
theorem avR {b:LD} (h:iD b=0):gE b=bg b b.length:=by unfold gE;rw [if_pos h]
theorem ahX {b:LD} (h:iD b≠0):S8=gE b:=by unfold gE;rw [if_neg h]
theorem alM:aiY:=by
 delta aiY lM iE Ay lJ EX AJ Kj
 intro b _ h
 obtain ⟨hb,hl⟩:=h
 refine ⟨trivial,⟨hb,hl,rfl⟩,aa (fun h=> ?_) (fun h=> ?_)⟩
 ·have h:lW bZ b≠0:=au h
  suffices hk:lW bZ b=iD b from ⟨ahX (by rw [← hk];exact h),hk⟩
  by_cases h96:(b.length:Int)=96
  ·have hn:¬ bv b<bE:=fun k=>h ((Q4 hb (by omega)).2 k)
   have hg:xX b=false:=by rw [vG,decide_eq_false hn];simp
   rw [← H9 h96 hg]
   unfold lW at h ⊢
   rw [if_neg (fun e=>e h96)] at h ⊢
   split at h
   ·exact absurd rfl h
   ·rename_i hc;rw [if_neg hc]
  ·rw [← Yn h96]
   unfold lW
   rw [if_pos h96]
 ·have h:¬ lW bZ b≠0:=aw h
  have h:lW bZ b=0:=Decidable.not_not.1 h
  have h96:(b.length:Int)=96:=by
   apply Classical.byContradiction
   intro e
   unfold lW at h
   rw [if_pos e] at h;cases h
  have hlt:=(Q4 hb (by omega)).1 h
  have w:mT bZ b=bg b b.length:=by unfold mT;rw [if_pos h]
  have hw:aI ((bg b b.length).map ae):=Df (by omega) hb
  have hG:=UV hb (by omega) hlt
  have hp:=Uv hw
  rw [← w] at hp hG
  refine ⟨trivial,rfl,⟨hp,rfl⟩,trivial,aa (fun k=> ?_) (fun k=> ?_)⟩
  ·suffices hk:4=iD b from ⟨ahX (by rw [← hk];decide),hk⟩
   refine H9 h96 ?_
   have k:¬ fg (js bZ (fp bZ) ((mT bZ b).map ae) mI 1)=BT:=by
    have k:(!decide (fg (js bZ (fp bZ) ((mT bZ b).map ae) mI 1)=BT))=true:=k
    simpa using k
   cases hg:xX b with
   | false=>rfl
   | true=>exact absurd (hG.1 hg) k
  ·suffices hk:0=iD b from ⟨by show mT bZ b=gE b;rw [w,avR hk.symm],hk⟩
   refine Ye h96 ?_
   have k:fg (js bZ (fp bZ) ((mT bZ b).map ae) mI 1)=BT:=by
    have k:(!decide (fg (js bZ (fp bZ) ((mT bZ b).map ae) mI 1)=BT))=false:=k
    simpa using k
   exact hG.2 k
theorem aio:(base.with Wb).Ok:=ab ald (ai am ald Tryz.func179 (by kernel_rfl) Tryz.call179 (by kernel_rfl) alM)
abbrev oi:BPat:= .own 3 [.int .i64]
def alF:Ct:= {ps:= [rb],bs:= [],pre:=fun | [.r b] =>av b∧b.length≤1000 | _=>False,res:=fun | [.r b] => .ret i64 [] [.i (oE b)] | _=>ag}
def aml:Ct:= {ps:= [rb],bs:= [],pre:=fun | [.r b] =>av b∧b.length≤1000 | _=>False,res:=fun | [.r b] => .ret i64 [] [.i (iD b)] | _=>ag}
def ac6:Ct:= {ps:= [i64],bs:= [],pre:=fun _=>True,res:=fun
 | [.i t] => .ite (decide (t=1)) (.ret (.agg [i64,.nilf,.nils]) [] [.i 1]) (.ite (decide (t=2)) (.ret (.agg [i64,.nilf,.own 0]) [oi] [.i 8,.r [[.int 8]]])
  (.ite (decide (t=3)) (.ret (.agg [i64,.fn 176 [],.own 0]) [oi] [.i 32,.r [[.int 32]]]) (.ite (decide (t=4)) (.ret (.agg [i64,.fn 178 [],.own 0]) [oi] [.i 96,.r [[.int 31],[.int 31],[.int 31],[.int 3]]]) (.ret (.agg [i64,.nilf,.nils]) [] [.i 0]))))
 | _=>ag}
def aiH:Ct:= {ps:= [i64],bs:= [],pre:=fun _=>True,res:=fun | [.i t] => .ret i64 [] [.i (aF t)] | _=>ag}
def amf:Ct:= {ps:= [i64,rb],bs:= [],pre:=fun | [.i t,.r l] =>l.length≤1000 | _=>False,res:=fun | [.i t,.r l] => .ret (.tup [i64,i64]) [] [.i (aX t l),.i (a9 t l)] | _=>ag}
end
end Go.Proofs.YteiecapbaeajdaaGreatDoor
