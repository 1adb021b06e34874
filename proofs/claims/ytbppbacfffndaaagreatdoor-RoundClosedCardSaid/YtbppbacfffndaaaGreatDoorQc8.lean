/- Part of a proof that the statement holds. No conditions. -/
import Derived.SevenTiedAt
import Derived.Test.YtbppbacfffndaaaGreatDoorQc7
set_option linter.all false
set_option maxRecDepth 100000
open Option renaming bind_some->b2,getD->fz
open List renaming length->cr,getElem?_eq_getElem->ef,mem_cons_of_mem->eg,replicate->ei,range'->ej,mem_of_getElem?->en,all_eq_true->eo,all_cons->et,mem_cons->ew,mem_cons_self->eH,flatMap_cons->eL,mem_map->eV,getElem?_eq_some_iff->fb,findIdx?_cons->fx,any_eq_true->gf,mem_or_eq_of_mem_set->gl,any_cons->gu,drop_eq_nil_of_le->gE,length_range'->hh,mem_singleton->hq,append_assoc->ht,getElem_mem->hy,nil_append->hA,map_append->hB,mem_append->hD,take->hS
open Go.IntKind renaming wrap->df
open Bool renaming not_true->dk,not_false->eb,and_eq_true->ee,or_self->eQ,and_self->fu,false_or->fv,false_and->gk,and_false->hF
open Go renaming maxLen->dr
open UInt8 renaming toNat->ea
open Nat renaming gcd->ep,dvd_trans->fl,gcd_comm->fR,gcd_dvd_right->gb,gcd_dvd_left->gg,gcd_zero_right->hv,le_of_dvd->hJ,sub_self->hL,dvd_refl->hM,le_trans->hN,gcd_rec->hP,mod_lt->hU
open Int renaming toNat->gw,toNat_of_nonneg->hg,dvd_sub->hQ
open Go.Claim7 renaming isSixth->hz
open Go.Proofs.Tryz renaming f258->hG,f156->hR
namespace Go.Abs.R
open Go.Abs Go.Proofs.Tryz
open Go.Abs.N(IY H2 zQ vk yf BY C5 En Gt tN Hv yp tR xA)
section
open Go.Abs.N(IY H2 zQ vk yf BY C5 En Gt tN Hv yp tR xA)
local instance:Dr:= ⟨false⟩
noncomputable section
abbrev u9(D A R:Type):=D->(D->Option R)->(A->Option R)×Unit->Option R
abbrev bh(D A B R:Type):=D->(D->Option R)->(A->Option R)×(B->Option R)×Unit->Option R
abbrev alQ(D Y A R:Type):=D->Y->(D->Option R)->(A->Option R)×Unit->Option R
abbrev J3(T:Type):=Int×Int×Int×T
abbrev J5(T:Type):=Int×Int×Int×Int×Int×T
abbrev o4(T:Type):=Int×Int×Int×Int×Int×Int×Int×Int×Int×Int×Int×Int×T
abbrev Eo(E:aq):=al Rs.FM.Q E
variable(n:Nat)
abbrev Z0:Ty:=.ay .i64
abbrev Z1:=J5 Int
abbrev Z2:=Z1×J5 Int
abbrev Z3:Ty:=.aF Z0 Z0
abbrev Z4:Ty:=.aH Z0
abbrev Z5:Ty:=.aF Z0 Z3
abbrev Z6:Ty:=.aF Z0 Z5
abbrev Z7:Ty:=.aF Z0 Z6
abbrev Z8:Ty:=.aF Z0 Z7
abbrev Z9:=List Int
abbrev dy:=Int×Int
abbrev gH:Ty:=.aF .aJ Z0
abbrev BW:Ty:=.aF Z4 Z4
abbrev eB:Ty:=.aF Z8 Z8
abbrev fh:=List UInt8
abbrev dK:Ty:=.aH Z3
abbrev gv:Ty:=.aH gH
abbrev qG:Ty:=.aF gv dK
abbrev cN:=fh×Int
abbrev aZ:=List dy
abbrev bZ:=List cN
abbrev cn:=Z9×Z9
abbrev gS:Ty:=.aF BW BW
abbrev nk:=Int×Z2×Int×Int
abbrev QG:=cn×Z9×Z9
abbrev Yl:=bZ×aZ
abbrev uy:=Yl×QG×Z1×J5 Int
abbrev kj:=List Z2
abbrev qZ:Ty:=.aF gS eB
abbrev EM:Ty:=.aF qG qZ
abbrev qm:=Z2×nk
abbrev uf:Ty:=.aF eB Z3
abbrev EC:Ty:=.aF Z0 uf
abbrev um:Ty:=.aH BW
abbrev pR:=List cn
abbrev EF:=List kj
abbrev Lb:Ty:=.aH eB
abbrev JO:=List qm
abbrev xh:=JO×EF
abbrev qL:=Option xh
abbrev oV:Ty:=.cO eB .aO
abbrev QQ:Ty:=.cO eB EC
abbrev qE:Ty:=.ec EM
abbrev Ah:=Option uy
abbrev qJ:Ty:=.aH Lb
abbrev Cu:Ty:=.aF QQ qJ
abbrev tZ:=Z2×Bool
abbrev AU:=dy×Z2
abbrev zp:=qL×Bool
abbrev xR:=List AU
abbrev LJ:=List fh
abbrev Bu:=List tZ
abbrev Fp:=cn×Int×Int
abbrev Jz:Ty:=.dP Z0 .aO
abbrev Iq:=qL×Z2×Int
abbrev Fc:=Z2×Int×Int
abbrev K8:=List fh
abbrev Z57:=Int×Int×Int
abbrev Z58:Ty:=.dX Z3 eB
abbrev K2:Ty:=.ec Cu
abbrev Z60:Ty:=.aH um
abbrev Z61:=QG×Int
abbrev Z62:Ty:=.aF Z0 dK
abbrev Z63:Ty:=.aF um Z62
abbrev Z64:=Z2×Int×Z2×Int×Int
abbrev Z65:=List pR
abbrev Z66:=aZ×Int
abbrev Z67:Ty:=.dP eB .aO
abbrev Z68:Ty:=.dP gH .aO
abbrev Z69:Ty:=.aF eB EC
abbrev Z70:Ty:=.aH .aJ
abbrev X0(k:Nat):Nat×mS:=(k,.cp qG [.aj gv,.aj dK])
abbrev X1(k:Nat):Nat×mS:=(k,.cp BW [.aj Z4,.aj Z4])
abbrev X2(k:Nat):Nat×mS:=(k,.cp eB (ei 12 (.aj Z0)))
abbrev X3(k:Nat):Nat×mS:=(k,.cp gS [.aj Z4,.aj Z4,.aj Z4,.aj Z4])
abbrev X4(k:Nat):Nat×mS:=(k,.cp Z0 [.aj Z0])
abbrev X5(k:Nat):Nat×mS:=(k,.cp .aO [.aj .aO])
abbrev X6(k:Nat):Nat×mS:=(k,.cp .aJ [.aj .aJ])
abbrev X7(k:Nat):Nat×mS:=(k,.cp gS [.j6,.j6,.j6,.j6])
abbrev Xb(k a:Nat):Nat×ki:=(k,.v (.cu a 0))
abbrev Xp(k:Nat)(t:Ty):Nat×ki:=(k,.v (.pp t))
def OZ(n:Nat)(b:eU)(a:List bS)(num:Int):=Rs.CG b a num
def MS:fc:= ⟨wM,[],[.aH bq],λ x _=>OZ n x.1 x.2.1 x.2.2,true⟩
theorem aaP:jf Rs.FM.Q 147 (MS n):=Rs.Ww
def KJ(n:Nat)(s:fh):Option dy:=none
def M6:fc:= ⟨[.aJ],[],[.ay .i32,.ay .i64],λ x y=>KJ n x,false⟩
theorem aeb(n):jf Rs.FM.Q 157 (M6 n):=by refine⟨⟨_,Rs.iC func157 (by kernel_rfl) (by decide),by kernel_rfl,by kernel_rfl⟩,?_⟩;intro w ok vs cs x y r b c a;cases a
def gT:List (Nat×eZ):= [(3,⟨Z0,0,false⟩),(4,⟨.aO,0,false⟩),(5,⟨(.ay .u8),0,false⟩),(9,⟨.aJ,0,false⟩),(21,⟨(.ay .i32),0,false⟩),(22,⟨gv,0,false⟩),(23,⟨dK,0,false⟩),(25,⟨qG,2,false⟩),(26,⟨Z4,0,false⟩),(28,⟨BW,2,false⟩),(30,⟨gS,3,false⟩),(35,⟨Z0,0,false⟩),(46,⟨(.aH Z5),0,false⟩),(56,⟨Z3,2,false⟩),(59,⟨dK,0,false⟩),(98,⟨Z60,0,false⟩),(112,⟨um,0,false⟩),(114,⟨Z63,3,false⟩),(134,⟨Z5,3,false⟩),(136,⟨gH,2,false⟩),(138,⟨qG,1,false⟩),(143,⟨qE,1,false⟩),(147,⟨Z8,6,true⟩),(149,⟨eB,2,false⟩),(151,⟨EM,3,false⟩),(152,⟨Z67,0,false⟩),(159,⟨Jz,0,false⟩),(163,⟨Z58,0,false⟩),(168,⟨Z3,2,true⟩),(173,⟨K2,1,false⟩),(177,⟨EC,3,false⟩),(178,⟨QQ,0,false⟩),(179,⟨qJ,0,false⟩),(181,⟨Cu,2,false⟩),(182,⟨Z70,0,false⟩),(191,⟨Lb,0,false⟩),(200,⟨oV,0,false⟩),(205,⟨Z4,0,false⟩),(207,⟨(.aH (.ay .u8)),0,false⟩),(209,⟨Z68,0,false⟩),(228,⟨(.aH Z69),0,false⟩),(231,⟨Z69,2,false⟩)]
def gQ:= [(56,Z3),(168,Z3)]
theorem q56:zP Rs.FM.Q 56 Z3:=JF (d:=40) (by decide) (by kernel_rfl) rfl (by kernel_rfl)
theorem XI:zP Rs.FM.Q 168 Z3:=JF (d:=40) (by decide) (by kernel_rfl) rfl (by kernel_rfl)
theorem apd{P E}(h:al P E){G Q}(g:al P ⟨G,[],Q,[],[],[]⟩):al P ⟨G,E.C,Q,E.I,[],[]⟩:={g with h:=h.h,j:=h.j}
def e0(n:Nat):aq:= ⟨gT,(N.qH n).C,gQ,(N.qH n).I,[],[]⟩
theorem h0:Eo (e0 n):=apd (N.xm Rs.FM n) (GI (GI (IN (by kernel_rfl)) XI) q56)
def zC(n:Nat):Option Yl:=some (([([97],8),([98],5),([99],3)]:List cN),([(0,1),(0,2),(1,0),(1,2),(2,0),(2,1)]:List dy))
def e1:=(e0 n).a 84 ⟨[],[],[qG],λ x y=>zC n,false⟩
theorem h1:Eo (e1 n):=dw Rs.FM (h0 n) func84
def DU(n:Nat):Option cn:=some (([8,0,0]:List Int),([1,0,0]:List Int))
def e2:=(e1 n).a 85 ⟨[],[],[BW],λ x y=>DU n,false⟩
theorem h2:Eo (e2 n):=dw Rs.FM (h1 n) func85
def yM(n:Nat):bh (fh×Z9×Int×Int×Unit) (fh×Unit) (Bool×Unit) Bool:=λ(s,b,c,a,_) again (k0,k1,_)=>bif decide (a<c)then(aG b a).bind λ e=>bif (!(((decide (e>=97))&& (decide (e<=122)))|| ((decide (e>=65))&& (decide (e<=90)))))&& ((a==0)|| ((e !=45)&& ((decide (e<48))|| (decide (e>57)))))then k1 (false,())else again (s,b,c,(df .i64 (a+1)),())else k0 (s,())
def B9(s:fh):=cq (yM n) n (s,(kv s),((cr (kv s):Nat):Int),0,()) (λ(a,_)=>some ((a != [])&& (decide ((cr a:Int)<=12))),λ(b,_)=>some b,())
def e5:=(e2 n).a 106 ⟨[.aJ],[],[.aO],λ x y=>B9 n x,false⟩
theorem h5:Eo (e5 n):=gD Rs.FM (h2 n) func106 (O:= [_]) ⟨gh n (h2 n) (eN 54 [aT 0 .aJ,aT 7 (.aH (.ay .u8)),aT 8 Z0,aT 9 Z0] []) [fq 0 54 [aT 0 .aJ] [],fw 54 [aT 2 .aO] []] (yM n),trivial⟩
def Jr(n:Nat)(v:fh×Int)(a:fh):=some (v.1==a)
def e6:=(e5 n).a 137 ⟨[gH],[.aJ],[.aO],λ x y=>Jr n x y,false⟩
theorem h6:Eo (e6 n):=dw Rs.FM (h5 n) func137
def xO(n:Nat):bh (bZ×(cN->Option Bool)×Int×Int×Unit) Unit (Int×Unit) Int:=λ(s,f,b,a,_) again (k0,k1,_)=>bif decide (a<b)then(aG s a).bind λ e=>(f e).bind λ x=>bif x then k1 (a,())else again (s,f,b,(df .i64 (a+1)),())else k0 ()
def IH(s:List cN)(f:cN->Option Bool):=cq (xO n) n (s,f,(cr s:Int),0,()) (λ(_)=>some (-1),λ(a,_)=>some a,())
def e7:=(e6 n).a 136 ⟨[gv,Z68],[],[Z0],λ x y=>IH n x.1 x.2,false⟩
theorem h7:Eo (e7 n):=gD Rs.FM (h6 n) func136 (O:= [_]) ⟨gh n (h6 n) (eN 19 [aT 0 gv,aT 1 Z68,aT 7 Z0,aT 8 Z0] []) [fq 0 19 [] [],fw 19 [aT 4 Z0] []] (xO n),trivial⟩
def vV(l:List cN)(name:fh):=(IH n l (λ a=>Jr n a name)).bind λ x=>some x
def e8:=(e7 n).a 107 ⟨[gv,.aJ],[],[Z0],λ x y=>vV n x.1 x.2,false⟩
theorem h8:Eo (e8 n):=dw Rs.FM (h7 n) func107
def EJ(a:Int):=(H2 n a 1 50).bind λ x=>some x
def Lr:=(e8 n).a 101 ⟨[Z0],[],[.aO],λ x y=>EJ n x,false⟩
theorem h10:Eo (Lr n):=dw Rs.FM (h8 n) func101
def vO(b:Int)(a:bZ×aZ):=(H2 n b 0 (df .i64 ((cr a.1:Int)- 1))).bind λ x=>some x
def OO:=(Lr n).a 108 ⟨[Z0],[qG],[.aO],λ x y=>vO n x y,false⟩
theorem Sp:Eo (OO n):=dw Rs.FM (h10 n) func108
def Au:bh (bZ×Int×Int×bZ×aZ×Unit) (bZ×aZ×Unit) (Int×Int×Unit) dy:=λ(c,d,a,p,b,_) again (k0,k1,_)=>bif decide (a<d)then(aG c a).bind λ e=>(B9 n e.1).bind λ x=>(vk n x 4).bind λ g=>(iB p 0 a).bind λ h=>(vV n h e.1).bind λ i=>(vk n (decide (i<0)) 5).bind λ j=>(EJ n e.2).bind λ k=>(vk n k 2).bind λ l=>(C5 n ([g,j,l]:List Int)).bind λ f=>bif f !=0 then k1 (a,f,())else again (c,d,(df .i64 (a+1)),p,b,())else k0 (p,b,())
def Ag:bh (Yl×(Int->Option Bool)×aZ×Int×Int×Unit) Unit (Int×Int×Unit) dy:=λ(p,c,d,f,a,_) again (k0,k1,_)=>bif decide (a<f)then(aG d a).bind λ e=>(cQ 0 2).bind λ u=>(aG [e.1,e.2] 0).bind λ x=>(c x).bind λ b=>(bI b (cQ 1 2) ()).bind λ s=>(bI b (aG [e.1,e.2] 1) 0).bind λ i=>(bI b (c i) false).bind λ j=>(vk n (b&&j) 6).bind λ k=>(cQ 0 2).bind λ t=>(aG [e.1,e.2] 0).bind λ l=>(cQ 1 2).bind λ v=>(aG [e.1,e.2] 1).bind λ m=>(vk n (l !=m) 11).bind λ o=>(iB p.2 0 a).bind λ q=>(BY n q e).bind λ r=>(vk n (!r) 26).bind λ h=>(C5 n ([k,o,h]:List Int)).bind λ g=>bif g !=0 then k1 (a,g,())else again (p,c,d,f,(df .i64 (a+1)),())else k0 ()
def xg(p:bZ×aZ):Option dy:=(vk n (decide ((cr p.1:Int)>0)) 10).bind λ x=>(vk n (decide ((cr p.1:Int)<=6)) 8).bind λ h=>(C5 n ([x,h]:List Int)).bind λ c=>bif c !=0 then some (0,c)else cq (Au n) n (p.1,(cr p.1:Int),0,p.1,p.2,()) (λ(b,a,_)=>bif decide ((cr a:Int)>30)then some (0,8)else cq (Ag n) n ((b,a),(λ i=>vO n i (b,a)),a,(cr a:Int),0,()) (λ(_)=>some (0,0),λ(d,f,_)=>some (d,f),()),λ(e,g,_)=>some (e,g),())
def QX:=(OO n).a 43 ⟨[qG],[],[Z0,Z0],λ x y=>xg n x,false⟩
theorem h14:Eo (QX n):=gD Rs.FM (Sp n) func43 (O:= [_,_]) ⟨gh n (Sp n) (eN 104 [Xb 1 104,aT 28 gv,aT 29 Z0,aT 30 Z0] [X0 104]) [fq 0 104 [Xb 1 104] [X0 104],fw 104 [aT 2 Z0,aT 3 Z0] []] (Au n),gh n (Sp n) (eN 104 [Xp 1 qG,aT 8 Jz,aT 65 dK,aT 66 Z0,aT 67 Z0] []) [fq 2 104 [] [],fw 104 [aT 2 Z0,aT 3 Z0] []] (Ag n),trivial⟩
def tx(p:bZ×aZ):Option (Yl×Int):=(xg n p).bind λ x=>some (p,x.2)
def Rf:=(QX n).a 87 ⟨[qG],[],[qG,Z0],λ x y=>tx n x,false⟩
theorem Vw:Eo (Rf n):=dw Rs.FM (h14 n) func87
def Dy(a:Int):=(H2 n a 0 3).bind λ x=>some x
def NZ:=(Rf n).a 132 ⟨[Z0],[],[.aO],λ x y=>Dy n x,false⟩
theorem NP:Eo (NZ n):=dw Rs.FM (Vw n) func132
def Co:bh (bZ×Int×Int×Z9×Z9×Unit) Unit (Int×Unit) Int:=λ(f,g,a,s,d,_) again (k0,k1,_)=>bif decide (a<g)then(aG f a).bind λ e=>(aG s a).bind λ b=>(aG d a).bind λ c=>(H2 n b 0 e.2).bind λ x=>(bI x (Dy n c) false).bind λ i=>(vk n (x&&i) 2).bind λ j=>(vk n ((b==0)==(c==0)) 13).bind λ k=>(C5 n ([j,k]:List Int)).bind λ h=>bif h !=0 then k1 (h,())else again (f,g,(df .i64 (a+1)),s,d,())else k0 ()
def px(p:bZ×aZ)(s:Z9×Z9):=(IY n p).bind λ x=>(bI (!((cr s.1:Int) !=x)) (IY n p) 0).bind λ b=>bif ((cr s.1:Int) !=x)|| ((cr s.2:Int) !=b)then some 10 else cq (Co n) n (p.1,(cr p.1:Int),0,s.1,s.2,()) (λ(_)=>some 0,λ(a,_)=>some a,())
def JC:=(NZ n).a 91 ⟨[qG,BW],[],[Z0],λ x y=>px n x.1 x.2,false⟩
theorem NC:Eo (JC n):=gD Rs.FM (NP n) func91 (O:= [_]) ⟨gh n (NP n) (eN 64 [Xb 3 64,aT 26 gv,aT 27 Z0,aT 28 Z0] [X1 64]) [fq 0 64 [] [],fw 64 [aT 4 Z0] []] (Co n),trivial⟩
def tj(n:Nat)(s:Z9×Z9):Option Z2:=(kZ 6 6).bind λ u=>(kZ 6 6).bind λ a=>some (((bif decide (0<6)then(s.1[0]?).getD 0 else 0),(bif decide (1<6)then(s.1[1]?).getD 0 else 0),(bif decide (2<6)then(s.1[2]?).getD 0 else 0),(bif decide (3<6)then(s.1[3]?).getD 0 else 0),(bif decide (4<6)then(s.1[4]?).getD 0 else 0),(bif decide (5<6)then(s.1[5]?).getD 0 else 0)),(bif decide (0<6)then(s.2[0]?).getD 0 else 0),(bif decide (1<6)then(s.2[1]?).getD 0 else 0),(bif decide (2<6)then(s.2[2]?).getD 0 else 0),(bif decide (3<6)then(s.2[3]?).getD 0 else 0),(bif decide (4<6)then(s.2[4]?).getD 0 else 0),(bif decide (5<6)then(s.2[5]?).getD 0 else 0))
def Oo:=(JC n).n [5,10]
theorem agq:al Rs.FM.Q (Oo n):=IV (NC n) _
def HC:fc:= ⟨[BW],[],[eB],λ x y=>tj n x,false⟩
theorem aax(x)(y):oI (Oo n) f93 [BW] [] [eB] false [] x y=(HC n).g x y:=by kernel_rfl
theorem XG:jf Rs.FM.Q 93 (HC n):=xz (agq n) Rs.FM.b (Rs.FM.a func93 (by kernel_rfl) (by decide)) (by kernel_rfl) (by kernel_rfl) (O:= []) trivial (aax n)
def KA:=(JC n).a 93 (HC n)
theorem h19:Eo (KA n):=mN (NC n) (XG n)
def Ij(p:bZ×aZ)(s:Z9×Z9):Option (Yl×Z2×Int):=(tx n p).bind λ x=>bif x.2==0 then(px n x.1 s).bind λ a=>bif a !=0 then some (x.1,((0,0,0,0,0,0),0,0,0,0,0,0),a)else(tj n s).bind λ b=>some (x.1,b,0)else bif x.2 !=0 then some (x.1,((0,0,0,0,0,0),0,0,0,0,0,0),x.2)else(tj n s).bind λ c=>some (x.1,c,0)
def OA:=(KA n).a 95 ⟨[qG,BW],[],[qG,eB,Z0],λ x y=>Ij n x.1 x.2,false⟩
theorem VP:Eo (OA n):=dw Rs.FM (h19 n) func95
def IF:=(OA n).a 133 (PJ n)
theorem PM:Eo (IF n):=mN (VP n) (ac3 n)
def yw(a:Z1×J5 Int)(b:Int):Option cn:=(kZ b 6).bind λ u=>(Gu n (hS (gw b) [a.1.1,a.1.2.1,a.1.2.2.1,a.1.2.2.2.1,a.1.2.2.2.2.1,a.1.2.2.2.2.2])).bind λ x=>(kZ b 6).bind λ d=>(Gu n (hS (gw b) [a.2.1,a.2.2.1,a.2.2.2.1,a.2.2.2.2.1,a.2.2.2.2.2.1,a.2.2.2.2.2.2])).bind λ c=>some (x,c)
def R2:=(IF n).n [1000002]
theorem aiK:al Rs.FM.Q (R2 n):=IV (PM n) _
def JH:fc:= ⟨[eB,Z0],[],[BW],λ x y=>yw n x.1 x.2,false⟩
theorem YX(x)(y):oI (R2 n) f102 [eB,Z0] [] [BW] false [] x y=(JH n).g x y:=by kernel_rfl
theorem aiN:jf Rs.FM.Q 102 (JH n):=xz (aiK n) Rs.FM.b (Rs.FM.a func102 (by kernel_rfl) (by decide)) (by kernel_rfl) (by kernel_rfl) (O:= []) trivial (YX n)
def Mp:=(IF n).a 102 (JH n)
theorem h24:Eo (Mp n):=mN (PM n) (aiN n)
def Na(p:bZ×aZ)(s:Z9×Z9)(m:Int×Int):Option (cn×Int):=(Ij n p s).bind λ x=>bif x.2.2==0 then(En n x.1 x.2.1 m).bind λ a=>bif a.2 !=0 then some ((([]:List Int),([]:List Int)),a.2)else(IY n x.1).bind λ b=>(yw n a.1 b).bind λ c=>some (c,0)else bif x.2.2 !=0 then some ((([]:List Int),([]:List Int)),x.2.2)else(IY n x.1).bind λ d=>(yw n x.2.1 d).bind λ e=>some (e,0)
def Lh:=(Mp n).a 35 ⟨[qG,BW,Z3],[],[BW,Z0],λ x y=>Na n x.1 x.2.1 x.2.2,false⟩
theorem h25:Eo (Lh n):=dw Rs.FM (h24 n) func35
def LQ:Option QG:=(DU n).bind λ x=>some (x,([4,4,0]:List Int),([0,0,0]:List Int))
def MH:=(Lh n).a 86 ⟨[],[],[gS],λ x y=>LQ n,false⟩
theorem Mw:Eo (MH n):=dw Rs.FM (h25 n) func86
def Em:bh (bZ×Int×Int×Z9×Z9×Z9×Z9×Unit) Unit (Int×Unit) Int:=λ(d,f,b,t,j,g,h,_) again (k0,k1,_)=>bif decide (b<f)then(aG d b).bind λ e=>(aG g b).bind λ a=>(aG h b).bind λ c=>(bI (!(a==(-1))) (H2 n a 0 e.2) false).bind λ x=>(bI ((a==(-1))||x) (Dy n c) false).bind λ k=>(vk n (((a==(-1))||x)&&k) 2).bind λ l=>(vk n ((c==0)|| (a !=0)) 13).bind λ m=>(C5 n ([l,m]:List Int)).bind λ i=>bif i !=0 then k1 (i,())else again (d,f,(df .i64 (b+1)),t,j,g,h,())else k0 ()
def v7(p:bZ×aZ)(t:cn×Z9×Z9):=(px n p t.1).bind λ x=>(IY n p).bind λ a=>(bI ((cr t.2.1:Int)==a) (IY n p) 0).bind λ d=>(vk n (((cr t.2.1:Int)==a)&& ((cr t.2.2:Int)==d)) 10).bind λ e=>(C5 n ([x,e]:List Int)).bind λ b=>bif b !=0 then some b else cq (Em n) n (p.1,(cr p.1:Int),0,t.1.1,t.1.2,t.2.1,t.2.2,()) (λ(_)=>some 0,λ(c,_)=>some c,())
def QI:=(MH n).a 88 ⟨[qG,gS],[],[Z0],λ x y=>v7 n x.1 x.2,false⟩
theorem UR:Eo (QI n):=gD Rs.FM (Mw n) func88 (O:= [_]) ⟨gh n (Mw n) (eN 80 [Xb 3 80,aT 37 gv,aT 38 Z0,aT 39 Z0] [X3 80]) [fq 0 80 [] [],fw 80 [aT 4 Z0] []] (Em n),trivial⟩
def ux(p:bZ×aZ)(t:cn×Z9×Z9):=(tx n p).bind λ x=>bif x.2 !=0 then some x.2 else(v7 n x.1 t).bind λ a=>some a
def Rq:=(QI n).a 21 ⟨[qG,gS],[],[Z0],λ x y=>ux n x.1 x.2,false⟩
theorem Uo:Eo (Rq n):=dw Rs.FM (UR n) func21
def vm(p:bZ×aZ)(t:cn×Z9×Z9):Option (Ah×Int):=(ux n p t).bind λ x=>bif x !=0 then some ((none:Option uy),x)else(tj n t.1).bind λ a=>some ((some (p,t,a)),0)
def LP:=(Rq n).a 90 ⟨[qG,gS],[],[qE,Z0],λ x y=>vm n x.1 x.2,false⟩
theorem h29:Eo (LP n):=dw Rs.FM (Uo n) func90
def Q9:=(LP n).a 147 (MS n)
theorem FF:Eo (Q9 n):=mN (h29 n) (aaP n)
def Te(n:Nat):bh (Int×Int×bZ×aZ×JO×EF×kj×(List Z64)×Unit) (bZ×aZ×JO×EF×kj×Unit) (qL×Bool×Unit) zp:=λ(g,a,p,d,r,f,b,c,_) again (k0,k1,_)=>bif decide (a<g)then(aG c a).bind λ e=>(aG c a).bind λ x=>bif Option.isSome (j4 (Ty.f eB) r x.1)then again (g,(df .i64 (a+1)),p,d,r,f,b,c,())else bif decide (((cr (lz (Ty.f eB) r x.1 x.2):Nat):Int)>4000)then k1 ((none:Option xh),false,())else(jk (cr b+cr ([x.1]:List Z2))).bind λ u=>again (g,(df .i64 (a+1)),p,d,(lz (Ty.f eB) r x.1 x.2),f,(b++ ([x.1]:List Z2)),c,())else k0 (p,d,r,f,b,())
def Ta:bh (kj×bZ×aZ×JO×EF×Unit) (JO×EF×Unit) (qL×Bool×Unit) zp:=λ(last,p,d,r,b,_) again (k0,k1,_)=>bif decide ((cr last:Int)>0)then(OZ n (p,d) last (cr b:Int)).bind λ x=>cq (Te n) n ((cr x:Int),0,p,d,r,b,([]:List Z2),x,()) (λ(e,f,g,c,a,_)=>bif decide ((cr a:Int)>0)then(jk (cr c+cr ([a]:List kj))).bind λ j=>again (a,e,f,g,(c++ ([a]:List kj)),())else again (a,e,f,g,c,()),λ(h,i,_)=>k1 (h,i,()),())else k0 (r,b,())
def Qs(p:bZ×aZ)(start:Z1×J5 Int):=(aG ([([start]:List Z2)]:List kj) 0).bind λ e=>(aG ([([start]:List Z2)]:List kj) 0).bind λ x=>cq (Ta n) n (x,p.1,p.2,(lz (Ty.f eB) ([]:List qm) start (0,((0,0,0,0,0,0),0,0,0,0,0,0),0,0)),([([start]:List Z2)]:List kj),()) (λ(a,b,_)=>some ((some (a,b)),true),λ(c,d,_)=>some (c,d),())
def Kp:=(Q9 n).a 124 ⟨[qG,eB],[],[K2,.aO],λ x y=>Qs n x.1 x.2,false⟩
theorem Lq:Eo (Kp n):=gD Rs.FM (FF n) func124 (O:= [_]) ⟨B8 n (FF n) (eN 90 [Xb 2 90,Xb 6 91,aT 7 Lb] [X0 90,(91,.cp Cu [.iR 92,.iR 93]),(92,.tU eB EC),(93,.jH Lb)]) [fq 0 90 [Xb 6 90] [(90,.cp Cu [.iR 91,.iR 92]),(91,.tU eB EC),(92,.jH Lb)],fw 90 [aT 4 K2,aT 5 .aO] []] (Ta n) (O:= [_]) ⟨gh n (FF n) (eN 90 [Xb 2 90,Xb 6 91,(8,.v (.iR 94)),(38,.v (.iR 95)),aT 39 Z0,aT 40 Z0] [X0 90,(91,.cp Cu [.iR 92,.iR 93]),(92,.tU eB EC),(93,.jH Lb),(94,.jH eB),(95,.jH Z69)]) [fq 2 90 [Xb 2 90,Xb 6 91,(8,.v (.iR 94))] [X0 90,(91,.cp Cu [.iR 92,.iR 93]),(92,.tU eB EC),(93,.jH Lb),(94,.jH eB)],fw 90 [aT 4 K2,aT 5 .aO] []] (Te n),trivial⟩,trivial⟩
def B4(n:Nat):bh (Ah×o4 (Int×Int×Unit)) Unit (Bool×Unit) Bool:=λ(t,f,a,g,h,k,l,m,o,p,q,r,s,i,j,_) again (k0,k1,_)=>bif decide (a<f)then t.bind λ x=>(aG x.2.1.2.1 a).bind λ e=>(bI (e !=(-1)) t (([],[]),(([],[]),[],[]),(0,0,0,0,0,0),0,0,0,0,0,0)).bind λ w=>(bI (e !=(-1)) (aG w.2.1.2.1 a) 0).bind λ b=>(bI (e !=(-1)) (cQ a 6) ()).bind λ u=>(bI (e !=(-1)) (aG [g,h,k,l,m,o] a) 0).bind λ c=>(bI (!((e !=(-1))&& (b !=c))) t (([],[]),(([],[]),[],[]),(0,0,0,0,0,0),0,0,0,0,0,0)).bind λ y=>(bI (!((e !=(-1))&& (b !=c))) (aG y.2.1.2.2 a) 0).bind λ d=>(bI ((!((e !=(-1))&& (b !=c)))&& (d !=0)) t (([],[]),(([],[]),[],[]),(0,0,0,0,0,0),0,0,0,0,0,0)).bind λ z=>(bI ((!((e !=(-1))&& (b !=c)))&& (d !=0)) (aG z.2.1.2.2 a) 0).bind λ v=>(bI ((!((e !=(-1))&& (b !=c)))&& (d !=0)) (cQ a 6) ()).bind λ B=>(bI ((!((e !=(-1))&& (b !=c)))&& (d !=0)) (aG [p,q,r,s,i,j] a) 0).bind λ A=>bif ((e !=(-1))&& (b !=c))|| ((d !=0)&& (v !=A))then k1 (false,())else again (t,f,(df .i64 (a+1)),g,h,k,l,m,o,p,q,r,s,i,j,())else k0 ()
def ud(t:Option uy)(a:Z1×J5 Int):=t.bind λ x=>cq (B4 n) n (t,(cr x.1.1:Int),0,a.1.1,a.1.2.1,a.1.2.2.1,a.1.2.2.2.1,a.1.2.2.2.2.1,a.1.2.2.2.2.2,a.2.1,a.2.2.1,a.2.2.2.1,a.2.2.2.2.1,a.2.2.2.2.2.1,a.2.2.2.2.2.2,()) (λ(_)=>some true,λ(b,_)=>some b,())
def SO:=(Kp n).a 92 ⟨[qE,eB],[],[.aO],λ x y=>ud n x.1 x.2,false⟩
theorem L0:Eo (SO n):=gD Rs.FM (Lq n) func92 (O:= [_]) ⟨gh n (Lq n) (eN 67 [aT 0 qE,Xb 3 67,aT 12 Z0,aT 13 Z0] [X2 67]) [fq 0 67 [] [],fw 67 [aT 4 .aO] []] (B4 n),trivial⟩
def N8(n:Nat):bh (kj×(Z2->Option Bool)×Int×Int×Unit) Unit (Int×Unit) Int:=λ(s,f,b,a,_) again (k0,k1,_)=>bif decide (a<b)then(aG s a).bind λ e=>(f e).bind λ x=>bif x then k1 (a,())else again (s,f,b,(df .i64 (a+1)),())else k0 ()
def Pg(s:List Z2)(f:Z2->Option Bool):=cq (N8 n) n (s,f,(cr s:Int),0,()) (λ(_)=>some (-1),λ(a,_)=>some a,())
def Ti:=(SO n).a 141 ⟨[Lb,Z67],[],[Z0],λ x y=>Pg n x.1 x.2,false⟩
theorem M7:Eo (Ti n):=gD Rs.FM (L0 n) func141 (O:= [_]) ⟨gh n (L0 n) (eN 19 [aT 0 Lb,aT 1 Z67,aT 7 Z0,aT 8 Z0] []) [fq 0 19 [] [],fw 19 [aT 4 Z0] []] (N8 n),trivial⟩
def T6:bh (Ah×qL×EF×o4 (Int×Int×Unit)) (o4 Unit) (qL×o4 (Int×Unit)) Iq:=λ(t,r,c,d,b,f,g,j,k,l,m,o,p,q,s,h,i,_) again (k0,k1,_)=>bif decide (b<d)then(aG c b).bind λ e=>(Pg n e (λ u=>ud n t u)).bind λ x=>bif decide (x>=0)then(aG e x).bind λ a=>k1 (r,0,a.1.1,a.1.2.1,a.1.2.2.1,a.1.2.2.2.1,a.1.2.2.2.2.1,a.1.2.2.2.2.2,a.2.1,a.2.2.1,a.2.2.2.1,a.2.2.2.2.1,a.2.2.2.2.2.1,a.2.2.2.2.2.2,())else again (t,r,c,d,(df .i64 (b+1)),f,g,j,k,l,m,o,p,q,s,h,i,())else k0 (f,g,j,k,l,m,o,p,q,s,h,i,())
def Qu(t:Option uy):Option Iq:=t.bind λ x=>t.bind λ r=>(Qs n x.1 r.2.2).bind λ a=>bif !a.2 then some ((none:Option xh),((0,0,0,0,0,0),0,0,0,0,0,0),8)else a.1.bind λ b=>cq (T6 n) n (t,a.1,b.2,(cr b.2:Int),0,0,0,0,0,0,0,0,0,0,0,0,0,()) (λ(s,u,v,w,y,z,A,B,C,D,E,F,_)=>some ((none:Option xh),((0,0,0,0,0,0),0,0,0,0,0,0),12),λ(c,q,d,e,f,g,h,i,j,k,l,m,o,p,_)=>some (c,((d,e,f,g,h,i),j,k,l,m,o,p),q),())
def Nq:=(Ti n).a 113 ⟨[qE],[],[K2,eB,Z0],λ x y=>Qu n x,false⟩
theorem h34:Eo (Nq n):=gD Rs.FM (M7 n) func113 (O:= [_]) ⟨gh n (M7 n) (eN 47 [aT 0 qE,Xb 3 47,aT 5 K2,aT 28 qJ,aT 29 Z0,aT 30 Z0] [X2 47]) [fq 0 47 [Xb 3 47] [X2 47],fw 47 [aT 2 K2,Xb 3 47,aT 4 Z0] [X2 47]] (T6 n),trivial⟩
def OD(p:bZ×aZ)(t:cn×Z9×Z9):Option dy:=(vm n p t).bind λ x=>bif x.2 !=0 then some (0,x.2)else(Qu n x.1).bind λ a=>bif a.2.2 !=0 then some (0,a.2.2)else a.1.bind λ b=>some ((fz (j4 (Ty.f eB) b.1 a.2.1) (0,((0,0,0,0,0,0),0,0,0,0,0,0),0,0)).1,0)
def Nb:=(Nq n).a 56 ⟨[qG,gS],[],[Z0,Z0],λ x y=>OD n x.1 x.2,false⟩
theorem Zs:Eo (Nb n):=dw Rs.FM (h34 n) func56
def Tt(b:Int)(a:bZ×aZ):=(IY n a).bind λ x=>(H2 n b 0 (df .i64 (x- 1))).bind λ c=>some c
def Ri:=(Nb n).a 98 ⟨[Z0],[qG],[.aO],λ x y=>Tt n x y,false⟩
theorem Kj:Eo (Ri n):=dw Rs.FM (Zs n) func98
def Lg:bh (Yl×(Int->Option Bool)×(List Z57)×Int×Int×bZ×aZ×Z9×Z9×o4 Unit) (Yl×Z9×Z9×o4 Unit) (Int×Unit) Z61:=λ(A,t,y,z,v,p,C,s,w,d,f,g,h,i,j,m,o,q,r,k,l,_) again (k0,k1,_)=>bif decide (v<z)then(aG y v).bind λ e=>(t e.1).bind λ x=>(bI x (t e.2.1) false).bind λ G=>(vk n (x&&G) 6).bind λ M=>(vk n (e.1 !=e.2.1) 11).bind λ N=>(EJ n e.2.2).bind λ O=>(vk n O 2).bind λ P=>(C5 n ([M,N,P]:List Int)).bind λ E=>bif E !=0 then k1 (E,())else(cQ e.1 6).bind λ u=>(aG [m,o,q,r,k,l] e.1).bind λ c=>(cQ e.1 6).bind λ S=>(aG [d,f,g,h,i,j] e.1).bind λ Q=>(vk n (decide (Q>=e.2.2)) 12).bind λ R=>(cQ e.2.1 6).bind λ V=>(aG [d,f,g,h,i,j] e.2.1).bind λ H=>(aG p e.2.1).bind λ F=>(vk n (decide ((df .i64 (H+e.2.2))<=F.2)) 16).bind λ I=>(cQ e.2.1 6).bind λ W=>(aG [m,o,q,r,k,l] e.2.1).bind λ B=>(bI (!(B==0)) (cQ e.2.1 6) ()).bind λ X=>(bI (!(B==0)) (aG [m,o,q,r,k,l] e.2.1) 0).bind λ J=>(vk n ((B==0)|| (J==c)) 13).bind λ K=>(C5 n ([R,I,K]:List Int)).bind λ D=>bif D !=0 then k1 (D,())else(cQ e.1 6).bind λ Y=>(aG [d,f,g,h,i,j] e.1).bind λ a=>(cQ e.1 6).bind λ Z=>(cQ e.2.1 6).bind λ aa=>(aG [(bif decide (e.1=0)then(df .i64 (a- e.2.2))else d),(bif decide (e.1=1)then(df .i64 (a- e.2.2))else f),(bif decide (e.1=2)then(df .i64 (a- e.2.2))else g),(bif decide (e.1=3)then(df .i64 (a- e.2.2))else h),(bif decide (e.1=4)then(df .i64 (a- e.2.2))else i),(bif decide (e.1=5)then(df .i64 (a- e.2.2))else j)] e.2.1).bind λ b=>(cQ e.2.1 6).bind λ ab=>(cQ e.2.1 6).bind λ ac=>(cQ e.1 6).bind λ T=>(aG [(bif decide (e.2.1=0)then(df .i64 (b+e.2.2))else(bif decide (e.1=0)then(df .i64 (a- e.2.2))else d)),(bif decide (e.2.1=1)then(df .i64 (b+e.2.2))else(bif decide (e.1=1)then(df .i64 (a- e.2.2))else f)),(bif decide (e.2.1=2)then(df .i64 (b+e.2.2))else(bif decide (e.1=2)then(df .i64 (a- e.2.2))else g)),(bif decide (e.2.1=3)then(df .i64 (b+e.2.2))else(bif decide (e.1=3)then(df .i64 (a- e.2.2))else h)),(bif decide (e.2.1=4)then(df .i64 (b+e.2.2))else(bif decide (e.1=4)then(df .i64 (a- e.2.2))else i)),(bif decide (e.2.1=5)then(df .i64 (b+e.2.2))else(bif decide (e.1=5)then(df .i64 (a- e.2.2))else j))] e.1).bind λ L=>bif L==0 then(cQ e.1 6).bind λ U=>again (A,t,y,z,(df .i64 (v+1)),p,C,s,w,(bif decide (e.2.1=0)then(df .i64 (b+e.2.2))else(bif decide (e.1=0)then(df .i64 (a- e.2.2))else d)),(bif decide (e.2.1=1)then(df .i64 (b+e.2.2))else(bif decide (e.1=1)then(df .i64 (a- e.2.2))else f)),(bif decide (e.2.1=2)then(df .i64 (b+e.2.2))else(bif decide (e.1=2)then(df .i64 (a- e.2.2))else g)),(bif decide (e.2.1=3)then(df .i64 (b+e.2.2))else(bif decide (e.1=3)then(df .i64 (a- e.2.2))else h)),(bif decide (e.2.1=4)then(df .i64 (b+e.2.2))else(bif decide (e.1=4)then(df .i64 (a- e.2.2))else i)),(bif decide (e.2.1=5)then(df .i64 (b+e.2.2))else(bif decide (e.1=5)then(df .i64 (a- e.2.2))else j)),(bif decide (e.1=0)then 0 else(bif decide (e.2.1=0)then c else m)),(bif decide (e.1=1)then 0 else(bif decide (e.2.1=1)then c else o)),(bif decide (e.1=2)then 0 else(bif decide (e.2.1=2)then c else q)),(bif decide (e.1=3)then 0 else(bif decide (e.2.1=3)then c else r)),(bif decide (e.1=4)then 0 else(bif decide (e.2.1=4)then c else k)),(bif decide (e.1=5)then 0 else(bif decide (e.2.1=5)then c else l)),())else again (A,t,y,z,(df .i64 (v+1)),p,C,s,w,(bif decide (e.2.1=0)then(df .i64 (b+e.2.2))else(bif decide (e.1=0)then(df .i64 (a- e.2.2))else d)),(bif decide (e.2.1=1)then(df .i64 (b+e.2.2))else(bif decide (e.1=1)then(df .i64 (a- e.2.2))else f)),(bif decide (e.2.1=2)then(df .i64 (b+e.2.2))else(bif decide (e.1=2)then(df .i64 (a- e.2.2))else g)),(bif decide (e.2.1=3)then(df .i64 (b+e.2.2))else(bif decide (e.1=3)then(df .i64 (a- e.2.2))else h)),(bif decide (e.2.1=4)then(df .i64 (b+e.2.2))else(bif decide (e.1=4)then(df .i64 (a- e.2.2))else i)),(bif decide (e.2.1=5)then(df .i64 (b+e.2.2))else(bif decide (e.1=5)then(df .i64 (a- e.2.2))else j)),(bif decide (e.2.1=0)then c else m),(bif decide (e.2.1=1)then c else o),(bif decide (e.2.1=2)then c else q),(bif decide (e.2.1=3)then c else r),(bif decide (e.2.1=4)then c else k),(bif decide (e.2.1=5)then c else l),())else k0 (A,s,w,d,f,g,h,i,j,m,o,q,r,k,l,())
def P6(p:bZ×aZ)(s:Z9×Z9)(l:List Z57):Option Z61:=(Ij n p s).bind λ x=>(vk n (decide ((cr l:Int)<=20)) 8).bind λ v=>(C5 n ([x.2.2,v]:List Int)).bind λ b=>bif b !=0 then some (((([]:List Int),([]:List Int)),([]:List Int),([]:List Int)),b)else cq (Lg n) n (x.1,(λ C=>Tt n C x.1),l,(cr l:Int),0,p.1,p.2,s.1,s.2,x.2.1.1.1,x.2.1.1.2.1,x.2.1.1.2.2.1,x.2.1.1.2.2.2.1,x.2.1.1.2.2.2.2.1,x.2.1.1.2.2.2.2.2,x.2.1.2.1,x.2.1.2.2.1,x.2.1.2.2.2.1,x.2.1.2.2.2.2.1,x.2.1.2.2.2.2.2.1,x.2.1.2.2.2.2.2.2,()) (λ(a,c,d,f,g,h,i,j,k,m,o,q,r,t,u,_)=>(IY n a).bind λ w=>(yw n ((f,g,h,i,j,k),m,o,q,r,t,u) w).bind λ y=>(tj n (c,d)).bind λ z=>(IY n a).bind λ A=>(yw n z A).bind λ B=>some ((B,y),0),λ(e,_)=>some (((([]:List Int),([]:List Int)),([]:List Int),([]:List Int)),e),())
def NF:=(Ri n).a 29 ⟨[qG,BW,(.aH Z5)],[],[gS,Z0],λ x y=>P6 n x.1 x.2.1 x.2.2,false⟩
theorem VK:Eo (NF n):=gD Rs.FM (Kj n) func29 (O:= [_]) ⟨gh n (Kj n) (eN 173 [Xb 3 173,Xb 4 174,Xb 6 175,Xp 8 qG,Xb 9 176,aT 11 Jz,aT 37 (.aH Z5),aT 38 Z0,aT 39 Z0] [X0 173,X1 174,X7 175,X2 176]) [fq 0 173 [Xb 4 173,Xb 6 174,Xp 8 qG,Xb 9 175] [X1 173,X7 174,X2 175],fw 173 [Xb 6 173,aT 7 Z0] [X7 173]] (Lg n),trivial⟩
def Tn:=(NF n).a 157 (M6 n)
theorem h38:Eo (Tn n):=mN (VK n) (aeb n)
def Nh:=(Tn n).a 184 (T7 n)
theorem h39:Eo (Nh n):=mN (h38 n) (abx n)
def Gi(s a:fh):=(BL n s a).bind λ x=>some x
def pf:=(Nh n).a 158 ⟨[.aJ,.aJ],[],[Z0],λ x y=>Gi n x.1 x.2,false⟩
theorem El:Eo (pf n):=dw Rs.FM (h39 n) func158
def Is:bh (fh×Unit) Unit Unit LJ:=λ(a,_) again (k0,k1,_)=>bif decide ((cr a:Int)>0)then(KJ n a).bind λ x=>(iB a 0 x.2).bind λ b=>tG (α:=fh) b ((iB a x.2 (cr a:Int)).bind λ c=>again (c,())) (k1 ())else k0 ()
def Gy:bh (fh×fh×Int×Unit) (fh×Unit) Unit LJ:=λ(b,a,c,_) again (k0,k1,_)=>(Gi n a b).bind λ x=>bif decide (x<0)then k0 (a,())else(iB a 0 (df .i64 (x+c))).bind λ d=>tG (α:=fh) d ((iB a (df .i64 (x+ (cr b:Int))) (cr a:Int)).bind λ e=>again (b,e,c,())) (k1 ())
def Nc(a c1:fh)(c2:Int):=bif (cr a:Int)==0 then cq (Is n) n (c1,()) (λ(_)=>some [],λ(_)=>some [],())else cq (Gy n) n (a,c1,c2,()) (λ(b,_)=>tG (α:=fh) b (some []) (some []),λ(_)=>some [],())
def IX:cf:= ⟨52,[.aJ],[(0,.v (.sZ)),Xb 2 52],[X6 52],[]⟩
def Td:List (dN×cf):= [(.ou 0,⟨52,[],[],[],[]⟩),(.sT,⟨52,[],[],[],[]⟩)]
def I4:Ev (List (ax [.aJ])):=mG n (pf n) IX Td (Is n)
theorem UM d again ks:dv (R:=(List (ax [.aJ]))) (pf n) (jP [.aJ]) (iw (lp (bd hR) 0)) [] (mk IX d) (mL (pf n) IX Td again ks)=Is n d again ks:=by kernel_rfl
theorem aeA:eS Rs.FM.Q (jP [.aJ]) false (lp (bd hR) 0) (I4 n):=rk (El n) Rs.FM.b (by kernel_rfl) (O:= []) trivial (UM n)
def Ip:cf:= ⟨52,[.aJ,.aJ,Z0],[(0,.v (.sZ)),Xb 1 52,Xb 2 53,Xb 3 54],[X6 52,X6 53,X4 54],[]⟩
def Pn:List (dN×cf):= [(.ou 2,⟨52,[.aJ],[(0,.v (.sZ)),Xb 2 52],[X6 52],[]⟩),(.sT,⟨52,[],[],[],[]⟩)]
def HL:Ev (List (ax [.aJ])):=mG n (pf n) Ip Pn (Gy n)
theorem ahD d again ks:dv (R:=(List (ax [.aJ]))) (pf n) (jP [.aJ]) (iw (lp (bd hR) 1)) [] (mk Ip d) (mL (pf n) Ip Pn again ks)=Gy n d again ks:=by kernel_rfl
theorem af6:eS Rs.FM.Q (jP [.aJ]) false (lp (bd hR) 1) (HL n):=rk (El n) Rs.FM.b (by kernel_rfl) (O:= []) trivial (ahD n)
def aeW(e c1:fh)(c2:Int):au:={N:=52,d:= [],a:=(0,⟨[],true,.v .ku⟩):: [(1,⟨[],true,.v (.dx 0 0 0)⟩),(2,⟨[],true,.v (.dx 1 0 0)⟩),(3,⟨[],true,.v (.dx 2 0 0)⟩)],b:= [(0,0,.eu .aJ [.aE .aJ e]),(1,0,.eu .aJ [.aE .aJ c1]),(2,0,.eu Z0 [.aE Z0 c2])],c:= []}
theorem aeY(a)(c1)(c2):dv (R:=(List (ax [.aJ]))) (pf n) (jP [.aJ]) (bd hR) [I4 n,HL n] (aeW a c1 c2) Cb=Nc n a c1 c2:=by kernel_rfl
theorem ahS:eS Rs.FM.Q (jP [.aJ]) false (bd hR) (dv (R:=(List (ax [.aJ]))) (pf n) (jP [.aJ]) (bd hR) [I4 n,HL n]):=ji (El n) Rs.FM.b _ _ (my ⟨aeA n,af6 n,trivial⟩)
def HO(s t:fh):Option K8:=Nc n t s 0
theorem YH:Ej Rs.FM.Q 115 .aJ (HO n):=ZA (ahS n) λ s t=>aeY n t s 0
def Pp:=pf n
theorem h41:Eo (Pp n):=El n
def MB:=(Pp n).a 159 (Ps n)
theorem h42:Eo (MB n):=mN (h41 n) (ahr n)
def Pa:=(MB n).a 160 (QB n)
theorem TY:Eo (Pa n):=mN (h42 n) (aeV n)
def Fw:u9 (fh×fh×J3 (K8×Unit)) (fh×Int×K8×Unit) K8:=λ(s,sep,b,c,i,a,_) again (k0,_)=>bif decide (i<c)then(Gi n s sep).bind λ x=>bif decide (x<0)then k0 (s,i,a,())else(iB s 0 (df .i64 (x+b))).bind λ d=>(aG a i).bind λ e=>(tD a i d).bind λ l=>(iB s (df .i64 (x+ (cr sep:Int))) (cr s:Int)).bind λ f=>again (f,sep,b,c,(df .i64 (i+1)),l,())else k0 (s,i,a,())
def MC(s sep:fh)(g a:Int):Option K8:=bif a==0 then some ([]:List fh)else bif sep== []then(TI n s a).bind λ x=>some x else bif decide (a<0)then(Bp n s sep).bind λ d=>(CO (bu (df .i64 (d+1)) (df .i64 ((cr s:Int)+1)))).bind λ u=>cq (Fw n) n (s,sep,g,(df .i64 ((bu (df .i64 (d+1)) (df .i64 ((cr s:Int)+1)))- 1)),0,(ei (gw (bu (df .i64 (d+1)) (df .i64 ((cr s:Int)+1)))) []),()) (λ(j,b,e,_)=>(aG e b).bind λ o=>(tD e b j).bind λ h=>(iB h 0 (df .i64 (b+1))).bind λ l=>some l,())else(CO (bu a (df .i64 ((cr s:Int)+1)))).bind λ q=>cq (Fw n) n (s,sep,g,(df .i64 ((bu a (df .i64 ((cr s:Int)+1)))- 1)),0,(ei (gw (bu a (df .i64 ((cr s:Int)+1)))) []),()) (λ(k,c,f,_)=>(aG f c).bind λ p=>(tD f c k).bind λ i=>(iB i 0 (df .i64 (c+1))).bind λ m=>some m,())
def M3:=(Pa n).a 146 ⟨[.aJ,.aJ,Z0,Z0],[],[Z70],λ x y=>MC n x.1 x.2.1 x.2.2.1 x.2.2.2,false⟩
theorem h44:Eo (M3 n):=gD Rs.FM (TY n) func146 (O:= [_]) ⟨gh n (TY n) (eN 66 [aT 0 .aJ,aT 1 .aJ,aT 2 Z0,aT 3 Z0,(9,.v (.iR 66)),aT 10 Z0] [(66,.jH .aJ)]) [fq 0 66 [aT 0 .aJ,(9,.v (.iR 66)),aT 10 Z0] [(66,.jH .aJ)]] (Fw n),trivial⟩
def Qd(s sep:fh):=(MC n s sep 0 (-1)).bind λ x=>some x
def qA:=(M3 n).a 116 ⟨[.aJ,.aJ],[],[Z70],λ x y=>Qd n x.1 x.2,false⟩
theorem HN:Eo (qA n):=dw Rs.FM (h44 n) func116
def BN:alQ (bZ×aZ×Int×aZ×Bool×Unit) fh (Int×Unit) Z66:=λ(p,g,h,out,missing,_) y again (k0,_)=>(Qd n y [32]).bind λ x=>(bI (!((cr x:Int) !=2)) (aG x 0) []).bind λ e=>(bI (!(((cr x:Int) !=2)|| (e== []))) (aG x 1) []).bind λ c=>bif (((cr x:Int) !=2)|| (e== []))|| (c== [])then k0 (7,())else(aG x 0).bind λ d=>(vV n p d).bind λ a=>(aG x 1).bind λ f=>(vV n p f).bind λ b=>(jk (cr out+cr ([(a,b)]:List dy))).bind λ u=>again (p,g,h,(out++ ([(a,b)]:List dy)),((missing|| (decide (a<0)))|| (decide (b<0))),())
def LL(p:bZ×aZ)(s:fh):Option Z66:=(tx n p).bind λ x=>bif x.2 !=0 then some (([]:List dy),x.2)else bif s== []then some (([]:List dy),0)else(HO n s [59]).bind λ xs=>la (BN n) (λ(c,_)=>some (([]:List dy),c),()) (λ(d,e,f,b,a,_)=>bif a then some (([]:List dy),6)else some (b,0)) xs (p.1,p.2,0,([]:List dy),false,())
def uc:cf:= ⟨73,[gv,dK,Z0,dK,.aO],[Xb 2 73,Xb 4 74,Xb 5 75,Xb 8 76,Xb 9 78],[X0 73,(74,.cp dK [.j6]),X4 75,(76,.cp dK [.iR 77]),(77,.jH Z3),X5 78],[]⟩
def Gr:List (dN×cf):= [(.sT,⟨73,[Z0],[Xb 4 73,Xb 5 74],[(73,.cp dK [.j6]),X4 74],[]⟩)]
theorem aaS(d)(x)(again)(ks):dv (R:=(ax [dK,Z0])) (qA n) (bT.b (R:=(ax [dK,Z0]))) (D8 (pE 5 (bd f58))) [] (yO uc [2,4,5,8,9] [25] [.aJ] d x) (tH λ st=>dv (R:=(ax [dK,Z0])) (qA n) (bT.b (R:=(ax [dK,Z0]))) (Dt (pE 5 (bd f58))) [] st (wR (qA n) uc [2,4,5,8,9] Gr again ks))=BN n d x again ks:=by kernel_rfl
def JN:fc:= ⟨[qG,.aJ],[],[dK,Z0],λ x y=>LL n x.1 x.2,false⟩
theorem XJ:CD 1 23 24 115 0 25 [59] (pE 5 (bd f58))=true:=by kernel_rfl
theorem WE:qp (R:=(ax [dK,Z0])) Rs.FM.Q (qA n) [.aJ] [25] (D8 (pE 5 (bd f58))) (Dt (pE 5 (bd f58))) [] [] uc [2,4,5,8,9] Gr (BN n):=ab1 (HN n) Rs.FM.b rfl (by decide) (by decide) rfl trivial trivial (aaS n)
theorem abU(d)(k)(sl)(h:Map.av (mk uc d).a k=some sl):k≠23/\k≠24:=U7 (T:=uc) (by kernel_rfl) d k sl h
theorem aet(x)(y):(xP (qA n) (bT.b (R:=(ax [dK,Z0]))) (Eu (qA n) .aJ (.tmp 1) (λ s=>HO n s [59]) uc Gr (BN n) 0) 5 (bd f58)) (uN f58.ntmps [qG,.aJ] [] x y) (xj (qA n) false f58.results.toList [dK,Z0])=(JN n).g x y:=by kernel_rfl
theorem Zf:jf Rs.FM.Q 58 (JN n):=ZQ (HN n) Rs.FM.b (Rs.FM.a func58 (by kernel_rfl) (by decide)) (by kernel_rfl) (by kernel_rfl) (by kernel_rfl) (YH n) XJ (by kernel_rfl) (by decide) (by decide) (by decide) (WE n) abU (aet n)
def Rl:=(qA n).a 58 (JN n)
theorem Tq:Eo (Rl n):=mN (HN n) (Zf n)
def Pu(n:Nat):bh (Z9×Z9×Int×Unit) Unit (Bool×Unit) Bool:=λ(a,b,i,_) again (k0,k1,_)=>bif decide (i< (cr a:Int))then(aG a i).bind λ e=>(aG b i).bind λ c=>bif e !=c then k1 (false,())else again (a,b,(df .i64 (i+1)),())else k0 ()
def zL(a b:List Int):=bif (cr a:Int) !=(cr b:Int)then some false else cq (Pu n) n (a,b,0,()) (λ(_)=>some true,λ(c,_)=>some c,())
def Mb:=(Rl n).a 82 ⟨[Z4,Z4],[],[.aO],λ x y=>zL n x.1 x.2,false⟩
theorem h47:Eo (Mb n):=gD Rs.FM (Tq n) func82 (O:= [_]) ⟨gh n (Tq n) (eN 26 [aT 0 Z4,aT 1 Z4,aT 5 Z0] []) [fq 0 26 [] [],fw 26 [aT 4 .aO] []] (Pu n),trivial⟩
def Mn(a b:Z9×Z9):=(zL n a.1 b.1).bind λ x=>(bI x (zL n a.2 b.2) false).bind λ c=>some (x&&c)
def P3:=(Mb n).a 41 ⟨[BW,BW],[],[.aO],λ x y=>Mn n x.1 x.2,false⟩
theorem OJ:Eo (P3 n):=dw Rs.FM (h47 n) func41
def Sk(n:Nat):bh (aZ×aZ×Int×Unit) Unit (Bool×Unit) Bool:=λ(a,b,i,_) again (k0,k1,_)=>bif decide (i< (cr a:Int))then(aG a i).bind λ e=>(aG b i).bind λ c=>bif !((e.1==c.1)&& (e.2==c.2))then k1 (false,())else again (a,b,(df .i64 (i+1)),())else k0 ()
def RH(a b:List dy):=bif (cr a:Int) !=(cr b:Int)then some false else cq (Sk n) n (a,b,0,()) (λ(_)=>some true,λ(c,_)=>some c,())
def Qo:=(P3 n).a 38 ⟨[dK,dK],[],[.aO],λ x y=>RH n x.1 x.2,false⟩
theorem h49:Eo (Qo n):=gD Rs.FM (OJ n) func38 (O:= [_]) ⟨gh n (OJ n) (eN 26 [aT 0 dK,aT 1 dK,aT 5 Z0] []) [fq 0 26 [] [],fw 26 [aT 4 .aO] []] (Sk n),trivial⟩
def FJ:=(zC n).bind λ x=>(DU n).bind λ h=>(Na n x h (0,1)).bind λ b=>(zC n).bind λ j=>(LQ n).bind λ k=>(OD n j k).bind λ a=>(zC n).bind λ l=>(DU n).bind λ m=>(P6 n l m ([(0,1,2),(1,2,1)]:List Z57)).bind λ c=>(zC n).bind λ o=>(LL n o [97,32,98,59,98,32,99]).bind λ e=>(bI (b.2==0) (Mn n b.1 (([3,5,0]:List Int),([1,1,0]:List Int))) false).bind λ d=>(bI (((((b.2==0)&&d)&& (a.2==0))&& (a.1==7))&& (c.2==0)) (zL n c.1.2.1 ([6,1,1]:List Int)) false).bind λ f=>(bI ((((((b.2==0)&&d)&& (a.2==0))&& (a.1==7))&& (c.2==0))&&f) (zL n c.1.2.2 ([1,1,1]:List Int)) false).bind λ g=>(bI ((((((((b.2==0)&&d)&& (a.2==0))&& (a.1==7))&& (c.2==0))&&f)&&g)&& (e.2==0)) (RH n e.1 ([(0,1),(1,2)]:List dy)) false).bind λ i=>some (((((((((b.2==0)&&d)&& (a.2==0))&& (a.1==7))&& (c.2==0))&&f)&&g)&& (e.2==0))&&i)
def Rn:=(Qo n).a 17 ⟨[],[],[.aO],λ x y=>FJ n,false⟩
theorem h50:Eo (Rn n):=dw Rs.FM (h49 n) func17
def qg(n:Nat)(a lo b:Int):=some ((decide (lo<=a))&& (decide (a<=b)))
def OS:=(Rn n).a 47 ⟨[Z0,Z0,Z0],[],[.aO],λ x y=>qg n x.1 x.2.1 x.2.2,false⟩
theorem LN:Eo (OS n):=dw Rs.FM (h50 n) func47
def yJ:bh (Int×bZ×aZ×Unit) Unit (Bool×Unit) Bool:=λ(i,p,b,_) again (k0,k1,_)=>bif decide (i< (cr p:Int))then(aG p i).bind λ e=>(bI (!(decide ((cr e.1:Int)>20))) (aG p i) ([],0)).bind λ a=>(bI (!(decide ((cr e.1:Int)>20))) (qg n a.2 11 50) false).bind λ x=>bif (decide ((cr e.1:Int)>20))||x then k1 (false,())else again ((df .i64 (i+1)),p,b,())else k0 ()
def xB(p:bZ×aZ):=bif ((((decide ((cr p.1:Int)>4))&& (decide ((cr p.1:Int)<=6)))|| (decide ((cr p.1:Int)>8)))|| ((decide ((cr p.2:Int)>14))&& (decide ((cr p.2:Int)<=30))))|| (decide ((cr p.2:Int)>32))then some false else cq (yJ n) n (0,p.1,p.2,()) (λ(_)=>some true,λ(a,_)=>some a,())
def Nw:=(OS n).a 18 ⟨[qG],[],[.aO],λ x y=>xB n x,false⟩
theorem h52:Eo (Nw n):=gD Rs.FM (LN n) func18 (O:= [_]) ⟨gh n (LN n) (eN 62 [Xb 1 62,aT 3 Z0] [X0 62]) [fq 0 62 [] [],fw 62 [aT 2 .aO] []] (yJ n),trivial⟩
def wX(n:Nat)(s:Z9×Z9):=some ((decide ((cr s.1:Int)<=10))&& (decide ((cr s.2:Int)<=10)))
def Sj:=(Nw n).a 20 ⟨[BW],[],[.aO],λ x y=>wX n x,false⟩
theorem h53:Eo (Sj n):=dw Rs.FM (h52 n) func20
def zS(t:cn×Z9×Z9):=(wX n t.1).bind λ x=>some ((x&& (decide ((cr t.2.1:Int)<=10)))&& (decide ((cr t.2.2:Int)<=10)))
def Sf:=(Sj n).a 19 ⟨[gS],[],[.aO],λ x y=>zS n x,false⟩
theorem h54:Eo (Sf n):=dw Rs.FM (h53 n) func19
def wL(n:Nat)(p:bZ×aZ):Option Yl:=(jk (cr ([]:List cN)+cr p.1)).bind λ u=>(jk (cr ([]:List dy)+cr p.2)).bind λ a=>some ((([]:List cN)++p.1),(([]:List dy)++p.2))
def Mv:=(Sf n).a 22 ⟨[qG],[],[qG],λ x y=>wL n x,false⟩
theorem WJ:Eo (Mv n):=dw Rs.FM (h54 n) func22
def uV(n:Nat)(l:List Int):Option Z9:=(jk (cr ([]:List Int)+cr l)).bind λ u=>some (([]:List Int)++l)
def NG:=(Mv n).a 89 ⟨[Z4],[],[Z4],λ x y=>uV n x,true⟩
theorem h56:Eo (NG n):=dw Rs.FM (WJ n) func89
def th(s:Z9×Z9):Option cn:=(uV n s.1).bind λ x=>(uV n s.2).bind λ a=>some (x,a)
def Rx:=(NG n).a 25 ⟨[BW],[],[BW],λ x y=>th n x,true⟩
theorem h57:Eo (Rx n):=dw Rs.FM (h56 n) func25
def xf(t:cn×Z9×Z9):Option QG:=(th n t.1).bind λ x=>(uV n t.2.1).bind λ a=>(uV n t.2.2).bind λ b=>some (x,a,b)
def NB:=(Rx n).a 23 ⟨[gS],[],[gS],λ x y=>xf n x,false⟩
theorem Zu:Eo (NB n):=dw Rs.FM (h57 n) func23
def yx(n:Nat):bh (fh×Int×Unit) Unit (Bool×Unit) Bool:=λ(s,i,_) again (k0,k1,_)=>bif decide (i< (cr s:Int))then(aG s i).bind λ c=>bif (!(((decide (((ea c:Nat):Int)>=97))&& (decide (((ea c:Nat):Int)<=122)))|| ((decide (((ea c:Nat):Int)>=65))&& (decide (((ea c:Nat):Int)<=90)))))&& ((i==0)|| ((((ea c:Nat):Int) !=45)&& ((decide (((ea c:Nat):Int)<48))|| (decide (((ea c:Nat):Int)>57)))))then k1 (false,())else again (s,(df .i64 (i+1)),())else k0 ()
def EH(s:fh):=bif (decide ((cr s:Int)<1))|| (decide ((cr s:Int)>12))then some false else cq (yx n) n (s,0,()) (λ(_)=>some true,λ(a,_)=>some a,())
def Pm:=(NB n).a 110 ⟨[.aJ],[],[.aO],λ x y=>EH n x,false⟩
theorem Oe:Eo (Pm n):=gD Rs.FM (Zu n) func110 (O:= [_]) ⟨gh n (Zu n) (eN 55 [aT 0 .aJ,aT 3 Z0] []) [fq 0 55 [] [],fw 55 [aT 2 .aO] []] (yx n),trivial⟩
def zF(p:bZ×aZ)(a:Int):=(qg n a 0 (df .i64 ((cr p.1:Int)- 1))).bind λ x=>some x
def Ny:=(Pm n).a 80 ⟨[qG,Z0],[],[.aO],λ x y=>zF n x.1 x.2,false⟩
theorem h60:Eo (Ny n):=dw Rs.FM (Oe n) func80
def Ak(n:Nat):bh (Int×Int×bZ×aZ×Unit) (Int×bZ×aZ×Unit) (Int×Int×Unit) dy:=λ(i,a,p,b,_) again (k0,k1,_)=>bif decide (a<i)then(aG p a).bind λ e=>(aG p i).bind λ c=>bif e.1==c.1 then k1 (i,5,())else again (i,(df .i64 (a+1)),p,b,())else k0 (i,p,b,())
def yU:bh (Int×bZ×aZ×Unit) (bZ×aZ×Unit) (Int×Int×Unit) dy:=λ(i,p,b,_) again (k0,k1,_)=>bif decide (i< (cr p:Int))then(aG p i).bind λ e=>(EH n e.1).bind λ x=>bif !x then k1 (i,4,())else cq (Ak n) n (i,0,p,b,()) (λ(a,c,f,_)=>(aG c a).bind λ d=>(qg n d.2 1 50).bind λ j=>bif !j then k1 (a,2,())else again ((df .i64 (a+1)),c,f,()),λ(g,h,_)=>k1 (g,h,()),())else k0 (p,b,())
def yj(n:Nat):bh (Int×Int×bZ×aZ×Int×Int×Unit) (Int×bZ×aZ×Unit) (Int×Int×Unit) dy:=λ(i,b,p,a,h,c,_) again (k0,k1,_)=>bif decide (b<i)then(aG a b).bind λ e=>bif (e.1==h)&& (e.2==c)then k1 (i,26,())else again (i,(df .i64 (b+1)),p,a,h,c,())else k0 (i,p,a,())
def zm:bh (Int×bZ×aZ×Unit) Unit (Int×Int×Unit) dy:=λ(i,p,a,_) again (k0,k1,_)=>bif decide (i< (cr a:Int))then(aG a i).bind λ e=>(cQ 0 2).bind λ u=>(aG [e.1,e.2] 0).bind λ x=>(zF n (p,a) x).bind λ b=>(bI (!(!b)) (cQ 1 2) ()).bind λ o=>(bI (!(!b)) (aG [e.1,e.2] 1) 0).bind λ j=>(bI (!(!b)) (zF n (p,a) j) false).bind λ k=>bif (!b)|| (!k)then k1 (i,6,())else(cQ 0 2).bind λ q=>(aG [e.1,e.2] 0).bind λ l=>(cQ 1 2).bind λ r=>(aG [e.1,e.2] 1).bind λ m=>bif l==m then k1 (i,11,())else cq (yj n) n (i,0,p,a,e.1,e.2,()) (λ(c,d,f,_)=>again ((df .i64 (c+1)),d,f,()),λ(g,h,_)=>k1 (g,h,()),())else k0 ()
def xy(p:bZ×aZ):Option dy:=bif (cr p.1:Int)==0 then some (0,10)else bif decide ((cr p.1:Int)>6)then some (0,8)else cq (yU n) n (0,p.1,p.2,()) (λ(b,a,_)=>bif decide ((cr a:Int)>30)then some (0,8)else cq (zm n) n (0,b,a,()) (λ(_)=>some (0,0),λ(c,e,_)=>some (c,e),()),λ(d,f,_)=>some (d,f),())
def OF:=(Ny n).a 46 ⟨[qG],[],[Z0,Z0],λ x y=>xy n x,false⟩
theorem zq:Eo (OF n):=gD Rs.FM (h60 n) func46 (O:= [_,_]) ⟨B8 n (h60 n) (eN 109 [Xb 1 109,aT 4 Z0] [X0 109]) [fq 0 109 [Xb 1 109] [X0 109],fw 109 [aT 2 Z0,aT 3 Z0] []] (yU n) (O:= [_]) ⟨gh n (h60 n) (eN 109 [Xb 1 109,aT 4 Z0,aT 5 Z0] [X0 109]) [fq 2 109 [Xb 1 109,aT 4 Z0] [X0 109],fw 109 [aT 2 Z0,aT 3 Z0] []] (Ak n),trivial⟩,B8 n (h60 n) (eN 109 [Xb 1 109,aT 6 Z0] [X0 109]) [fq 4 109 [] [],fw 109 [aT 2 Z0,aT 3 Z0] []] (zm n) (O:= [_]) ⟨gh n (h60 n) (eN 109 [Xb 1 109,aT 6 Z0,Xb 7 110,aT 8 Z0] [X0 109,(110,.cp Z3 [.aj Z0,.aj Z0])]) [fq 6 109 [Xb 1 109,aT 6 Z0] [X0 109],fw 109 [aT 2 Z0,aT 3 Z0] []] (yj n),trivial⟩,trivial⟩
def DI:bh (Int×bZ×aZ×Z9×Z9×Unit) Unit (Int×Unit) Int:=λ(i,p,g,s,a,_) again (k0,k1,_)=>bif decide (i< (cr p:Int))then(aG s i).bind λ e=>(aG p i).bind λ b=>(qg n e 0 b.2).bind λ x=>(bI (!(!x)) (aG a i) 0).bind λ c=>(bI (!(!x)) (qg n c 0 3) false).bind λ h=>bif (!x)|| (!h)then k1 (2,())else(aG a i).bind λ d=>(aG s i).bind λ f=>bif !((d==0)==(f==0))then k1 (13,())else again ((df .i64 (i+1)),p,g,s,a,())else k0 ()
def sM(p:bZ×aZ)(s:Z9×Z9):=bif ((cr s.1:Int) !=(cr p.1:Int))|| ((cr s.2:Int) !=(cr p.1:Int))then some 10 else cq (DI n) n (0,p.1,p.2,s.1,s.2,()) (λ(_)=>some 0,λ(a,_)=>some a,())
def Qw:=(OF n).a 27 ⟨[qG,BW],[],[Z0],λ x y=>sM n x.1 x.2,false⟩
theorem Of:Eo (Qw n):=gD Rs.FM (zq n) func27 (O:= [_]) ⟨gh n (zq n) (eN 64 [Xb 2 64,Xb 3 65,aT 5 Z0] [X0 64,X1 65]) [fq 0 64 [] [],fw 64 [aT 4 Z0] []] (DI n),trivial⟩
def Ez:bh (Int×bZ×aZ×Z9×Z9×Z9×Z9×Unit) Unit (Int×Unit) Int:=λ(i,p,j,t,k,a,b,_) again (k0,k1,_)=>bif decide (i< (cr p:Int))then(aG a i).bind λ e=>(bI (e !=(-1)) (aG a i) 0).bind λ d=>(bI (e !=(-1)) (aG p i) ([],0)).bind λ f=>(bI (e !=(-1)) (qg n d 0 f.2) false).bind λ x=>(bI (!((e !=(-1))&& (!x))) (aG b i) 0).bind λ g=>(bI (!((e !=(-1))&& (!x))) (qg n g 0 3) false).bind λ l=>bif ((e !=(-1))&& (!x))|| (!l)then k1 (2,())else(aG b i).bind λ c=>(bI (c !=0) (aG a i) 0).bind λ h=>bif (c !=0)&& (h==0)then k1 (13,())else again ((df .i64 (i+1)),p,j,t,k,a,b,())else k0 ()
def wy(p:bZ×aZ)(t:cn×Z9×Z9):=(sM n p t.1).bind λ x=>bif x !=0 then some x else bif ((cr t.2.1:Int) !=(cr p.1:Int))|| ((cr t.2.2:Int) !=(cr p.1:Int))then some 10 else cq (Ez n) n (0,p.1,p.2,t.1.1,t.1.2,t.2.1,t.2.2,()) (λ(_)=>some 0,λ(a,_)=>some a,())
def QL:=(Qw n).a 94 ⟨[qG,gS],[],[Z0],λ x y=>wy n x.1 x.2,false⟩
theorem Lw:Eo (QL n):=gD Rs.FM (Of n) func94 (O:= [_]) ⟨gh n (Of n) (eN 81 [Xb 2 81,Xb 3 82,aT 6 Z0] [X0 81,X3 82]) [fq 0 81 [] [],fw 81 [aT 4 Z0] []] (Ez n),trivial⟩
def AT(p:bZ×aZ)(t:cn×Z9×Z9):=(xy n p).bind λ x=>bif x.2 !=0 then some x.2 else(wy n p t).bind λ a=>some a
def Qi:=(QL n).a 26 ⟨[qG,gS],[],[Z0],λ x y=>AT n x.1 x.2,false⟩
theorem h64:Eo (Qi n):=dw Rs.FM (Lw n) func26
def EX(n:Nat):bh (Int×Z9×Z9×Z9×Z9×Z9×Z9×Unit) Unit (Bool×Unit) Bool:=λ(i,t,k,d,f,s,g,_) again (k0,k1,_)=>bif decide (i< (cr s:Int))then(aG d i).bind λ e=>(bI (e !=(-1)) (aG d i) 0).bind λ a=>(bI (e !=(-1)) (aG s i) 0).bind λ b=>(bI (!((e !=(-1))&& (a !=b))) (aG f i) 0).bind λ c=>(bI ((!((e !=(-1))&& (a !=b)))&& (c !=0)) (aG f i) 0).bind λ h=>(bI ((!((e !=(-1))&& (a !=b)))&& (c !=0)) (aG g i) 0).bind λ j=>bif ((e !=(-1))&& (a !=b))|| ((c !=0)&& (h !=j))then k1 (false,())else again ((df .i64 (i+1)),t,k,d,f,s,g,())else k0 ()
def wS(t:cn×Z9×Z9)(s:Z9×Z9):=cq (EX n) n (0,t.1.1,t.1.2,t.2.1,t.2.2,s.1,s.2,()) (λ(_)=>some true,λ(a,_)=>some a,())
def Kv:=(Qi n).a 28 ⟨[gS,BW],[],[.aO],λ x y=>wS n x.1 x.2,false⟩
theorem LO:Eo (Kv n):=gD Rs.FM (h64 n) func28 (O:= [_]) ⟨gh n (h64 n) (eN 53 [Xb 2 53,Xb 3 54,aT 5 Z0] [X3 53,X1 54]) [fq 0 53 [] [],fw 53 [aT 4 .aO] []] (EX n),trivial⟩
def akx(n:Nat):bh (Int×bZ×aZ×Int×Int×Unit) Unit (Bool×Unit) Bool:=λ(i,p,a,m,b,_) again (k0,k1,_)=>bif decide (i< (cr a:Int))then(aG a i).bind λ e=>bif (e.1==m)&& (e.2==b)then k1 (true,())else again ((df .i64 (i+1)),p,a,m,b,())else k0 ()
def akY(p:bZ×aZ)(m:Int×Int):=cq (akx n) n (0,p.1,p.2,m.1,m.2,()) (λ(_)=>some false,λ(a,_)=>some a,())
def e68:=(Kv n).a 105 ⟨[qG,Z3],[],[.aO],λ x y=>akY n x.1 x.2,false⟩
theorem h68:Eo (e68 n):=gD Rs.FM (LO n) func105 (O:= [_]) ⟨gh n (LO n) (eN 24 [Xb 2 24,Xb 3 25,aT 5 Z0] [X0 24,(25,.cp Z3 [.aj Z0,.aj Z0])]) [fq 0 24 [] [],fw 24 [aT 4 .aO] []] (akx n),trivial⟩
def u4(p:bZ×aZ)(s:Z9×Z9)(m:Int×Int):Option Int:=(zF n p m.1).bind λ x=>(bI (!(!x)) (zF n p m.2) false).bind λ g=>bif (!x)|| (!g)then some 6 else(akY n p m).bind λ h=>bif !h then some 18 else(aG s.1 m.1).bind λ e=>bif e==0 then some 12 else(aG s.1 m.2).bind λ b=>(aG p.1 m.2).bind λ c=>bif b==c.2 then some 16 else(aG s.2 m.2).bind λ a=>(bI (a !=0) (aG s.2 m.2) 0).bind λ d=>(bI (a !=0) (aG s.2 m.1) 0).bind λ f=>bif (a !=0)&& (d !=f)then some 13 else some 0
def e69:=(e68 n).a 40 ⟨[qG,BW,Z3],[],[Z0],λ x y=>u4 n x.1 x.2.1 x.2.2,false⟩
theorem h69:Eo (e69 n):=dw Rs.FM (h68 n) func40
def TH:u9 (Int×Int×bZ×aZ×Z9×Z9×aZ×Unit) (Int×bZ×aZ×Z9×Z9×aZ×Unit) aZ:=λ(i,a,p,b,s,c,out,_) again (k0,_)=>bif decide (a< (cr p:Int))then(u4 n (p,b) (s,c) (i,a)).bind λ x=>bif x==0 then(jk (cr out+cr ([(i,a)]:List dy))).bind λ u=>again (i,(df .i64 (a+1)),p,b,s,c,(out++ ([(i,a)]:List dy)),())else again (i,(df .i64 (a+1)),p,b,s,c,out,())else k0 (i,p,b,s,c,out,())
def aaO:u9 (Int×bZ×aZ×Z9×Z9×aZ×Unit) (aZ×Unit) aZ:=λ(i,p,c,s,f,out,_) again (k0,_)=>bif decide (i< (cr p:Int))then cq (TH n) n (i,0,p,c,s,f,out,()) (λ(a,d,e,g,h,b,_)=>again ((df .i64 (a+1)),d,e,g,h,b,()),())else k0 (out,())
def K4(p:bZ×aZ)(s:Z9×Z9):=cq (aaO n) n (0,p.1,p.2,s.1,s.2,([]:List dy),()) (λ(a,_)=>some a,())
def e70:=(e69 n).a 39 ⟨[qG,BW],[],[dK],λ x y=>K4 n x.1 x.2,false⟩
theorem h70:Eo (e70 n):=gD Rs.FM (h69 n) func39 (O:= [_]) ⟨B8 n (h69 n) (eN 36 [Xb 2 36,Xb 3 37,(5,.v (.iR 38)),aT 6 Z0] [X0 36,X1 37,(38,.jH Z3)]) [fq 0 36 [(5,.v (.iR 36))] [(36,.jH Z3)]] (aaO n) (O:= [_]) ⟨gh n (h69 n) (eN 36 [Xb 2 36,Xb 3 37,(5,.v (.iR 38)),aT 6 Z0,aT 7 Z0] [X0 36,X1 37,(38,.jH Z3)]) [fq 2 36 [Xb 2 36,Xb 3 37,(5,.v (.iR 38)),aT 6 Z0] [X0 36,X1 37,(38,.jH Z3)]] (TH n),trivial⟩,trivial⟩
def x9(p:bZ×aZ)(s:Z9×Z9)(m:Int×Int):Option cn:=(th n s).bind λ x=>(aG s.1 m.1).bind λ e=>(aG p.1 m.2).bind λ c=>(aG s.1 m.2).bind λ d=>(aG s.1 m.1).bind λ f=>(aG s.1 m.2).bind λ g=>(aG x.1 m.1).bind λ o=>(tD x.1 m.1 (df .i64 (f- (bu e (df .i64 (c.2- d)))))).bind λ l=>(aG l m.2).bind λ q=>(tD l m.2 (df .i64 (g+ (bu e (df .i64 (c.2- d)))))).bind λ a=>(aG s.2 m.1).bind λ h=>(aG x.2 m.2).bind λ r=>(tD x.2 m.2 h).bind λ b=>(aG a m.1).bind λ t=>(aG a m.1).bind λ j=>bif j==0 then(aG b m.1).bind λ k=>(tD b m.1 0).bind λ i=>some (a,i)else some (a,b)
def e71:=(e70 n).a 42 ⟨[qG,BW,Z3],[],[BW],λ x y=>x9 n x.1 x.2.1 x.2.2,false⟩
theorem h71:Eo (e71 n):=dw Rs.FM (h70 n) func42
def s48(l:List dy):=(bI (!(decide ((cr l:Int)<=30))) (qg n (cr l:Int) 501 502) false).bind λ x=>some ((decide ((cr l:Int)<=30))||x)
def e72:=(e71 n).a 48 ⟨[dK],[],[.aO],λ x y=>s48 n x,false⟩
theorem h72:Eo (e72 n):=dw Rs.FM (h71 n) func48
def s50(n:Nat)(l:List dy):Option aZ:=(jk (cr ([]:List dy)+cr l)).bind λ u=>some (([]:List dy)++l)
def e73:=(e72 n).a 50 ⟨[dK],[],[dK],λ x y=>s50 n x,false⟩
theorem h73:Eo (e73 n):=dw Rs.FM (h72 n) func50
def aiw:bh (aZ×Int×Int×bZ×aZ×o4 (o4 Unit)) (o4 (o4 Unit)) (o4 (Int×Int×Unit)) Fc:=λ(c,d,a,p,b,t,u,y,z,A,B,C,D,E,F,v,w,f,g,j,k,l,m,o,q,r,s,h,i,_) again (k0,k1,_)=>bif decide (a<d)then(aG c a).bind λ e=>(En n (p,b) ((t,u,y,z,A,B),C,D,E,F,v,w) e).bind λ x=>bif x.2 !=0 then k1 (a,x.2,0,0,0,0,0,0,0,0,0,0,0,0,())else again (c,d,(df .i64 (a+1)),p,b,x.1.1.1,x.1.1.2.1,x.1.1.2.2.1,x.1.1.2.2.2.1,x.1.1.2.2.2.2.1,x.1.1.2.2.2.2.2,x.1.2.1,x.1.2.2.1,x.1.2.2.2.1,x.1.2.2.2.2.1,x.1.2.2.2.2.2.1,x.1.2.2.2.2.2.2,f,g,j,k,l,m,o,q,r,s,h,i,())else k0 (t,u,y,z,A,B,C,D,E,F,v,w,f,g,j,k,l,m,o,q,r,s,h,i,())
def K3(p:bZ×aZ)(a:Z1×J5 Int)(l:List dy):Option Fc:=bif decide ((cr l:Int)>500)then some (((0,0,0,0,0,0),0,0,0,0,0,0),0,8)else cq (aiw n) n (l,(cr l:Int),0,p.1,p.2,a.1.1,a.1.2.1,a.1.2.2.1,a.1.2.2.2.1,a.1.2.2.2.2.1,a.1.2.2.2.2.2,a.2.1,a.2.2.1,a.2.2.2.1,a.2.2.2.2.1,a.2.2.2.2.2.1,a.2.2.2.2.2.2,0,0,0,0,0,0,0,0,0,0,0,0,()) (λ(s,t,u,v,w,x,y,z,A,B,C,D,E,F,G,H,I,J,K,L,M,N,O,P,_)=>some (((s,t,u,v,w,x),y,z,A,B,C,D),0,0),λ(q,r,b,c,d,e,f,g,h,i,j,k,m,o,_)=>some (((b,c,d,e,f,g),h,i,j,k,m,o),q,r),())
def e74:=(e73 n).a 111 ⟨[qG,eB,dK],[],[eB,Z0,Z0],λ x y=>K3 n x.1 x.2.1 x.2.2,false⟩
theorem h74:Eo (e74 n):=gD Rs.FM (h73 n) func111 (O:= [_]) ⟨gh n (h73 n) (eN 39 [Xb 3 39,Xb 4 40,Xb 6 41,aT 17 dK,aT 18 Z0,aT 19 Z0] [X0 39,X2 40,X2 41]) [fq 0 39 [Xb 4 39,Xb 6 40] [X2 39,X2 40],fw 39 [Xb 6 39,aT 7 Z0,aT 8 Z0] [X2 39]] (aiw n),trivial⟩
def ajp:bh (aZ×Int×bZ×aZ×Z9×Z9×Unit) (Z9×Z9×Unit) (Int×Int×Unit) Fp:=λ(l,i,p,a,s,b,_) again (k0,k1,_)=>bif decide (i< (cr l:Int))then(aG l i).bind λ e=>(u4 n (p,a) (s,b) e).bind λ x=>bif x !=0 then k1 (i,x,())else(aG l i).bind λ d=>(x9 n (p,a) (s,b) d).bind λ c=>again (l,(df .i64 (i+1)),p,a,c.1,c.2,())else k0 (s,b,())
def s51(p:bZ×aZ)(s:Z9×Z9)(l:List dy):Option Fp:=bif decide ((cr l:Int)>500)then some ((([]:List Int),([]:List Int)),0,8)else cq (ajp n) n (l,0,p.1,p.2,s.1,s.2,()) (λ(a,b,_)=>(th n (a,b)).bind λ e=>some (e,0,0),λ(c,d,_)=>some ((([]:List Int),([]:List Int)),c,d),())
def ov:=(e74 n).a 51 ⟨[qG,BW,dK],[],[BW,Z0,Z0],λ x y=>s51 n x.1 x.2.1 x.2.2,false⟩
theorem h75:Eo (ov n):=gD Rs.FM (h74 n) func51 (O:= [_]) ⟨gh n (h74 n) (eN 42 [aT 2 dK,Xb 3 42,Xb 4 43,Xb 6 44,aT 9 Z0] [X0 42,X1 43,(44,.cp BW [.j6,.j6])]) [fq 0 42 [Xb 4 42,Xb 6 43] [X1 42,(43,.cp BW [.j6,.j6])],fw 42 [Xb 6 42,aT 7 Z0,aT 8 Z0] [(42,.cp BW [.j6,.j6])]] (ajp n),trivial⟩
def y8(n:Nat):alQ (Ah×xR×Bu×Bool×Bu×Unit) (dy×Z1×J5 Int) (Bool×Unit) Bool:=λ(t,a,c,b,it,_) y again (k0,_)=>bif !(fz (j4 (Ty.f eB) c y.2) false)then k0 (false,())else again (t,a,c,b,it,())
def abG:bh (Ah×Bu×Bool×Bu×Unit) (Bool×Unit) (Bool×Unit) Bool:=λ(t,c,a,it,_) again (k0,k1,_)=>aag it (λ z j=>(ud n t z.1).bind λ x=>bif x then k1 (false,())else t.bind λ i=>(tN n i.1 z.1).bind λ b=>la (y8 n) (λ(g,_)=>k1 (g,()),()) (λ(h,k,d,f,e,_)=>again (h,d,f,e,())) b (t,b,c,a,j,())) (k0 (a,()))
def abY(c:List tZ)(t:Option uy):=t.bind λ x=>bif !(fz (j4 (Ty.f eB) c x.2.2) false)then some false else cq (abG n) n (t,c,false,c,()) (λ(b,_)=>some true,λ(a,_)=>some a,())
def acw:cf:= ⟨36,[qE,Z58,oV,.aO,oV],[(1,.v (.aj qE)),Xb 2 36,Xb 4 37,(16,.v (.iR 38)),(29,.v (.aj Z58))],[(36,.cp oV [.aj oV]),X5 37,(38,.it eB .aO)],[]⟩
def ahZ:List (dN×cf):= [(.sT,⟨36,[.aO],[Xb 4 36],[X5 36],[]⟩)]
theorem anI(d)(x)(again)(ks):dv (R:=(ax [.aO])) (ov n) (bT.b (R:=(ax [.aO]))) (vv (lp (iw (lp (bd hG) 0)) 0)) [] (GP acw [1,2,4,16,29] 30 31 Z3 eB d x) (tH λ st=>dv (R:=(ax [.aO])) (ov n) (bT.b (R:=(ax [.aO]))) (wQ (lp (iw (lp (bd hG) 0)) 0)) [] st (wR (ov n) acw [1,2,4,16,29] ahZ again ks))=y8 n d x again ks:=by kernel_rfl
theorem am6:eS Rs.FM.Q (bT.b (R:=(ax [.aO]))) false (lp (iw (lp (bd hG) 0)) 0) ((λ n=>qX (R:=(ax [.aO])) (ov n) Z3 eB (vp (lp (iw (lp (bd hG) 0)) 0)) acw ahZ (y8 n)) n):=RZ (h75 n) Rs.FM.b (p:=30) (q:=31) (F:= [1,2,4,16,29]) (Oa:= []) (Ob:= []) (by kernel_rfl) (by kernel_rfl) trivial trivial (anI n)
def akP:cf:= ⟨36,[qE,oV,.aO,oV],[(1,.v (.aj qE)),Xb 2 36,Xb 4 37,(16,.v (.iR 38))],[(36,.cp oV [.aj oV]),X5 37,(38,.it eB .aO)],[]⟩
def alo:List (dN×cf):= [(.ou 0,⟨36,[.aO],[Xb 4 36],[X5 36],[]⟩),(.sT,⟨36,[.aO],[Xb 4 36],[X5 36],[]⟩)]
def akr:Ev (ax [.aO]):=mG n (ov n) akP alo (abG n)
theorem anS d again ks:dv (R:=(ax [.aO])) (ov n) (bT.b (R:=(ax [.aO]))) (iw (lp (bd hG) 0)) [(λ n=>qX (R:=(ax [.aO])) (ov n) Z3 eB (vp (lp (iw (lp (bd hG) 0)) 0)) acw ahZ (y8 n)) n] (mk akP d) (mL (ov n) akP alo again ks)=abG n d again ks:=by kernel_rfl
theorem am5:eS Rs.FM.Q (bT.b (R:=(ax [.aO]))) false (lp (bd hG) 0) (akr n):=rk (h75 n) Rs.FM.b (by kernel_rfl) (O:= [(λ n=>qX (R:=(ax [.aO])) (ov n) Z3 eB (vp (lp (iw (lp (bd hG) 0)) 0)) acw ahZ (y8 n)) n]) ⟨am6 n,trivial⟩ (anS n)
def ak3:fc:= ⟨[oV,qE],[],[.aO],λ x y=>abY n x.1 x.2,false⟩
theorem apb(x)(y):oI (ov n) hG [oV,qE] [] [.aO] false [akr n] x y=(ak3 n).g x y:=by kernel_rfl
theorem ao0:jf Rs.FM.Q 258 (ak3 n):=xz (h75 n) Rs.FM.b (Rs.FM.a func258 (by kernel_rfl) (by decide)) (by kernel_rfl) (by kernel_rfl) (O:= [akr n]) ⟨am5 n,trivial⟩ (apb n)
def e76:=(ov n).a 258 (ak3 n)
theorem h76:Eo (e76 n):=mN (h75 n) (ao0 n)
def ajx:bh (Z65×Int×Int×Unit) (Z65×Int×Unit) (Bool×Unit) Bool:=λ(l,i,a,_) again (k0,k1,_)=>(aG l i).bind λ e=>bif decide (a< (cr e:Int))then(aG l i).bind λ b=>(aG b a).bind λ c=>(wX n c).bind λ x=>bif !x then k1 (false,())else again (l,i,(df .i64 (a+1)),())else k0 (l,i,())
def adH:bh (Z65×Int×Unit) Unit (Bool×Unit) Bool:=λ(l,i,_) again (k0,k1,_)=>bif decide (i< (cr l:Int))then(aG l i).bind λ e=>bif decide ((cr e:Int)>60)then k1 (false,())else cq (ajx n) n (l,i,0,()) (λ(b,a,_)=>again (b,(df .i64 (a+1)),()),λ(c,_)=>k1 (c,()),())else k0 ()
def s61(l:List pR):=bif decide ((cr l:Int)>12)then some false else cq (adH n) n (l,0,()) (λ(_)=>some true,λ(a,_)=>some a,())
def e77:=(e76 n).a 61 ⟨[Z60],[],[.aO],λ x y=>s61 n x,false⟩
theorem h77:Eo (e77 n):=gD Rs.FM (h76 n) func61 (O:= [_]) ⟨B8 n (h76 n) (eN 38 [aT 0 Z60,aT 3 Z0] []) [fq 0 38 [] [],fw 38 [aT 2 .aO] []] (adH n) (O:= [_]) ⟨gh n (h76 n) (eN 38 [aT 0 Z60,aT 3 Z0,aT 4 Z0] []) [fq 2 38 [aT 0 Z60,aT 3 Z0] [],fw 38 [aT 2 .aO] []] (ajx n),trivial⟩,trivial⟩
def s62(p:bZ×aZ)(t:cn×Z9×Z9)(l:List dy):Option dy:=(vm n p t).bind λ x=>bif x.2 !=0 then some (0,x.2)else x.1.bind λ c=>x.1.bind λ d=>(K3 n c.1 d.2.2 l).bind λ a=>(ud n x.1 a.1).bind λ e=>(vk n e 20).bind λ f=>(C5 n ([a.2.2,f]:List Int)).bind λ b=>bif b !=0 then some (0,b)else some ((cr l:Int),0)
def e78:=(e77 n).a 62 ⟨[qG,gS,dK],[],[Z0,Z0],λ x y=>s62 n x.1 x.2.1 x.2.2,false⟩
theorem h78:Eo (e78 n):=dw Rs.FM (h77 n) func62
def akf:u9 (pR×Int×pR×Unit) (pR×Unit) pR:=λ(l,i,out,_) again (k0,_)=>bif decide (i< (cr l:Int))then(aG l i).bind λ e=>(th n e).bind λ x=>(jk (cr out+cr ([x]:List cn))).bind λ u=>again (l,(df .i64 (i+1)),(out++ ([x]:List cn)),())else k0 (out,())
def s71(l:List cn):=cq (akf n) n (l,0,([]:List cn),()) (λ(a,_)=>some a,())
def e79:=(e78 n).a 71 ⟨[um],[],[um],λ x y=>s71 n x,false⟩
theorem h79:Eo (e79 n):=gD Rs.FM (h78 n) func71 (O:= [_]) ⟨gh n (h78 n) (eN 20 [aT 0 um,(3,.v (.iR 20)),aT 4 Z0] [(20,.jH BW)]) [fq 0 20 [(3,.v (.iR 20))] [(20,.jH BW)]] (akf n),trivial⟩
def ai9(t:Option uy)(p:Ah->Option Bool):=(p t).bind λ x=>(vk n x 20).bind λ a=>some a
def e80:=(e79 n).a 119 ⟨[qE,(.dP qE .aO)],[],[Z0],λ x y=>ai9 n x.1 x.2,false⟩
theorem h80:Eo (e80 n):=dw Rs.FM (h79 n) func119
def ag1:bh (pR×Ah×pR×Int×Int×Bu×Unit) (pR×Ah×Bu×Unit) (Int×Int×Unit) dy:=λ(l,b,c,d,a,own,_) again (k0,k1,_)=>bif decide (a<d)then(aG c a).bind λ e=>b.bind λ x=>(px n x.1 e).bind λ f=>bif f !=0 then k1 (0,f,())else(tj n e).bind λ g=>bif fz (j4 (Ty.f eB) own g) false then k1 (0,26,())else again (l,b,c,d,(df .i64 (a+1)),(lz (Ty.f eB) own g true),())else k0 (l,b,own,())
def s70(p:bZ×aZ)(t:cn×Z9×Z9)(l:List cn):Option dy:=(vm n p t).bind λ x=>(vk n (decide ((cr l:Int)<=4000)) 8).bind λ h=>(C5 n ([x.2,h]:List Int)).bind λ a=>bif a !=0 then some (0,a)else cq (ag1 n) n (l,x.1,l,(cr l:Int),0,([]:List tZ),()) (λ(c,g,d,_)=>(ai9 n g (λ i=>abY n d i)).bind λ b=>bif b !=0 then some (0,b)else some ((cr c:Int),0),λ(e,f,_)=>some (e,f),())
def e81:=(e80 n).a 70 ⟨[qG,gS,um],[],[Z0,Z0],λ x y=>s70 n x.1 x.2.1 x.2.2,false⟩
theorem h81:Eo (e81 n):=gD Rs.FM (h80 n) func70 (O:= [_]) ⟨gh n (h80 n) (eN 65 [aT 2 um,aT 8 qE,(10,.v (.iR 65)),aT 33 um,aT 34 Z0,aT 35 Z0] [(65,.tU eB .aO)]) [fq 0 65 [aT 2 um,aT 8 qE,(10,.v (.iR 65))] [(65,.tU eB .aO)],fw 65 [aT 6 Z0,aT 7 Z0] []] (ag1 n),trivial⟩
def acV(n:Nat):bh (Z9×(Int->Option Bool)×Int×Int×Unit) Unit (Int×Unit) Int:=λ(s,f,b,a,_) again (k0,k1,_)=>bif decide (a<b)then(aG s a).bind λ e=>(f e).bind λ x=>bif x then k1 (a,())else again (s,f,b,(df .i64 (a+1)),())else k0 ()
def agU(s:List Int)(f:Int->Option Bool):=cq (acV n) n (s,f,(cr s:Int),0,()) (λ(_)=>some (-1),λ(a,_)=>some a,())
def e82:=(e81 n).a 148 ⟨[Z4,Jz],[],[Z0],λ x y=>agU n x.1 x.2,false⟩
theorem h82:Eo (e82 n):=gD Rs.FM (h81 n) func148 (O:= [_]) ⟨gh n (h81 n) (eN 19 [aT 0 Z4,aT 1 Jz,aT 7 Z0,aT 8 Z0] []) [fq 0 19 [] [],fw 19 [aT 4 Z0] []] (acV n),trivial⟩
def Nx(n:Nat)(a b:Int):=(bI (a !=(-1)) (NL a b) 0).bind λ r=>some ((a !=(-1))&& (r !=0))
def e83:=(e82 n).a 126 ⟨[Z0],[Z0],[.aO],λ x y=>Nx n x y,false⟩
theorem h83:Eo (e83 n):=dw Rs.FM (h82 n) func126
def akk(s:List Int)(f:Int->Option Bool):=(agU n s f).bind λ x=>some (decide (x>=0))
def z7:=(e83 n).a 125 ⟨[Z4,Jz],[],[.aO],λ x y=>akk n x.1 x.2,false⟩
theorem h84:Eo (z7 n):=dw Rs.FM (h83 n) func125
def ade(n:Nat):u9 (Int×Int×Unit) (Int×Unit) Int:=λ(a,b,_) again (k0,_)=>bif a !=0 then(NL b a).bind λ r=>again (r,a,())else k0 (b,())
def adq(d b:Int):=cq (ade n) n (b,d,()) (λ(a,_)=>some a,())
def akX:cf:= ⟨9,[Z0,Z0],[(0,.v (.aj Z0)),Xb 1 9],[X4 9],[1]⟩
def alN:List (dN×cf):= [(.ou 0,⟨9,[Z0],[Xb 1 9],[X4 9],[1]⟩)]
def ako:Ev (Ty.b Z0):=mG n (z7 n) akX alN (ade n)
theorem apf d again ks:dv (R:=(Ty.b Z0)) (z7 n) (bT.b (R:=(Ty.b Z0))) (iw (lp (bd f149) 0)) [] (mk akX d) (mL (z7 n) akX alN again ks)=ade n d again ks:=by kernel_rfl
theorem aov:eS Rs.FM.Q (bT.b (R:=(Ty.b Z0))) false (lp (bd f149) 0) (ako n):=rk (h84 n) Rs.FM.b (by kernel_rfl) (O:= []) trivial (apf n)
def ak0:o9:= ⟨Z0,[Z0],λ d x=>adq n d x⟩
theorem aoX(d)(x):dv (R:=(Ty.b Z0)) (z7 n) (bT.b (R:=(Ty.b Z0))) (bd f149) [ako n] (akE f149.ntmps Z0 [Z0] d x) (al7 (z7 n) Z0 1)=(ak0 n).fn d x:=by kernel_rfl
theorem aoH:aiT Rs.FM.Q 149 (ak0 n):=aoA (h84 n) Rs.FM.b (Rs.FM.a func149 (by kernel_rfl) (by decide)) (by kernel_rfl) (c:=bd f149) (by kernel_rfl) (by kernel_rfl) (O:= [ako n]) (my ⟨aov n,trivial⟩) (by kernel_rfl) (by kernel_rfl) (aoX n)
def e85:=(z7 n).e 149 (ak0 n)
theorem h85:Eo (e85 n):=aoe (h84 n) (aoH n)
def ae7:u9 (Ah×bZ×J3 Unit) (Int×Unit) Int:=λ(t,b,c,a,out,_) again (k0,_)=>bif decide (a<c)then(aG b a).bind λ e=>(adq n out e.2).bind λ l=>t.bind λ x=>(aG [x.2.2.1.1,x.2.2.1.2.1,x.2.2.1.2.2.1,x.2.2.1.2.2.2.1,x.2.2.1.2.2.2.2.1,x.2.2.1.2.2.2.2.2] a).bind λ f=>(adq n l f).bind λ d=>again (t,b,c,(df .i64 (a+1)),d,())else k0 (out,())
def aaV(t:Option uy):=t.bind λ x=>cq (ae7 n) n (t,x.1.1,(cr x.1.1:Int),0,0,()) (λ(a,_)=>some a,())
def e86:=(e85 n).a 127 ⟨[qE],[],[Z0],λ x y=>aaV n x,false⟩
theorem h86:Eo (e86 n):=gD Rs.FM (h85 n) func127 (O:= [_]) ⟨gh n (h85 n) (eN 35 [aT 0 qE,Xb 3 35,(4,.v (.akJ 149 35)),aT 13 gv,aT 14 Z0,aT 15 Z0] [X4 35]) [fq 0 35 [Xb 3 35] [X4 35]] (ae7 n),trivial⟩
def s72(p:bZ×aZ)(t:cn×Z9×Z9)(a:Int):=(vm n p t).bind λ x=>(H2 n a 2 50).bind λ c=>(vk n c 2).bind λ d=>(C5 n ([x.2,d]:List Int)).bind λ b=>bif b !=0 then some b else(akk n t.2.1 (λ h=>Nx n h a)).bind λ e=>(aaV n x.1).bind λ f=>(NL f a).bind λ r=>(vk n ((r==0)&&e) 20).bind λ g=>some g
def e87:=(e86 n).a 72 ⟨[qG,gS,Z0],[],[Z0],λ x y=>s72 n x.1 x.2.1 x.2.2,false⟩
theorem h87:Eo (e87 n):=dw Rs.FM (h86 n) func72
def s73(p:bZ×aZ)(t:cn×Z9×Z9):Option dy:=(vm n p t).bind λ x=>bif x.2 !=0 then some (0,x.2)else(aaV n x.1).bind λ a=>some (a,0)
def e88:=(e87 n).a 73 ⟨[qG,gS],[],[Z0,Z0],λ x y=>s73 n x.1 x.2,false⟩
theorem h88:Eo (e88 n):=dw Rs.FM (h87 n) func73
def akA(n:Nat)(a:Int):=some (U1 a (df .i64 (0- a)))
def e89:=(e88 n).a 150 ⟨[Z0],[],[Z0],λ x y=>akA n x,false⟩
theorem h89:Eo (e89 n):=dw Rs.FM (h88 n) func150
def agM(n:Nat):u9 (Int×Int×Unit) (Int×Unit) Int:=λ(a,b,_) again (k0,_)=>bif b !=0 then(NL a b).bind λ r=>again (b,r,())else k0 (a,())
def ac1(a b:Int):=cq (agM n) n (a,b,()) (λ(c,_)=>(akA n c).bind λ x=>some x,())
def e90:=(e89 n).a 128 ⟨[Z0,Z0],[],[Z0],λ x y=>ac1 n x.1 x.2,false⟩
theorem h90:Eo (e90 n):=gD Rs.FM (h89 n) func128 (O:= [_]) ⟨gh n (h89 n) (eN 13 [aT 0 Z0,aT 1 Z0] []) [fq 0 13 [aT 0 Z0] []] (agM n),trivial⟩
def afQ:u9 (Int×Int×bZ×aZ×Z9×Z9×Z9×Z9×Unit) (Int×Unit) Int:=λ(g,i,p,b,t,c,d,f,_) again (k0,_)=>bif decide (i< (cr p:Int))then(aG p i).bind λ e=>(ac1 n g e.2).bind λ x=>(aG t i).bind λ a=>(ac1 n x a).bind λ h=>again (h,(df .i64 (i+1)),p,b,t,c,d,f,())else k0 (g,())
def K7(p:bZ×aZ)(t:cn×Z9×Z9):=cq (afQ n) n (0,0,p.1,p.2,t.1.1,t.1.2,t.2.1,t.2.2,()) (λ(a,_)=>some a,())
def e91:=(e90 n).a 76 ⟨[qG,gS],[],[Z0],λ x y=>K7 n x.1 x.2,false⟩
theorem h91:Eo (e91 n):=gD Rs.FM (h90 n) func76 (O:= [_]) ⟨gh n (h90 n) (eN 30 [Xb 2 30,Xb 3 31,aT 5 Z0,aT 6 Z0] [X0 30,X3 31]) [fq 0 30 [aT 5 Z0] []] (afQ n),trivial⟩
def ahH(n:Nat):bh (Int×Int×Z9×Z9×Z9×Z9×Unit) Unit (Int×Unit) Int:=λ(b,i,t,d,a,f,_) again (k0,k1,_)=>bif decide (i< (cr a:Int))then(aG a i).bind λ e=>(bI (e !=(-1)) (aG a i) 0).bind λ c=>(bI (e !=(-1)) (NL c b) 0).bind λ r=>bif (e !=(-1))&& (r !=0)then k1 (0,())else again (b,(df .i64 (i+1)),t,d,a,f,())else k0 ()
def s75(p:bZ×aZ)(t:cn×Z9×Z9)(a:Int):=(qg n a 2 50).bind λ x=>bif !x then some 2 else(K7 n p t).bind λ c=>(NL c a).bind λ r=>bif r !=0 then some 20 else cq (ahH n) n (a,0,t.1.1,t.1.2,t.2.1,t.2.2,()) (λ(_)=>some 20,λ(b,_)=>some b,())
def e92:=(e91 n).a 75 ⟨[qG,gS,Z0],[],[Z0],λ x y=>s75 n x.1 x.2.1 x.2.2,false⟩
theorem h92:Eo (e92 n):=gD Rs.FM (h91 n) func75 (O:= [_]) ⟨gh n (h91 n) (eN 40 [aT 2 Z0,Xb 4 40,aT 7 Z0] [X3 40]) [fq 0 40 [] [],fw 40 [aT 6 Z0] []] (ahH n),trivial⟩
def s65(p:bZ×aZ)(t:cn×Z9×Z9)(l:List dy):=(s51 n p t.1 l).bind λ x=>bif x.2.2 !=0 then some x.2.2 else(wS n t x.1).bind λ a=>bif !a then some 20 else some 0
def e93:=(e92 n).a 65 ⟨[qG,gS,dK],[],[Z0],λ x y=>s65 n x.1 x.2.1 x.2.2,false⟩
theorem h93:Eo (e93 n):=dw Rs.FM (h92 n) func65
def aeO:bh (pR×Int×Z9×Z9×Unit) Unit (Bool×Unit) Bool:=λ(l,i,s,a,_) again (k0,k1,_)=>bif decide (i< (cr l:Int))then(aG l i).bind λ e=>(Mn n e (s,a)).bind λ x=>bif x then k1 (true,())else again (l,(df .i64 (i+1)),s,a,())else k0 ()
def zY(l:List cn)(s:Z9×Z9):=cq (aeO n) n (l,0,s.1,s.2,()) (λ(_)=>some false,λ(a,_)=>some a,())
def e94:=(e93 n).a 121 ⟨[um,BW],[],[.aO],λ x y=>zY n x.1 x.2,false⟩
theorem h94:Eo (e94 n):=gD Rs.FM (h93 n) func121 (O:= [_]) ⟨gh n (h93 n) (eN 18 [aT 0 um,Xb 3 18,aT 5 Z0] [X1 18]) [fq 0 18 [] [],fw 18 [aT 4 .aO] []] (aeO n),trivial⟩
def ahM:bh (pR×aZ×Int×bZ×aZ×Z9×Z9×Unit) Unit (Bool×Unit) Bool:=λ(l,m,i,p,a,s,b,_) again (k0,k1,_)=>bif decide (i< (cr m:Int))then(aG m i).bind λ e=>(x9 n (p,a) (s,b) e).bind λ x=>(zY n l x).bind λ c=>bif !c then k1 (false,())else again (l,m,(df .i64 (i+1)),p,a,s,b,())else k0 ()
def K9(p:bZ×aZ)(s:Z9×Z9)(l:List cn):=(K4 n p s).bind λ x=>cq (ahM n) n (l,x,0,p.1,p.2,s.1,s.2,()) (λ(_)=>some true,λ(a,_)=>some a,())
def e95:=(e94 n).a 122 ⟨[qG,BW,um],[],[.aO],λ x y=>K9 n x.1 x.2.1 x.2.2,false⟩
theorem h95:Eo (e95 n):=gD Rs.FM (h94 n) func122 (O:= [_]) ⟨gh n (h94 n) (eN 28 [aT 2 um,Xb 3 28,Xb 4 29,aT 7 dK,aT 8 Z0] [X0 28,X1 29]) [fq 0 28 [] [],fw 28 [aT 6 .aO] []] (ahM n),trivial⟩
def abh:bh (pR×Int×bZ×aZ×Z9×Z9×Z9×Z9×Unit) (pR×bZ×aZ×Z9×Z9×Z9×Z9×Unit) (Int×Unit) Int:=λ(l,i,p,a,t,b,c,d,_) again (k0,k1,_)=>bif decide (i< (cr l:Int))then(aG l i).bind λ e=>(sM n (p,a) e).bind λ x=>bif x !=0 then k1 (x,())else(iB l 0 i).bind λ g=>(aG l i).bind λ f=>(zY n g f).bind λ h=>bif h then k1 (26,())else again (l,(df .i64 (i+1)),p,a,t,b,c,d,())else k0 (l,p,a,t,b,c,d,())
def ack:bh (pR×Int×bZ×aZ×Z9×Z9×Z9×Z9×Unit) Unit (Int×Unit) Int:=λ(l,i,p,a,t,b,c,d,_) again (k0,k1,_)=>bif decide (i< (cr l:Int))then(aG l i).bind λ e=>(wS n ((t,b),c,d) e).bind λ x=>(bI (!x) (aG l i) ([],[])).bind λ f=>(bI (!x) (K9 n (p,a) f l) false).bind λ g=>bif x|| (!g)then k1 (20,())else again (l,(df .i64 (i+1)),p,a,t,b,c,d,())else k0 ()
def s74(p:bZ×aZ)(t:cn×Z9×Z9)(l:List cn):=bif decide ((cr l:Int)>4000)then some 8 else cq (abh n) n (l,0,p.1,p.2,t.1.1,t.1.2,t.2.1,t.2.2,()) (λ(a,d,e,b,c,h,i,_)=>(zY n a (b,c)).bind λ j=>bif !j then some 20 else cq (ack n) n (a,0,d,e,b,c,h,i,()) (λ(_)=>some 0,λ(f,_)=>some f,()),λ(g,_)=>some g,())
def Tg:=(e95 n).a 74 ⟨[qG,gS,um],[],[Z0],λ x y=>s74 n x.1 x.2.1 x.2.2,false⟩
theorem h96:Eo (Tg n):=gD Rs.FM (h95 n) func74 (O:= [_,_]) ⟨gh n (h95 n) (eN 63 [aT 2 um,Xb 3 63,Xb 4 64,aT 7 Z0] [X0 63,X3 64]) [fq 0 63 [aT 2 um,Xb 3 63,Xb 4 64] [X0 63,X3 64],fw 63 [aT 6 Z0] []] (abh n),gh n (h95 n) (eN 63 [aT 2 um,Xb 3 63,Xb 4 64,aT 9 Z0] [X0 63,X3 64]) [fq 2 63 [] [],fw 63 [aT 6 Z0] []] (ack n),trivial⟩
def s13(p:bZ×aZ)(t:cn×Z9×Z9)(x:pR×Int×aZ):=(FJ n).bind λ j=>bif !j then some false else(xB n p).bind λ e=>(bI (!(!e)) (zS n t) false).bind λ g=>(bI (!((!e)|| (!g))) (s61 n ([x.1]:List pR)) false).bind λ i=>(bI (!(((!e)|| (!g))|| (!i))) (s48 n x.2.2) false).bind λ w=>bif (((!e)|| (!g))|| (!i))|| (!w)then some true else(wL n p).bind λ y=>(xf n t).bind λ z=>(s71 n x.1).bind λ A=>(s70 n y z A).bind λ a=>(wL n p).bind λ k=>(xf n t).bind λ l=>(s72 n k l x.2.1).bind λ d=>(wL n p).bind λ m=>(xf n t).bind λ o=>(s73 n m o).bind λ c=>(wL n p).bind λ q=>(xf n t).bind λ r=>(s50 n x.2.2).bind λ s=>(s62 n q r s).bind λ u=>(AT n p t).bind λ f=>bif f !=0 then some (((((a.2==f)&& (d==f))&& (c.2==f))&& (a.1==0))&& (c.1==0))else(s74 n p t x.1).bind λ b=>(bI (!(((a.2 !=b)|| ((b==0)&& (a.1 !=(cr x.1:Int))))|| ((b !=0)&& (a.1 !=0)))) (s75 n p t x.2.1) 0).bind λ h=>(bI (!(((((a.2 !=b)|| ((b==0)&& (a.1 !=(cr x.1:Int))))|| ((b !=0)&& (a.1 !=0)))|| (d !=h))|| (c.2 !=0))) (K7 n p t) 0).bind λ v=>bif (((((a.2 !=b)|| ((b==0)&& (a.1 !=(cr x.1:Int))))|| ((b !=0)&& (a.1 !=0)))|| (d !=h))|| (c.2 !=0))|| (c.1 !=v)then some false else some (((a.2 !=0)&& (d !=0))|| (u.2 !=0))
def ajS:fc:= ⟨[qG,gS,Z63],[],[.aO],λ x y=>s13 n x.1 x.2.1 x.2.2,false⟩
theorem aoz(x)(y):oI (Tg n) f13 [qG,gS,Z63] [] [.aO] false [] x y=(ajS n).g x y:=by kernel_rfl
theorem amF:jf Rs.FM.Q 13 (ajS n):=xz (h96 n) Rs.FM.b (Rs.FM.a func13 (by kernel_rfl) (by decide)) (by kernel_rfl) (by kernel_rfl) (O:= []) trivial (aoz n)
end
theorem acS(m):FJ (m+2000)=some true:=by kernel_rfl
section
local instance:Dr:= ⟨false⟩
abbrev wO:=List UInt8
abbrev Vs:=wO×Int
abbrev Pl:=List Vs×List (Int×Int)
abbrev St:=List Int×List Int
abbrev Tk:=St×St
def jh(l:List Int):=(l.find? λ e=>e !=0).getD 0
def ia(b:Bool)(e:Int):=bif b then 0 else e
def cy(x lo a:Int):=decide (lo<=x)&&decide (x<=a)
theorem tP(n)(b)(e):vk n b e=some (ia b e):=by cases b<;>rfl
theorem Ra(n)(x lo a):H2 n x lo a=some (cy x lo a):=rfl
theorem EO(n)(x lo a):qg n x lo a=some (cy x lo a):=rfl
theorem afC(n)(x):EJ n x=some (cy x 1 50):=rfl
theorem Pt(n)(x):Dy n x=some (cy x 0 3):=rfl
theorem jv{α}(b)(x d:α):bI b (some x) d=some (bif b then x else d):=by cases b<;>rfl
theorem OH{n}(l)(a:l.length<n)(b:l.length<=dr):C5 n l=some (jh l):=by refine iy (n:=n) l (λ i=>(l,((cr l):Int),(i:Int),())) (λ i r=>some (jh r)) b ?_ ?_ a;all_goals grind[h1,h2,h5,h6,Hv,jh]
theorem BO{n}(c:1000<=n)(a b):C5 n [a,b]=some (jh [a,b]):=OH _ (by simp;omega) (by simp[dr])
theorem QD{n}(d:1000<=n)(a b c):C5 n [a,b,c]=some (jh [a,b,c]):=OH _ (by simp;omega) (by simp[dr])
def AJ(b:Bool)(c:Int):=(!(((decide (c>=97))&& (decide (c<=122)))|| ((decide (c>=65))&& (decide (c<=90)))))&& (b|| ((c !=45)&& ((decide (c<48))|| (decide (c>57)))))
def xo:Bool->wO->Bool|_,[]=>true|b,c::r=>!AJ b ((ea c:Nat):Int)&&xo false r
def rQ(s:wO):=(decide (1<=s.length)&&decide (s.length<=12))&&xo true s
theorem FK(i:Nat):((i:Int)==(0:Int))=decide (i=0):=by grind
theorem VF{n}(d:1000<=n)(s:wO):EH n s=some (rQ s):=by
 unfold EH rQ;by_cases a:1<=s.length
 ·by_cases b:s.length<=12
  ·rw[(decide_eq_false (by omega)),(decide_eq_false (by omega)),decide_eq_true a,decide_eq_true b];simp[eQ,cond_false,Bool.true_and];have:=iy (n:=n) (body:=yx n) (ks:=(λ(_)=>some (true),λ(c,_)=>some (c),())) s (λ i=>(s,(i:Int),())) (λ i r=>some (xo (decide (i=0)) r)) (by unfold dr;omega) ?_ ?_ (by omega);all_goals grind[AJ,decide,ea,FK,yx,xo]
  grind
 grind
theorem acJ{n}(s:wO)(f:s.length<n)(d:s.length<=dr):B9 n s=some (rQ s):=by
 unfold B9 rQ;have t:kv s=s.map λ c=>((ea c:Nat):Int):=rfl;have u:(kv s).length=s.length:=by grind
 have:=iy (n:=n) (body:=yM n) (ks:=(λ(b,_)=>some ((((b:List UInt8) != [])&& (decide (((cr b:Nat):Int)<=(12:Int))))),λ(g,_)=>some (g),())) s (λ i=>(s,kv s,((cr (kv s):Nat):Int),(i:Int),())) (λ i r=>some (xo (decide (i=0)) r&& (((s:List UInt8) != [])&& (decide (((cr s:Nat):Int)<=(12:Int)))))) d ?_ ?_ f;grind[decide];intro i x r h j k l o q again v;have m:aG (kv s) (i:Int)=some ((ea x:Nat):Int):=by grind[oR]
 have p:decide ((i:Int)< ((cr (kv s):Nat):Int))=true:=by grind
 have e:AJ (decide (i=0)) ((ea x:Nat):Int)=((!(((decide (((ea x:Nat):Int)>=(97:Int)))&& (decide (((ea x:Nat):Int)<=(122:Int))))|| ((decide (((ea x:Nat):Int)>=(65:Int)))&& (decide (((ea x:Nat):Int)<=(90:Int))))))&& (((i:Int)==(0:Int))|| ((((ea x:Nat):Int) !=(45:Int))&& ((decide (((ea x:Nat):Int)< (48:Int)))|| (decide (((ea x:Nat):Int)>(57:Int))))))):=by rw[FK];rfl
 grind[yM,xo,AJ,decide,ea];intro a again;have a':decide ((s.length:Int)< ((cr (kv s):Nat):Int))=false:=by grind
 simp only[yM,a',cond_false];rfl
theorem ahd{n}(l:List Vs)(name:wO)(a:l.length<n)(b:l.length<=dr):∃q,vV n l name=some q/\decide (q<0)=!(l.any λ x=>x.1==name):=by
 have:=iy (n:=n) (body:=xO n) (ks:=(λ(_)=>some ((-1:Int)),λ(c,_)=>some (c),())) l (λ i=>(l,(λ d=>some (d.1==name)),((cr l:Nat):Int),(i:Int),())) (λ i r=>some (match r.findIdx? λ x=>x.1==name with|some k=>((i+k:Nat):Int)|none=> -1)) b ?_ ?_ a;refine⟨match l.findIdx? λ x=>x.1==name with|some k=>((0+k:Nat))|none=> -1,?_,?_⟩;simp_all[vV,IH,Jr];grind;all_goals grind[h1,h2,h5,h6,xO]
theorem V1{n}(l:List (Int×Int))(v)(a:l.length<n)(b:l.length<=dr):∃q,yf n l v=some q/\(decide (q>=0))=decide (v∈l):=by
 unfold yf;have:=iy (n:=n) (body:=yp n) (ks:=(λ(_)=>some ((-1:Int)),λ(c,_)=>some (c),())) l (λ i=>(l,((cr l:Nat):Int),(i:Int),v.1,v.2,())) (λ i r=>some (match r.findIdx? λ e=>e==v with|some k=>((i+k:Nat):Int)|none=> -1)) b ?_ ?_ a;all_goals grind[h1,h2,h5,h6,yp]
theorem afi{n}(l:List (Int×Int))(v)(a:l.length<n)(b:l.length<=dr):BY n l v=some (decide (v∈l)):=by have⟨q,c,d⟩:=V1 l v a b;grind[BY]
end
end
section
local instance:Dr:= ⟨false⟩
def wi(pre:List Vs)(v:Vs):=jh [ia (rQ v.1) 4,ia (!(pre.any λ x=>x.1==v.1)) 5,ia (cy v.2 1 50) 2]
def ix:Nat->List Vs->List Vs->Int×Int|_,_,[]=>(0,0)|i,pre,v::r=>bif wi pre v==0 then ix (i+1) (pre++ [v]) r else((i:Int),wi pre v)
def sx(m:Int)(pre:List (Int×Int))(h:Int×Int):=jh [ia (cy h.1 0 (m- 1)&&cy h.2 0 (m- 1)) 6,ia (h.1 !=h.2) 11,ia (!(decide (h∈pre))) 26]
def iq(m:Int):Nat->List (Int×Int)->List (Int×Int)->Int×Int|_,_,[]=>(0,0)|i,pre,h::r=>bif sx m pre h==0 then iq m (i+1) (pre++ [h]) r else((i:Int),sx m pre h)
def mQ(p:Pl):=bif decide (p.1.length=0)then(0,10)else bif decide (6<p.1.length)then(0,8)else bif (ix 0 [] p.1).2==0 then(bif decide (30<p.2.length)then(0,8)else iq p.1.length 0 [] p.2)else ix 0 [] p.1
structure jg(p:Pl):Prop where
 v:p.1.length<=8
 h:p.2.length<=32
 n:∀v∈p.1,v.1.length<=20
theorem fE3(a b c):jh [a,b,c]=bif a !=0 then a else bif b !=0 then b else c:=by grind[jh]
theorem wH(a b):jh [a,b]=bif a !=0 then a else b:=by grind[jh]
theorem Hh(m):(l:List (Int×Int))->(i:Nat)->(pre:List (Int×Int))->((iq m i pre l).2==0)=true->iq m i pre l=(0,0)
 | [],_,_,_=>rfl|v::r,i,pre,h=>by simp only[iq]at h⊢;cases a:(sx m pre v==0);grind;rw[a]at h;exact Hh m r _ _ h
theorem BD{α:Type}{l:List α}{i x}(h:l[i]?=some x):l.take (i+1)=l.take i++ [x]:=by grind[List.take_add_one]
theorem SF{α:Type}{l:List α}(h:l.length<=1000):df .i64 (((cr l:Nat):Int)- 1)=(l.length:Int)- 1:=by rw[nu]<;>omega
theorem i2(a b:Int):aG [a,b] 0=some a/\aG [a,b] 1=some b:= ⟨rfl,rfl⟩
theorem r2:cQ (0:Int) 2=some ()/\cQ (1:Int) 2=some ():= ⟨rfl,rfl⟩
theorem aiO{n}(e:1000<=n){p}(hp:jg p)(k0:List Vs×List (Int×Int)×Unit->Option (Int×Int))(k1:Int×Int×Unit->Option (Int×Int)):cq (Au n) n (p.1,((cr p.1:Nat):Int),(0:Int),p.1,p.2,()) (k0,k1,())=bif (ix 0 [] p.1).2==0 then k0 (p.1,p.2,())else k1 ((ix 0 [] p.1).1,(ix 0 [] p.1).2,()):=by have k:=hp.v;refine iy _ (λ i=>(p.1,((cr _):Int),(i:Int),p.1,p.2,())) (λ i r=>bif (ix i (p.1.take i) r).2==0 then k0 _ else k1 ((ix i (p.1.take i) r).1,(ix i (p.1.take i) r).2,())) (by unfold dr;omega) ?_ ?_ (by omega);intro i x r h a j b c d again m;have l:=hp.n x (en a);have⟨q,f,g⟩:=ahd (n:=n) (p.1.take i) x.1 (by grind) (by simp[dr];omega);simp[Au,c,cond_true,b,b2,d,xV p.1 i (by omega),acJ (n:=n) x.1 (by omega) (by unfold dr;omega),tP,f,g,afC,QD e];grind[wi,ix];grind[Au,ix]
theorem ab7{n}(e:1000<=n){p}(hp:jg p)(k0:Unit->Option (Int×Int))(k1:Int×Int×Unit->Option (Int×Int)):cq (Ag n) n (p,(λ f=>vO n f p),p.2,((cr p.2:Nat):Int),(0:Int),()) (k0,k1,())=bif (iq p.1.length 0 [] p.2).2==0 then k0 ()else k1 ((iq p.1.length 0 [] p.2).1,(iq p.1.length 0 [] p.2).2,()):=by
 have k:=hp.h;have l:=hp.v;have a:∀z,vO n z p=some (cy z 0 ((p.1.length:Int)- 1)):=λ z=>by show(H2 n z 0 (df _ (((cr p.1))- 1))).bind _=_;rw[SF (by omega)];rfl
 rw[(funext a)];refine iy _ (λ i=>(p,(λ z=>some (cy z 0 _)),p.2,((cr _):Int),(i:Int),())) (λ i r=>bif (iq _ i (p.2.take i) r).2==0 then k0 _ else k1 ((iq _ i (p.2.take i) r).1,(iq _ i (p.2.take i) r).2,())) (by unfold dr;omega) ?_ ?_ (by omega);intro i x r g h j b c d again m;simp[Ag,c,cond_true,b,b2,d,r2.1,r2.2,(i2 x.1 x.2).1,(i2 x.1 x.2).2,jv,tP,xV p.2 i (by omega),afi (n:=n) (p.2.take i) x (by grind) (by simp[dr];omega),QD e];grind[sx,iq];grind[Ag,iq]
theorem gt0(m:Nat):decide ((m:Int)>(0:Int))=!decide (m=0):=by grind
theorem YO(m k:Nat):decide ((m:Int)<=(k:Int))=!decide (k<m):=by grind
theorem Ig(m k:Nat):decide ((m:Int)>(k:Int))=decide (k<m):=by simp
theorem Ym{n}(a:1000<=n){p}(hp:jg p):xg n p=some (mQ p):=by unfold xg mQ;rw[tP,b2,tP,b2,BO a,b2,gt0,show decide (p.1.length<=(6:Int))=!decide _ from YO _ 6];cases h0:decide (p.1.length=0)with|true=>rfl|false=>cases b:decide (6<p.1.length)with|true=>rfl|false=>simp[eb,ia,cond_true,cond_false];grind[jh,bne_self_eq_false,aiO,ix,decide,cr,Ig,FF,ab7,iq,Hh]
theorem Km{D a R body}{ks:a}{α n}(l)(i)(c:i<=l.length)(f:α->Bool)(F:Nat->D)(yes no:Option R)(d:i<=dr)(g:i<n) (h:∀k x,k<i->l[k]?=some x->decide ((k:Int)< (i:Int))=true->df .i64 ((k:Int)+1)=((k+1:Nat):Int)->aG l (k:Int)=some x->∀again,body (F k) again ks=bif f x then yes else again (F (k+1))) (b:decide ((i:Int)< (i:Int))=false->∀again,body (F i) again ks=no):cq body n (F 0) ks=bif (l.take i).any f then yes else no:=by
 have e:(l.take i).length=i:=by grind
 have:=iy (n:=n) (body:=body) (ks:=ks) (l.take i) F (λ _ r=>bif r.any f then yes else no) (by omega) ?_ ?_ (by omega);all_goals grind[h1,h2,h5,h6,oR]
theorem air{n}(e:1000<=n){p}(hp:jg p)(k0:List Vs×List (Int×Int)×Unit->Option (Int×Int))(k1:Int×Int×Unit->Option (Int×Int)):cq (yU n) n ((0:Int),p.1,p.2,()) (k0,k1,())=bif (ix 0 [] p.1).2==0 then k0 (p.1,p.2,())else k1 ((ix 0 [] p.1).1,(ix 0 [] p.1).2,()):=by
 have u:=hp.v;refine iy _ (λ i=>((i:Int),p.1,p.2,())) (λ i r=>bif (ix i (p.1.take i) r).2==0 then k0 _ else k1 ((ix i (p.1.take i) r).1,(ix i (p.1.take i) r).2,())) (by unfold dr;omega) ?_ ?_ (by omega);intro i x r m o q c d s again v;simp only[yU,d,cond_true,c,b2,VF e];simp[ix];have a:wi (p.1.take i) x=bif !rQ x.1 then 4 else bif (p.1.take i).any λ y=>y.1==x.1 then 5 else bif !cy x.2 1 50 then 2 else 0:=by unfold wi;cases rQ x.1<;>cases(p.1.take i).any (λ y=>y.1==x.1)<;>cases cy x.2 1 50<;>rfl
 rw[a];cases t:rQ _ with
 |false=>rfl|true=>simp[dk,cond_false];refine(Km (n:=n) (body:=Ak n) p.1 i (by omega) (λ y=>y.1==x.1) (λ k=>(i,k,p.1,p.2,())) (k1 (i,5,())) (bif !cy x.2 1 50 then k1 (i,2,())else again (((i+1:Nat)),p.1,p.2,())) (by unfold dr;omega) (by omega) (λ k y f g h j l again=>by grind[Ak]) (λ b again=>by grind[Ak,EO])).trans ?_;grind
 grind[yU,ix]
theorem adi{n}(B:1000<=n){p}(hp:jg p)(k0:Unit->Option (Int×Int))(k1:Int×Int×Unit->Option (Int×Int)):cq (zm n) n ((0:Int),p.1,p.2,()) (k0,k1,())=bif (iq p.1.length 0 [] p.2).2==0 then k0 ()else k1 ((iq p.1.length 0 [] p.2).1,(iq p.1.length 0 [] p.2).2,()):=by
 have w:=hp.h;have C:=hp.v;refine iy _ (λ i=>((i:Int),p.1,p.2,())) (λ i r=>bif (iq _ i (p.2.take i) r).2==0 then k0 _ else k1 ((iq _ i (p.2.take i) r).1,(iq _ i (p.2.take i) r).2,())) (by unfold dr;omega) ?_ ?_ (by omega);intro i x r q s t e f u again D;have c:∀z,zF n p z=some (cy z 0 ((p.1.length:Int)- 1)):=λ z=>by show(qg n z 0 (df _ (((cr p.1))- 1))).bind _=_;rw[SF (by omega)];rfl
 simp only[zm,f,cond_true,e,b2,r2.1,r2.2,(i2 x.1 x.2).1,(i2 x.1 x.2).2,c,jv];simp only[iq];have g:((p.2.take i).any λ y=>y.1==x.1&&y.2==x.2)=decide (x∈p.2.take i):=by grind
 have d:sx p.1.length (p.2.take i) x=bif !(cy x.1 0 ((p.1.length:Int)- 1))||!(cy x.2 0 ((p.1.length:Int)- 1))then 6 else bif x.1==x.2 then 11 else bif (p.2.take i).any λ y=>y.1==x.1&&y.2==x.2 then 26 else 0:=by unfold sx;rw[fE3,g];simp[bne];cases cy x.1 0 ((p.1.length:Int)- 1)<;>cases cy x.2 0 ((p.1.length:Int)- 1)<;>cases(x.1==x.2)<;>cases decide (x∈p.2.take i)<;>rfl
 rw[d];have a:((!(cy x.1 0 ((p.1.length:Int)- 1)))||!(bif !(!(cy x.1 0 ((p.1.length:Int)- 1)))then cy (bif !(!(cy x.1 0 ((p.1.length:Int)- 1)))then x.2 else 0) 0 ((p.1.length:Int)- 1)else false))=(!(cy x.1 0 ((p.1.length:Int)- 1))||!(cy x.2 0 ((p.1.length:Int)- 1))):=by grind
 rw[a];cases A:(!(cy _ 0 _)||!(cy _ 0 _))with
 |true=>rfl|false=>simp[cond_false];cases v:(x.1==x.2)with|true=>rfl|false=>
   simp[cond_false];refine(Km (n:=n) (body:=yj n) p.2 i (by omega) (λ y=>y.1==x.1&&y.2==x.2) (λ k=>(i,k,p.1,p.2,x.1,x.2,())) (k1 (i,26,())) (again (((i+1:Nat)),p.1,p.2,())) (by unfold dr;omega) (by omega)
    (λ k y h j l m o again=>by grind[yj]) (λ b again=>by grind[yj])).trans ?_;grind
 grind[zm,iq]
theorem v46{n}(a:1000<=n){p}(hp:jg p):xy n p=some (mQ p):=by unfold xy mQ;grind[FK,decide,cr,Ig,h0,h6,air,ix,FF,adi,iq,Hh]
theorem v87{n}(a:1000<=n){p}(hp:jg p):tx n p=some (p,(mQ p).2):=by grind[tx,Ym]
end
section
local instance:Dr:= ⟨false⟩
theorem yG(a b:Nat):((a:Int) !=(b:Int))=!decide (a=b):=by grind
theorem LY(a b:Nat):((a:Int)==(b:Int))=decide (a=b):=by grind
theorem kG{α}{s:List α}{i}(h:i<s.length):∃c,aG s (i:Int)=some c/\s.drop i=c::s.drop (i+1)/\s[i]?=some c:= ⟨s[i],by rw[oR,ef h],by simp_all,by grind⟩
def qV(z c w:Int):=jh [ia (cy c 0 z&&cy w 0 3) 2,ia ((c==0)==(w==0)) 13]
def xr:List Vs->List Int->List Int->Int|v::vs,c::cs,w::ws=>bif qV v.2 c w==0 then xr vs cs ws else qV v.2 c w|_,_,_=>0
def j5(p:Pl)(s:St):=bif decide (s.1.length=p.1.length)&&decide (s.2.length=p.1.length)then xr p.1 s.1 s.2 else 10
theorem Sr(v)(vs)(c w)(cs a):xr (v::vs) (c::cs) (w::a)=bif qV v.2 c w==0 then xr vs cs a else qV v.2 c w:=rfl
theorem SZ{n}(j:1000<=n){p}(hp:jg p)(s:St):px n p s=some (j5 p s):=by have u:=hp.v;unfold px j5;rw[show IY n _=some ((cr p.1):Int)from rfl];simp[b2,jv,yG];cases f:decide (s.1.length=p.1.length)with|false=>rfl|true=>simp[dk,eb,cond_true,fv,Bool.true_and,yG];cases g:decide (s.2.length=p.1.length)with|false=>rfl|true=>simp[dk,cond_false,cond_true];have q:=of_decide_eq_true f;have t:=of_decide_eq_true g;refine iy _ (λ i=>(p.1,((cr p.1):Int),(i:Int),s.1,s.2,())) (λ i r=>some (xr r (s.1.drop i) (s.2.drop i))) (by unfold dr;omega) ?_ ?_ (by omega);intro i x r l m o a b d again k;have⟨c,e,c2,_⟩:=kG (s:=s.1) (i:=i) (by omega);have⟨w,w1,w2,_⟩:=kG (s:=s.2) (i:=i) (by omega);simp[Co,b,cond_true,a,e,w1,b2,d,Ra,Pt,jv,tP,BO j,k,c2,w2,Sr];grind[qV];intro h again;simp[Co,h,cond_false];rfl
theorem Mc{n}(u:1000<=n){p}(hp:jg p)(s:St):sM n p s=some (j5 p s):=by have v:=hp.v;unfold sM j5;simp[yG];cases f:decide (s.1.length=p.1.length)with|false=>rfl|true=>cases g:decide (s.2.length=p.1.length)with|false=>rfl|true=>
   simp[dk,eQ,cond_false,fu,cond_true];have o:=of_decide_eq_true f;have q:=of_decide_eq_true g;refine iy _ (λ i=>((i:Int),p.1,p.2,s.1,s.2,())) (λ i r=>some (xr r (s.1.drop i) (s.2.drop i))) (by unfold dr;omega) ?_ ?_ (by omega);intro i x r k l m a b d again j;have⟨c,e,c2,_⟩:=kG (s:=s.1) (i:=i) (by omega);have⟨w,w1,w2,_⟩:=kG (s:=s.2) (i:=i) (by omega);simp[DI,b,cond_true,a,e,w1,b2,d,EO,jv,j,c2,w2,Sr];have t:qV x.2 c w=bif !(cy c 0 x.2)||!(cy w 0 3)then 2 else bif !((w==0)==(c==0))then 13 else 0:=by unfold qV;cases cy c 0 x.2<;>cases cy w 0 3<;>cases(c==0)<;>cases(w==0)<;>rfl
   grind;intro h again;simp[DI,h,cond_false];rfl
def qK(z c w:Int):=jh [ia (((c== -1)||cy c 0 z)&&cy w 0 3) 2,ia ((w==0)|| (c !=0)) 13]
def wz:List Vs->List Int->List Int->Int|v::vs,c::cs,w::ws=>bif qK v.2 c w==0 then wz vs cs ws else qK v.2 c w|_,_,_=>0
theorem NV(v)(vs)(c w)(cs a):wz (v::vs) (c::cs) (w::a)=bif qK v.2 c w==0 then wz vs cs a else qK v.2 c w:=rfl
def rZ(p:Pl)(t:Tk):=bif j5 p t.1==0 then(bif decide (t.2.1.length=p.1.length)&&decide (t.2.2.length=p.1.length)then wz p.1 t.2.1 t.2.2 else 10)else j5 p t.1
theorem ZJ{n}(a:1000<=n){p}(hp:jg p)(t:Tk):v7 n p t=some (rZ p t):=by have v:=hp.v;unfold v7 rZ;rw[show px n _ _=px n p t.1 from rfl,SZ a hp,show IY n _=some ((cr p.1):Int)from rfl];simp[b2,jv,tP,BO a,LY];rw[wH];cases h0:(j5 p _==0)with|false=>grind|true=>simp[bne,h0,dk,cond_false,cond_true];cases g:decide (t.2.1.length=p.1.length)with|false=>rfl|true=>simp[cond_true,Bool.true_and,LY];cases h:decide (t.2.2.length=p.1.length)with|false=>rfl|true=>simp[ia,cond_true,show((0:Int)==0)=true from rfl,dk,cond_false];have q:=of_decide_eq_true g;have u:=of_decide_eq_true h;refine iy _ (λ i=>(p.1,((cr p.1):Int),(i:Int),t.1.1,t.1.2,t.2.1,t.2.2,())) (λ i r=>some (wz r (t.2.1.drop i) (t.2.2.drop i))) (by unfold dr;omega) ?_ ?_ (by omega);intro i x r l m o b d e again k;have⟨c,f,c2,_⟩:=kG (s:=t.2.1) (i:=i) (by omega);have⟨w,w1,w2,_⟩:=kG (s:=t.2.2) (i:=i) (by omega);simp only[Em,d,cond_true,b,f,w1,b2,e,Ra,Pt,jv,tP,BO a,k,c2,w2,NV];grind[qK];intro j again;simp[Em,j,cond_false];rfl
theorem YE{n}(l:1000<=n){p}(hp:jg p)(t:Tk):wy n p t=some (rZ p t):=by have A:=hp.v;unfold wy rZ;rw[show sM n _ _=sM n p t.1 from rfl,Mc l hp,b2];simp[bne];cases h0:(j5 p _==0)with|false=>rfl|true=>simp[dk,cond_false,cond_true];have a:=yG t.2.1.length p.1.length;have b:=yG t.2.2.length p.1.length;simp[bne]at a b;rw[a,b];cases h:decide (t.2.1.length=p.1.length)with|false=>rfl|true=>cases j:decide (t.2.2.length=p.1.length)with|false=>rfl|true=>
    simp[dk,eQ,cond_false,fu,cond_true];have v:=of_decide_eq_true h;have y:=of_decide_eq_true j;refine iy _ (λ i=>((i:Int),p.1,p.2,t.1.1,t.1.2,t.2.1,t.2.2,())) (λ i r=>some (wz r (t.2.1.drop i) (t.2.2.drop i))) (by unfold dr;omega) ?_ ?_ (by omega);intro i x r o q u d e f again m;have⟨c,g,c2,_⟩:=kG (s:=t.2.1) (i:=i) (by omega);have⟨w,w1,w2,_⟩:=kG (s:=t.2.2) (i:=i) (by omega);simp[Ez,e,cond_true,d,g,w1,b2,f,EO,jv,m,c2,w2,NV];have z:qK x.2 c w=bif ((c != -1)&&!(cy c 0 x.2))||!(cy w 0 3)then 2 else bif (w !=0)&& (c==0)then 13 else 0:=by unfold qK;rw[wH];simp[bne];cases(c== -1)<;>cases cy c 0 x.2<;>cases cy w 0 3<;>cases(c==0)<;>cases(w==0)<;>rfl
    grind;intro k again;simp[Ez,k,cond_false];rfl
def a8(p:Pl)(s:St):=bif (mQ p).2==0 then j5 p s else(mQ p).2
def kX(p:Pl)(t:Tk):=bif (mQ p).2==0 then rZ p t else(mQ p).2
theorem Wa{n}(a:1000<=n){p}(hp:jg p)(t:Tk):AT n p t=some (kX p t):=by grind[AT,kX,v46,YE]
theorem S5{n}(a:1000<=n){p}(hp:jg p)(t:Tk):ux n p t=some (kX p t):=by grind[ux,kX,v87,ZJ]
abbrev I6:=Int×Int×Int×Int×Int×Int
def i6(l:List Int):I6:=(l[0]?.getD 0,l[1]?.getD 0,l[2]?.getD 0,l[3]?.getD 0,l[4]?.getD 0,l[5]?.getD 0)
def l6(x:I6):= [x.1,x.2.1,x.2.2.1,x.2.2.2.1,x.2.2.2.2.1,x.2.2.2.2.2]
def nd(s:St):=(i6 s.1,i6 s.2)
theorem g6(l){i:Nat}(a:i<6):aG (l6 (i6 l)) (i:Int)=some (l[i]?.getD 0):=by
 rw[oR];have:i=0\/i=1\/i=2\/i=3\/i=4\/i=5:=by omega
 rcases this with rfl|rfl|rfl|rfl|rfl|rfl<;>rfl
theorem r6{i:Nat}(a:i<6):cQ (i:Int) 6=some ():=by grind[cQ]
def xl:List Int->List Int->List Int->List Int->Bool|a::tcs,tw::tws,c::cs,w::ws=>((a== -1)|| (a==c))&& ((tw==0)|| (tw==w))&&xl tcs tws cs ws|_,_,_,_=>true
def xN(t:Tk)(s:St):=xl t.2.1 t.2.2 s.1 s.2
theorem LK(a b c d)(e f g h):xl (a::e) (b::f) (c::g) (d::h)=(((a== -1)|| (a==c))&& ((b==0)|| (b==d))&&xl e f g h):=rfl
structure uv(p:Pl)(s:St):Prop where
 c:s.1.length=p.1.length
 w:s.2.length=p.1.length
theorem v28{n}(A:1000<=n){p}(hp:jg p){t:Tk}{s}(b:uv p t.2)(a:uv p s):wS n t s=some (xN t s):=by have B:=hp.v;have o:=b.c;have q:=b.w;have u:=a.c;have v:=a.w;refine iy _ (λ i=>((i:Int),t.1.1,t.1.2,t.2.1,t.2.2,s.1,s.2,())) (λ i r=>some (xl (t.2.1.drop i) (t.2.2.drop i) r (s.2.drop i))) (by unfold dr;omega) ?_ ?_ (by omega);intro i x r j k m c d e again h;have⟨C,f,c2,_⟩:=kG (s:=t.2.1) (i:=i) (by omega);have⟨D,d1,d2,_⟩:=kG (s:=t.2.2) (i:=i) (by omega);have⟨w,w1,w2,_⟩:=kG (s:=s.2) (i:=i) (by omega);simp[EX,d,cond_true,c,f,d1,w1,b2,e,jv,h,c2,d2,w2,LK,bne];grind;intro g again;simp[EX,g,cond_false];have z:∀l:List Int,l.length=s.1.length->l.drop s.1.length= []:=λ l y=>gE (by omega);rw[z _ (by omega),z _ (by omega),z _ (by omega)];rfl
end
section
local instance:Dr:= ⟨false⟩
abbrev aeu:=Pl×Tk×I6×I6
theorem F1{p s}(h:j5 p s=0):uv p s:=by unfold j5 at h;cases a:decide (s.1.length=p.1.length)with|false=>grind|true=>cases b:decide (s.2.length=p.1.length)with|false=>grind|true=>exact⟨by grind,by grind⟩
theorem RJ{p t}(h:rZ p t=0):uv p t.1/\uv p t.2:=by unfold rZ at h;cases h0:(j5 p t.1==0)with|false=>grind|true=>refine⟨F1 (by grind),?_⟩;rw[h0]at h;simp[cond_true]at h;cases a:decide (t.2.1.length=p.1.length)with|false=>rw[a]at h;exact absurd (show(10:Int)=0 from h) (by decide)|true=>cases b:decide (t.2.2.length=p.1.length)with|false=>rw[a,b]at h;exact absurd (show(10:Int)=0 from h) (by decide)|true=>exact⟨by grind,by grind⟩
theorem L6{p t}(h:kX p t=0):(mQ p).2=0/\rZ p t=0:=by grind[kX]
theorem k9{p s}(h:a8 p s=0):(mQ p).2=0/\j5 p s=0:=by grind[a8]
theorem aaK{p}(h:(mQ p).2=0):1<=p.1.length/\p.1.length<=6/\p.2.length<=30:=by grind[mQ]
def GC(p:Pl)(t:Tk):aeu:=(p,t,nd t.1)
theorem v90{n}(a:1000<=n){p}(hp:jg p)(t:Tk):vm n p t=some (bif kX p t==0 then(some (GC p t),0)else(none,kX p t)):=by unfold vm;rw[show ux n _ _=ux n p t from rfl,S5 a hp,b2];simp[bne];cases h:(kX p t==0)with|false=>rfl|true=>rfl
theorem v92{n}(I:1000<=n){p}(hp:jg p)(h6:p.1.length<=6){t:Tk}{s}(d:uv p t.2)(b:uv p s)(z:I6×I6):ud n (some (p,t,z)) (nd s)=some (xN t s):=by
 have J:=hp.v;have j:=d.c;have k:=d.w;have m:=b.c;have o:=b.w;refine iy p.1 (λ i=>(some (p,t,z),((cr p.1):Int),(i:Int),(nd s).1.1,(nd s).1.2.1,(nd s).1.2.2.1,(nd s).1.2.2.2.1,(nd s).1.2.2.2.2.1,(nd s).1.2.2.2.2.2,(nd s).2.1,(nd s).2.2.1,(nd s).2.2.2.1,(nd s).2.2.2.2.1,(nd s).2.2.2.2.2.1,(nd s).2.2.2.2.2.2,())) (λ i r=>some (xl (t.2.1.drop i) (t.2.2.drop i) (s.1.drop i) (s.2.drop i))) (by unfold dr;omega) ?_ ?_ (by omega);intro i x r C D E F e f again v;have⟨B,g,c2,_⟩:=kG (s:=t.2.1) (i:=i) (by omega);have⟨K,d1,d2,_⟩:=kG (s:=t.2.2) (i:=i) (by omega);have⟨c,k1,y,A⟩:=kG (s:=s.1) (i:=i) (by omega);have⟨w,w1,w2,w3⟩:=kG (s:=s.2) (i:=i) (by omega);have a:i<6:=by omega
 have gc:aG [(nd s).1.1,(nd s).1.2.1,(nd s).1.2.2.1,(nd s).1.2.2.2.1,(nd s).1.2.2.2.2.1,(nd s).1.2.2.2.2.2] (i:Int)=some c:=by have:=g6 s.1 a;rw[A]at this;trivial
 have h:aG [(nd s).2.1,(nd s).2.2.1,(nd s).2.2.2.1,(nd s).2.2.2.2.1,(nd s).2.2.2.2.2.1,(nd s).2.2.2.2.2.2] (i:Int)=some w:=by have:=g6 s.2 a;rw[w3]at this;trivial
 simp[B4,e,cond_true,g,gc,h,r6 a,b2,f,jv,v,c2,d2,y,w2,LK,bne];cases G:(B== -1)with
 |true=>grind[dk,eb,jv,yR]|false=>grind[dk,eb,jv,e2,yR]
 intro u again;simp[B4,u,cond_false];have q:∀l:List Int,l.length=p.1.length->l.drop p.1.length= []:=λ l H=>gE (by omega);rw[q _ j,q _ k,q _ m,q _ o];rfl
theorem v22(n){p}(hp:jg p):wL n p=some p:=by unfold wL;have:=hp.v;have:=hp.h;grind[zG]
theorem Df(n)(l)(h:l.length<=1000):uV n l=some l:=by grind[uV,zG]
theorem MK(n)(s:St)(h1:s.1.length<=1000)(h2:s.2.length<=1000):th n s=some s:=by grind[th,Df]
theorem v23(n)(t:Tk)(h1:t.1.1.length<=1000)(h2:t.1.2.length<=1000)(h3:t.2.1.length<=1000)(h4:t.2.2.length<=1000):xf n t=some t:=by grind[xf,MK,Df]
theorem v18{n}(j:1000<=n)(p:Pl):∃b,xB n p=some b/\(b=true->jg p):=by unfold xB;generalize f:(((((decide (((cr p.1:Nat):Int)>(4:Int)))&& (decide (((cr p.1:Nat):Int)<=(6:Int))))|| (decide (((cr p.1:Nat):Int)>(8:Int))))|| ((decide (((cr p.2:Nat):Int)>(14:Int)))&& (decide (((cr p.2:Nat):Int)<=(30:Int)))))|| (decide (((cr p.2:Nat):Int)>(32:Int))))=a;cases a with|true=>simp|false=>
  simp only[cond_false];have d:p.1.length<=8:=by grind
  have c:p.2.length<=32:=by grind
  have:=iy (n:=n) (body:=yJ n) (ks:=(λ(_)=>some (true),λ(e,_)=>some (e),())) p.1 (λ i=>((i:Int),p.1,p.2,())) (λ i r=>some (r.all λ v=>decide (v.1.length<=20)&&!(cy v.2 11 50))) (by unfold dr;omega) ?_ ?_ (by omega);refine⟨_,this,λ h=> ⟨d,c,λ v g=>?_⟩⟩;grind;all_goals grind[yJ,EO,jv]
theorem v19(n)(t:Tk):∃b,zS n t=some b/\(b=true->t.1.1.length<=10/\t.1.2.length<=10/\t.2.1.length<=10/\t.2.2.length<=10):=by refine⟨_,rfl,λ h=>?_⟩;grind
end
section
local instance:Dr:= ⟨false⟩
def z6:I6:=(0,0,0,0,0,0)
def tG(b:Int):Int->List Int->List Int->Int|a,c::cs,w::ws=>tG b (bif w==b then df .i64 (a+c)else a) cs ws|a,_,_=>a
theorem aod:(l:List Int)->l.length<=6->l6 (i6 l)=l++ei (6- l.length) 0| [],_=>rfl| [_],_=>rfl| [_,_],_=>rfl| [_,_,_],_=>rfl| [_,_,_,_],_=>rfl| [_,_,_,_,_],_=>rfl| [_,_,_,_,_,_],_=>rfl|_::_::_::_::_::_::_::_,h=>by trivial
end
end Go.Abs.R
namespace Go.Abs
section
variable[Dr]
theorem ams{α}{l:List α}{i}(h0:0<=i)(h1:i< (l.length:Int)):aG l i=some (l[i.toNat]'(by omega)):=by grind[aG,ef]
theorem aob{α}(l)(i:Nat)(x:α)(h:i<l.length):tD l (i:Int) x=some (l.set i x):=by grind[tD]
section
variable{D Ks R:Type}{body:D->(D->Option R)->Ks->Option R}{ks:Ks}
theorem aje{A:Type}{n}(len)(F:Nat->A->D)(G:Nat->A->Option R)(b:Nat->A->Prop)(e:len<=dr) (g:∀i a,i<len->decide ((i:Int)< (len:Int))=true->df .i64 ((i:Int)+1)=((i+1:Nat):Int)->b i a->∀again,(∀c,b (i+1) c->again (F (i+1) c)=G (i+1) c)->body (F i a) again ks=G i a) (d:∀a,decide ((len:Int)< (len:Int))=false->b len a->∀again,body (F len a) again ks=G len a) (a) (h0:b 0 a) (f:len<n):cq body n (F 0 a) ks=G 0 a:=by
 have key:∀m i a,i<=len->b i a->len- i<m->cq body m (F i a) ks=G i a:=by
  intro m
  induction m with|zero=>omega|succ m h=>grind[cq,nu,dr]
 grind
end
end
end Go.Abs
namespace Go.Abs.R
open Go.Abs Go.Proofs.Tryz
open Go.Abs.N(IY H2 zQ vk yf BY C5 En Gt tN Hv yp tR xA)
section
local instance:Dr:= ⟨false⟩
theorem alX{n p}(hp:jg p)(x):zQ n x p=some (cy x 0 ((p.1.length:Int)- 1)):=by have:=hp.v;grind[zQ,IY,SF,Ra]
theorem v80{n p}(hp:jg p)(x):zF n p x=some (cy x 0 ((p.1.length:Int)- 1)):=by have:=hp.v;grind[zF,SF,EO]
theorem am4{n}(a:1000<=n){p}(hp:jg p)(m):akY n p m=some (decide (m∈p.2)):=by have:=hp.h;refine iy _ (λ i=>((i:Int),p.1,p.2,m.1,m.2,())) (λ i r=>some (decide (m∈r))) (by unfold dr;omega) ?_ ?_ (by omega);all_goals grind[akx,e1,e2,Prod.ext]
def n5(p:Pl)(m:Int×Int):=cy m.1 0 ((p.1.length:Int)- 1)&&cy m.2 0 ((p.1.length:Int)- 1)
def aY(l:List Int)(a:Int):=l[a.toNat]?.getD 0
def zu(p:Pl)(a:Int):=(p.1[a.toNat]?.map (·.2)).getD 0
def mv(p:Pl)(s:St)(m:Int×Int):Int:=bif !n5 p m then 6 else bif !decide (m∈p.2)then 18 else bif aY s.1 m.1==0 then 12 else bif aY s.1 m.2==zu p m.2 then 16 else bif (aY s.2 m.2 !=0)&& (aY s.2 m.2 !=aY s.2 m.1)then 13 else 0
theorem o3{l a}(h0:0<=a)(h1:a<l.length):aG l a=some (aY l a):=by grind[ams,aY]
theorem akH{p a}(h0:0<=a)(h1:a<p.1.length):∃v,aG p.1 a=some v/\v.2=zu p a:=by simp_all[ams,zu]
theorem z8{p m}(h:n5 p m=true):(0<=m.1/\m.1<p.1.length)/\0<=m.2/\m.2<p.1.length:=by grind[n5,cy]
theorem v40{n}(f:1000<=n){p}(hp:jg p){s}(d:uv p s)(m):u4 n p s m=some (mv p s m):=by have k1:=d.c;have i:=d.w;unfold u4 mv;rw[v80 hp,b2,v80 hp,jv,b2];cases a:n5 p m with|false=>grind[n5]|true=>have⟨⟨c,g⟩,b,e⟩:=z8 a;unfold n5 at a;rw[ee]at a;have⟨v,v1,v2⟩:=akH (p:=p) b e;simp[a.1,a.2,dk,eb,cond_true,eQ,cond_false,am4 f hp,b2];cases h:decide (m∈p.2)with|false=>rfl|true=>simp[dk,cond_false,o3 (l:=s.1) c (by omega),o3 (l:=s.1) b (by omega),o3 (l:=s.2) b (by omega),o3 (l:=s.2) c (by omega),v1,v2,b2,jv];grind
def n4(x:I6)(m X:Int):I6:=(bif decide (m=0)then X else x.1,bif decide (m=1)then X else x.2.1,bif decide (m=2)then X else x.2.2.1,bif decide (m=3)then X else x.2.2.2.1,bif decide (m=4)then X else x.2.2.2.2.1,bif decide (m=5)then X else x.2.2.2.2.2)
theorem anZ{l}{i:Nat}(h:i<l.length)(h6:l.length<=6)(X):n4 (i6 l) (i:Int) X=i6 (l.set i X):=by
 have:i=0\/i=1\/i=2\/i=3\/i=4\/i=5:=by omega
 rcases this with rfl|rfl|rfl|rfl|rfl|rfl<;>simp[n4,i6,h]
theorem amX{l a}(h0:0<=a)(h:a<l.length)(h6:l.length<=6)(X):n4 (i6 l) a X=i6 (l.set a.toNat X):=by grind[anZ]
theorem abw{l a}(h0:0<=a)(h:a<6):aG (l6 (i6 l)) a=some (aY l a):=by
 have:=g6 l (i:=a.toNat) (by omega)
 rwa [hg h0]at this
theorem ak9{a}(h0:0<=a)(h:a<6):cQ a 6=some ():=by grind[cQ]
theorem alb:(vs:List Vs)->(cs b:List Int)->xr vs cs b=0->cs.length=vs.length->b.length=vs.length->(i:Nat)->i<vs.length->0<=cs[i]?.getD 0/\cs[i]?.getD 0<=(vs[i]?.map (·.2)).getD 0
 | [],_,_,_,_,_,i,d=>by simp at d|v::vs,c::cs,w::b,h,h1,h2,i,d=>by rw[Sr]at h;cases e:(qV v.2 c w==0)with|false=>rw[e,cond_false]at h;rw[h]at e;cases e|true=>rw[e,cond_true]at h;cases i with|succ i=>exact alb vs _ _ h (by grind) (by grind) i (by grind)|zero=>
    have a:qV v.2 c w=0:=by grind
    unfold qV at a;cases g:(cy c 0 v.2&&cy w 0 3)with|false=>rw[g]at a;cases a|true=>grind[cy]
theorem o7{p s}(h:j5 p s=0){a:Int}(h0:0<=a)(h1:a<p.1.length):0<=aY s.1 a/\aY s.1 a<=zu p a:=by have b:=F1 h;have k1:=b.c;have c:=b.w;unfold j5 at h;rw[decide_eq_true k1,decide_eq_true c]at h;exact alb _ _ _ h k1 c _ (by omega)
theorem amy:(l:List Vs)->(i:Nat)->(pre:List Vs)->(ix i pre l).2=0->(k:Nat)->k<l.length->1<=(l[k]?.map (·.2)).getD 0/\(l[k]?.map (·.2)).getD 0<=50
 | [],_,_,_,k,b=>by simp at b|v::l,i,pre,h,k,b=>by unfold ix at h;cases e:(wi pre v==0)with|false=>grind|true=>rw[e,cond_true]at h;cases k with|succ k=>exact amy l _ _ h k (by grind)|zero=>
    have a:wi pre v=0:=by grind
    unfold wi at a;cases g:cy v.2 1 50 with|false=>rw[g]at a;exfalso;revert a;cases rQ v.1<;>cases(pre.any λ x=>x.1==v.1)<;>decide|true=>grind[cy]
theorem aly(k):(l:List (Int×Int))->(i:Nat)->(pre:List (Int×Int))->(iq k i pre l).2=0->∀h∈l,h.1≠h.2
 | [],_,_,_,_,c=>by trivial|v::l,i,pre,h,m,b=>by unfold iq at h;cases e:(sx k pre v==0)with|false=>rw[e,cond_false]at h;rw[show sx k pre v=0 from h]at e;cases e|true=>
   rw[e,cond_true]at h;rcases ew.1 b with rfl|b;have a:sx k pre m=0:=by simpa using e
   unfold sx at a;rw[fE3]at a;intro g;rw[show(m.1 !=m.2)=false by simp[g]]at a;revert a;cases(cy m.1 0 (k- 1)&&cy m.2 0 (k- 1))<;>cases decide (m∈pre)<;>decide;exact aly k l _ _ h m b
theorem x6{p}(h:(mQ p).2=0):(∀a:Int,0<=a->a<p.1.length->1<=zu p a/\zu p a<=50)/\∀m∈p.2,m.1≠m.2:=by unfold mQ at h;cases h0:decide (p.1.length=0)with|true=>rw[h0]at h;exact absurd (show(10:Int)=0 from h) (by decide)|false=>cases d:decide (6<p.1.length)with|true=>grind|false=>rw[h0,d]at h;cases b:((ix 0 [] p.1).2==0)with|false=>rw[b]at h;simp[cond_false]at h;simp[h]at b|true=>rw[b]at h;simp[cond_true]at h;cases c:decide (30<p.2.length)with|true=>rw[c]at h;exact absurd (show(8:Int)=0 from h) (by decide)|false=>rw[c]at h;exact⟨λ a e f=>amy p.1 0 [] (by simpa using b) _ (by omega),aly _ _ 0 _ h⟩
def mq(s:St)(a b q:Int):St:=
 let l:=(s.1.set a.toNat (df .i64 (aY s.1 a- q))).set b.toNat (df .i64 (aY s.1 b+q));let w:=s.2.set b.toNat (aY s.2 a)
 (l,bif aY l a==0 then w.set a.toNat 0 else w)
def ap(p:Pl)(s:St)(m:Int×Int):=mq s m.1 m.2 (bu (aY s.1 m.1) (df .i64 (zu p m.2- aY s.1 m.2)))
theorem amw{p s}(c:uv p s)(a b q):uv p (mq s a b q):=by have k1:=c.c;have d:=c.w;refine⟨by simp[mq,k1],?_⟩;grind[mq]
theorem akO{l a b}(h0:0<=a)(h1:0<=b)(h:a≠b)(X):aY (l.set a.toNat X) b=aY l b:=by grind[aY]
theorem agP{l a}(h0:0<=a)(h1:a<l.length)(X:Int):tD l a X=some (l.set a.toNat X):=by grind[aob]
theorem v42{n p s}(c:uv p s)(h6:p.1.length<=6){m}(e:n5 p m=true)(g:m.1≠m.2):x9 n p s m=some (ap p s m):=by have k1:=c.c;have h:=c.w;have⟨⟨b,f⟩,a,d⟩:=z8 e;have⟨v,v1,v2⟩:=akH (p:=p) a d;unfold x9 ap;rw[(MK n s (by omega) (by omega))];simp[b2,o3 (l:=s.1) b (by omega),o3 (l:=s.1) a (by omega),v1,v2];generalize bu (aY s.1 m.1) (df .i64 (zu p m.2- aY s.1 m.2))=q;unfold mq;simp[b2,o3 (l:=s.2) b (by omega),o3 (l:=s.2) a (by omega),agP (l:=s.1) b (by omega),o3 (l:=s.1.set _ _) a (by simp;omega),agP (l:=s.1.set _ _) a (by simp;omega),agP (l:=s.2) a (by omega),o3 (l:=(s.1.set _ _).set _ _) b (by simp;omega)];grind[o3,agP]
theorem aoU{p s}(c:uv p s)(h6:p.1.length<=6){a b:Int}(d:0<=a)(e:a<p.1.length)(f:0<=b)(g:b<p.1.length)(h:a≠b)(q){R:Type}(K:I6×I6->Option R):((aG (l6 (n4 (i6 s.1) a (df .i64 (aY s.1 a- q)))) b).bind λ x=>(aG (l6 (n4 (n4 (i6 s.1) a (df .i64 (aY s.1 a- q))) b (df .i64 (x+q)))) a).bind λ y=>bif y==0 then K (n4 (n4 (i6 s.1) a (df .i64 (aY s.1 a- q))) b (df .i64 (x+q)),n4 (n4 (i6 s.2) b (aY s.2 a)) a 0) else K (n4 (n4 (i6 s.1) a (df .i64 (aY s.1 a- q))) b (df .i64 (x+q)),n4 (i6 s.2) b (aY s.2 a)))=K (nd (mq s a b q)):=by have k1:=c.c;have i:=c.w;grind[akO,mq,nd,amX,abw]
theorem alJ{n}(k:1000<=n){p}(hp:jg p){s}(B:a8 p s=0)(m):En n p (nd s) m=some (bif mv p s m==0 then nd (ap p s m)else(z6,z6),mv p s m):=by have⟨o,i⟩:=k9 B;have f:=F1 i;have x:=(aaK o).2.1;have L:=hp.v;have K:=hp.h;have k1:=f.c;have M:=f.w;have⟨E,D⟩:=x6 o;unfold En;rw[show(λ F=>zQ n _ _) _=zQ n _ _ from rfl,show(λ F=>zQ n _ _) _=zQ n _ _ from rfl,alX hp,alX hp,b2,jv,b2,tP,b2,afi p.2 m (by omega) (by unfold dr;omega),b2,tP,b2,BO k,wH,b2];cases h:n5 p m with
 |false=>
  have e:mv p s m=6:=by unfold mv;grind
  unfold n5 at h;have:(bif cy m.1 0 ((p.1.length:Int)- 1)then cy m.2 0 ((p.1.length:Int)- 1)else false)=false:=by grind
  rw[e,this,hF];rfl|true=>have⟨⟨b,j⟩,a,c⟩:=z8 h;have d:=h;unfold n5 at d;rw[ee]at d;rw[d.1,d.2];cases z:decide (m∈p.2)with
  |false=>
   have e:mv p s m=18:=by grind[mv]
   rw[e];rfl|true=>
   have A:=D m (of_decide_eq_true z);have⟨v,v1,v2⟩:=akH (p:=p) a c;have⟨G,c2⟩:=o7 i b j;have⟨d1,d2⟩:=o7 i a c;have⟨N,O⟩:=E m.2 a c;have r:aG [(nd s).1.1,(nd s).1.2.1,(nd s).1.2.2.1,(nd s).1.2.2.2.1,(nd s).1.2.2.2.2.1,(nd s).1.2.2.2.2.2] m.1=some (aY s.1 m.1):=abw (l:=s.1) b (by omega);have t:aG [(nd s).1.1,(nd s).1.2.1,(nd s).1.2.2.1,(nd s).1.2.2.2.1,(nd s).1.2.2.2.2.1,(nd s).1.2.2.2.2.2] m.2=some (aY s.1 m.2):=abw (l:=s.1) a (by omega);have u:aG [(nd s).2.1,(nd s).2.2.1,(nd s).2.2.2.1,(nd s).2.2.2.2.1,(nd s).2.2.2.2.2.1,(nd s).2.2.2.2.2.2] m.1=some (aY s.2 m.1):=abw (l:=s.2) b (by omega);have w:aG [(nd s).2.1,(nd s).2.2.1,(nd s).2.2.2.1,(nd s).2.2.2.2.1,(nd s).2.2.2.2.2.1,(nd s).2.2.2.2.2.2] m.2=some (aY s.2 m.2):=abw (l:=s.2) a (by omega);have w1:df .i64 (zu p m.2- aY s.1 m.2)=zu p m.2- aY s.1 m.2:=nu (by omega) (by omega);simp only[ia,cond_true,ak9 b (show m.1<6 by omega),ak9 a (show m.2<6 by omega),r,t,u,w,v1,v2,w1,b2,tP,jv,QD k,fE3];have e:mv p s m=bif aY s.1 m.1==0 then 12 else bif aY s.1 m.2==zu p m.2 then 16 else bif (aY s.2 m.2 !=0)&& (aY s.2 m.2 !=aY s.2 m.1)then 13 else 0:=by grind[mv]
   rw[e];cases H:(aY s.1 _==0)with
   |true=>
    have g:aY s.1 m.1=0:=by grind
    rw[g];rfl
   |false=>
    have g:¬aY s.1 m.1=0:=by grind
    rw[(decide_eq_true (by omega))];simp only[cond_false,cond_true,bne_self_eq_false];cases I:(aY _ _==zu p _)with
    |true=>
     have q:aY s.1 m.2=zu p m.2:=by grind
     rw[(decide_eq_false (by omega))];rfl
    |false=>
     have q:¬aY s.1 m.2=zu p m.2:=by grind
     rw[(decide_eq_true (by omega))];simp only[cond_false,cond_true,bne_self_eq_false];have C:((aY s.2 m.2==0)|| ((bif !(aY s.2 m.2==0)then aY s.2 m.2 else 0)==aY s.2 m.1))=!((aY s.2 m.2 !=0)&& (aY s.2 m.2 !=aY s.2 m.1)):=by
      grind
     rw[C];cases J:((aY _ _ !=0)&& (aY _ _ !=aY _ _))with
     |true=>rfl
     |false=>
      simp[eb,cond_true,cond_false,bne_self_eq_false,beq_self_eq_true];have:=aoU f x b j a c A (bu (aY s.1 m.1) (zu p m.2- aY s.1 m.2)) λ y=>some (y,(0:Int));refine Eq.trans this ?_;unfold ap;rw[w1]
end
section
local instance:Dr:= ⟨false⟩
def u6(p:Pl)(s:St)(i j:Nat):=bif mv p s ((i:Int),(j:Int))==0 then[((i:Int),(j:Int))]else[]
def u7(p:Pl)(s:St)(i:Nat):=(ej 0 p.1.length).flatMap (u6 p s i)
def fH(p:Pl)(s:St):=(ej 0 p.1.length).flatMap (u7 p s)
theorem ak5{α β:Type}(f:α->List β)(c)(h:∀a,(f a).length<=c):(l:List α)->(l.flatMap f).length<=c*l.length
 | []=>by simp|a::l=>by have b:=h a;have d:=ak5 f c h l;grind[List.length_append,List.length_cons,Nat.mul_succ]
theorem am7(p)(s)(i j):(u6 p s i j).length<=1:=by grind[u6,mv]
theorem alI(p)(s)(i):(u7 p s i).length<=p.1.length:=by have:=ak5 (u6 p s i) 1 (am7 p s i) (ej 0 p.1.length);rw[hh,Nat.one_mul]at this;trivial
theorem anF(p)(s):(fH p s).length<=p.1.length*p.1.length:=by
 have:=ak5 (u7 p s) p.1.length (alI p s) (ej 0 p.1.length)
 rwa [hh]at this
theorem adV{i k}(h:i<k):ej i (k- i)=i::ej (i+1) (k- (i+1)):=by rw[show k- i=(k- (i+1))+1 by omega,List.range'_succ]
theorem aol{n}(g:1000<=n){p}(hp:jg p){s}(f:uv p s)(h6:p.1.length<=6)(i)(K)(b:List (Int×Int))(h:b.length<=6*i)(k:i<=6):cq (TH n) n ((i:Int),(0:Int),p.1,p.2,s.1,s.2,b,()) (K,())=K ((i:Int),p.1,p.2,s.1,s.2,b++u7 p s i,()):=by
 have:=aje (n:=n) (body:=TH n) (ks:=(K,())) p.1.length (λ j b=>((i:Int),(j:Int),p.1,p.2,s.1,s.2,b,())) (λ j b=>K ((i:Int),p.1,p.2,s.1,s.2,b++ (ej j (p.1.length- j)).flatMap (u6 p s i),())) (λ j b=>b.length<=6*i+j) (by unfold dr;omega) (λ j a h1 c d e again l=>?_) (λ a h1 e again=>?_) b (by omega) (by omega);trivial;simp[TH,c,cond_true,d];rw[show u4 n _ _ _=u4 n p s _ from rfl,v40 g hp f,b2,adV h1,eL];grind[u6,mv,zG,ht];grind[TH,h1]
theorem v39{n}(h:1000<=n){p}(hp:jg p){s}(g:uv p s)(h6:p.1.length<=6):K4 n p s=some (fH p s):=by
 unfold K4;have:=aje (n:=n) (body:=aaO n) (ks:=(λ x=>match x with| (k,_)=>some k,())) p.1.length (λ i b=>((i:Int),p.1,p.2,s.1,s.2,b,())) (λ i b=>some (b++ (ej i (p.1.length- i)).flatMap (u7 p s))) (λ i b=>b.length<=6*i) (by unfold dr;omega) (λ i a c e f d again j=>?_) (λ a c d again=>?_) [] (by simp) (by omega);trivial;simp only[aaO,e,cond_true];rw[aol h hp g h6 i _ a d (by omega)];have:=alI p s i;simp only[f];rw[j _ (by simp;omega),adV c,eL,ht];simp only[aaO,c,cond_false];rw[hL];simp
abbrev MvN:=(Int×Int)×(I6×I6)
def to2(p:Pl)(s:St)(m:Int×Int):MvN:=(m,nd (ap p s m))
theorem aoI{n}(g:1000<=n){p}(hp:jg p){s}(h:a8 p s=0)(i:Nat)(K)(l:i<6):cq (xA n) n (p,nd s,(i:Int),(p.1.length:Int),(i:Int),(p.1.length:Int),(0:Int),()) (K,λ _=>some [],())=(K (p,nd s,(p.1.length:Int),(i:Int),())).bind λ r=>some ((u7 p s i).map (to2 p s)++r):=by
 have m:=hp.v;have:=aje (n:=n) (body:=xA n) (ks:=(K,λ _=>some [],())) p.1.length (λ j(_:Unit)=>(p,nd s,(i:Int),(p.1.length:Int),(i:Int),(p.1.length:Int),(j:Int),())) (λ j _=>(K (p,nd s,(p.1.length:Int),(i:Int),())).bind λ r=>some (((ej j (p.1.length- j)).flatMap (u6 p s i)).map (to2 p s)++r)) (λ _ _=>True) (by unfold dr;omega) (λ j a b c d f again k=>?_) (λ a b f again=>?_) () trivial (by omega);trivial;simp only[xA,c,cond_true,d];rw[alJ g hp h,b2,adV b,eL,k () trivial];unfold u6;cases e:(mv p s _==0)with
 |true=>cases K (p,nd s,(p.1.length:Int),(i:Int),())<;>rfl|false=>rfl
 simp_all[xA,b,cond_false,hL,nd]
theorem anb{n}(f:1000<=n){p}(hp:jg p){s}(b:a8 p s=0):Gt n p (nd s)=some ((fH p s).map (to2 p s)):=by have h:=hp.v;have g:=(aaK (k9 b).1).2.1;unfold Gt;have:=aje (n:=n) (body:=tR n) (ks:=(λ _=>some [],λ _=>some [],())) p.1.length (λ i(_:Unit)=>(p,nd s,(p.1.length:Int),(i:Int),())) (λ i _=>some (((ej i (p.1.length- i)).flatMap (u7 p s)).map (to2 p s))) (λ _ _=>True) (by unfold dr;omega) (λ i a h1 c d e again j=>?_) (λ a h1 e again=>?_) () trivial (by omega);trivial;simp[tR,c,cond_true];rw[aoI f hp b i _ (by omega)];simp_all[d,trivial,b2,adV,h1,eL,hB];grind[tR,h1]
end
section
local instance:Dr:= ⟨false⟩
theorem ao9(z c w):qV z c w=0↔(0<=c/\c<=z/\0<=w/\w<=3/\(c=0↔w=0)):=by unfold qV;rw[wH];by_cases a:0<=c/\c<=z/\0<=w/\w<=3;rw[show(cy c 0 z&&cy w 0 3)=true by simp[cy];omega];by_cases b:(c=0↔w=0);rw[show((c==0)==(w==0))=true by grind];exact⟨by omega,λ _=>rfl⟩;rw[show((c==0)==(w==0))=false by grind];exact⟨λ h=>absurd h (by decide),by omega⟩;rw[show(cy c 0 z&&cy w 0 3)=false by grind[cy]];exact⟨λ h=>absurd h (by cases((c==0)==(w==0))<;>decide),by omega⟩
theorem akQ:(vs:List Vs)->(cs a:List Int)->cs.length=vs.length->a.length=vs.length->(xr vs cs a=0↔∀i,i<vs.length->qV ((vs[i]?.map (·.2)).getD 0) (cs[i]?.getD 0) (a[i]?.getD 0)=0)| [],_,_,_,_=> ⟨λ _ i b=>by trivial,λ _=>by rfl⟩|v::vs,c::cs,w::a,h1,h2=>by have d:=akQ vs cs a (by grind) (by grind);rw[Sr];cases e:(qV _ c w==0)with|true=>rw[cond_true,d];constructor;grind;intro h i b;exact h (i+1) (by grind)|false=>rw[cond_false];constructor;grind;intro h;exact h 0 (by simp)
theorem amg(p)(s):j5 p s=0↔uv p s/\∀a:Int,0<=a->a<p.1.length->qV (zu p a) (aY s.1 a) (aY s.2 a)=0:=by constructor;intro h;have b:=F1 h;refine⟨b,λ a h0 c=>?_⟩;unfold j5 at h;rw[decide_eq_true b.c,decide_eq_true b.w]at h;exact(akQ _ _ _ b.c b.w).1 h _ (by omega);intro⟨b,h⟩;unfold j5;rw[decide_eq_true b.c,decide_eq_true b.w];exact(akQ _ _ _ b.c b.w).2 λ i d=>h i (by omega) (by omega)
theorem amf{l:List Int}{a:Int}(h0:0<=a)(h:a<l.length)(X):aY (l.set a.toNat X) a=X:=by grind[aY]
theorem akj{p s}(n:a8 p s=0){m}(h:mv p s m=0):n5 p m=true/\m.1≠m.2/\0<aY s.1 m.1/\aY s.1 m.2<zu p m.2/\(aY s.2 m.2=0\/aY s.2 m.2=aY s.2 m.1):=by have⟨o,g⟩:=k9 n;unfold mv at h;cases a:n5 p m with|false=>rw[a]at h;cases h|true=>have⟨⟨i,j⟩,k,l⟩:=z8 a;have⟨q,c2⟩:=o7 g i j;have⟨d1,d2⟩:=o7 g k l;cases d:decide (m∈p.2)with|false=>rw[a,d]at h;cases h|true=>rw[a,d]at h;simp[dk,cond_false]at h;cases b:(aY s.1 m.1==0)with|true=>rw[b]at h;cases h|false=>rw[b,cond_false]at h;cases c:(aY s.1 m.2==zu p m.2)with|true=>rw[c]at h;cases h|false=>rw[c,cond_false]at h;simp at b c;refine⟨rfl,(x6 o).2 m (of_decide_eq_true d),by omega,by omega,?_⟩;by_cases e:aY s.2 m.2=0;exact .inl e;by_cases f:aY s.2 m.2=aY s.2 m.1;exact .inr f;rw[show((aY s.2 m.2 !=0)&& (aY s.2 m.2 !=aY s.2 m.1))=true by simp[e,f]]at h;cases h
structure akt(p:Pl)(s t:St)(a b q:Int):Prop where
 f:0<=a
 m:a<p.1.length
 h:0<=b
 o:b<p.1.length
 e:a≠b
 j:1<=q
 i:q<=aY s.1 a
 r:q<=zu p b- aY s.1 b
 w:aY s.2 b=0\/aY s.2 b=aY s.2 a
 l:uv p t
 d:aY t.1 a=aY s.1 a- q
 g:aY t.1 b=aY s.1 b+q
 c:aY t.2 a=bif aY s.1 a==q then 0 else aY s.2 a
 k:aY t.2 b=aY s.2 a
 n:∀x,0<=x->x≠a->x≠b->aY t.1 x=aY s.1 x/\aY t.2 x=aY s.2 x
theorem aog{p s}(k:a8 p s=0){a b q:Int}(c:0<=a)(d:a<p.1.length)(f:0<=b)(g:b<p.1.length)(ne:a≠b)(l:1<=q)(m:q<=aY s.1 a)(n:q<=zu p b- aY s.1 b) (w:aY s.2 b=0\/aY s.2 b=aY s.2 a):akt p s (mq s a b q) a b q:=by
 have⟨j,p2⟩:=k9 k;have h:=F1 p2;have k1:=h.c;have r:=h.w;have⟨o,c2⟩:=o7 p2 c d;have⟨d1,d2⟩:=o7 p2 f g;have⟨v,x⟩:=(x6 j).1 b f g;have⟨t,u⟩:=(x6 j).1 a c d;have w2:df .i64 (aY s.1 a- q)=aY s.1 a- q:=nu (by omega) (by omega);have w3:df .i64 (aY s.1 b+q)=aY s.1 b+q:=nu (by omega) (by omega);have i:=amw h a b q;have e:mq s a b q=((s.1.set a.toNat (aY s.1 a- q)).set b.toNat (aY s.1 b+q),bif aY s.1 a==q then(s.2.set b.toNat (aY s.2 a)).set a.toNat 0 else s.2.set b.toNat (aY s.2 a)):=by grind[mq,akO,amf]
 rw[e]at i⊢;refine⟨c,d,f,g,ne,l,m,n,w,i,?_,?_,?_,?_,?_⟩;all_goals grind[amf,aY,akO,trans,h0]
theorem api{p s}(c:a8 p s=0){m}(h:mv p s m=0):∃q,akt p s (ap p s m) m.1 m.2 q:=by have⟨j,k⟩:=k9 c;have⟨g,f,m1,m2,i⟩:=akj c h;have⟨⟨d,e⟩,a,b⟩:=z8 g;have⟨d1,d2⟩:=o7 k a b;have⟨l,n⟩:=(x6 j).1 m.2 a b;refine⟨_,aog c d e a b f ?_ ?_ ?_ i⟩<;>rw[nu (by omega) (by omega)]<;>unfold bu<;>split<;>omega
theorem aoT{p s t a b q}(c:a8 p s=0)(M:akt p s t a b q):a8 p t=0:=by have⟨o,d⟩:=k9 c;have⟨l,k⟩:=(amg p s).1 d;have⟨e,f,g,h,ne,r,u,v,n,m,e1,e2,i,j,e5⟩:=M;grind[a8,amg,h0,h1,ao9,e1,e2,e5]
theorem aaZ{p s}(a:a8 p s=0){m}(h:mv p s m=0):a8 p (ap p s m)=0:=by grind[api,aoT]
def rn(p:Pl):Nat->St->List (Int×Int)->St×Int×Int|_,s,[]=>(s,0,0)|i,s,m::r=>bif mv p s m==0 then rn p (i+1) (ap p s m) r else(([],[]),(i:Int),mv p s m)
def b7(p:Pl)(s:St)(l:List (Int×Int)):St×Int×Int:=bif decide (500<l.length)then(([],[]),0,8)else rn p 0 s l
theorem y7(p)(i)(s)(m)(r):rn p i s (m::r)=bif mv p s m==0 then rn p (i+1) (ap p s m) r else(([],[]),(i:Int),mv p s m):=rfl
theorem akz{p}:(r:List (Int×Int))->(i:Nat)->(s:St)->a8 p s=0->(rn p i s r).2.2=0->a8 p (rn p i s r).1=0| [],_,_,h,_=>h|m::r,i,s,h,g=>by rw[y7]at g⊢;cases e:(mv p s m==0)with|true=>rw[e,cond_true]at g;exact akz r _ _ (aaZ h (by grind)) g|false=>grind
def ndE(x:St×Int×Int):=bif x.2.2==0 then(nd x.1,0,0)else((z6,z6),x.2)
theorem aou{n}(e:1000<=n){p}(hp:jg p){s}(b:a8 p s=0)(l:List (Int×Int)):K3 n p (nd s) l=some (ndE (b7 p s l)):=by unfold K3 b7;rw[show decide (((cr l))>(500:Int))=decide _ from Ig _ 500];cases a:decide (500<l.length)with|true=>rfl|false=>
  have d:=of_decide_eq_false a;refine abv (n:=n) l (λ i s=>(l,((cr l):Int),(i:Int),p.1,p.2,(nd s).1.1,(nd s).1.2.1,(nd s).1.2.2.1,(nd s).1.2.2.2.1,(nd s).1.2.2.2.2.1,(nd s).1.2.2.2.2.2,(nd s).2.1,(nd s).2.2.1,(nd s).2.2.2.1,(nd s).2.2.2.2.1,(nd s).2.2.2.2.2.1,(nd s).2.2.2.2.2.2,0,0,0,0,0,0,0,0,0,0,0,0,())) (λ i s r=>some (ndE (rn p i s r))) (λ _ s=>a8 p s=0) (by unfold dr;omega) ?_ ?_ s b (by omega);grind[aiw,alJ,y7,bne,mv,ap,aaZ,ndE,z6];intro s h c again;simp[aiw,h,cond_false];rfl
theorem aph{p s l}(a:a8 p s=0)(h:((b7 p s l).2.2==0)=true):a8 p (b7 p s l).1=0:=by grind[b7,akz]
theorem v51{n}(m:1000<=n){p}(hp:jg p){s}(c:a8 p s=0)(l:List (Int×Int)):s51 n p s l=some (b7 p s l):=by have w:=(aaK (k9 c).1).2.1;unfold s51 b7;rw[show decide (((cr l))>(500:Int))=decide _ from Ig _ 500];cases k:decide (500<l.length)with|true=>rfl|false=>
  have y:=of_decide_eq_false k;refine abv (n:=n) l (λ i s=>(l,(i:Int),p.1,p.2,s.1,s.2,())) (λ i s r=>some (rn p i s r)) (λ _ s=>a8 p s=0) (by unfold dr;omega) ?_ ?_ s c (by omega);intro i s x r o q t d f g a again B;have b:=F1 (k9 a).2;simp only[ajp,f,cond_true,d,b2,g];rw[show u4 n _ _ x=u4 n p s x from rfl,v40 m hp b,b2,y7];simp[bne];cases e:(mv p s x==0)with
  |true=>
   have j:mv p s x=0:=by grind
   have⟨A,z,_⟩:=akj a j;grind[v42,aaZ]|false=>rfl
  intro s h a again;have b:=F1 (k9 a).2;have u:=b.c;have v:=b.w;simp[ajp,h,cond_false];rw[(MK n s (by omega) (by omega))];rfl
theorem v50(n)(l:List (Int×Int))(h:l.length<=1000):s50 n l=some l:=by grind[s50,zG]
theorem v48(n)(l:List (Int×Int)):∃b,s48 n l=some b/\(b=true->l.length<=502):=by refine⟨_,by unfold s48;rw[EO,jv,b2],λ h=>?_⟩;grind[cy]
end
section
local instance:Dr:= ⟨false⟩
theorem apl{α:Type}{f g}:(l:List α)->(∀x∈l,f x=g x)->l.all f=l.all g| [],_=>rfl|x::r,h=>by grind
theorem alw{n}(p:1000<=n)(a b)(h:a.length<=900):zL n a b=some (decide (a=b)):=by unfold zL;rw[yG];by_cases e:a.length=b.length;rw[decide_eq_true e];simp[dk,cond_false];refine iy a (λ i=>(a,b,(i:Int),())) (λ i r=>some (decide (r=b.drop i))) (by unfold dr;omega) ?_ ?_ (by omega);intro i x r l m o d f g again k;have⟨c,j,c2,_⟩:=kG (s:=b) (i:=i) (by omega);simp only[Pu,f,cond_true,d,j,b2,g,k,c2];by_cases q:x=c;simp_all;rw[show(x !=c)=true by grind];simp[q];grind[Pu];rw[decide_eq_false e];have:a≠b:=λ h=>e (h▸rfl);grind
theorem anQ{n}(c:1000<=n)(a b:St)(h1:a.1.length<=900)(h2:a.2.length<=900):Mn n a b=some (decide (a=b)):=by unfold Mn;rw[alw c _ _ h1,alw c _ _ h2,b2,jv,b2];have⟨d,e⟩:=a;have⟨f,g⟩:=b;simp
theorem ak4{n}(k:1000<=n)(l:List St)(s:St)(j:l.length<=900)(h:∀e∈l,e.1.length<=900/\e.2.length<=900):zY n l s=some (decide (s∈l)):=by refine iy l (λ i=>(l,(i:Int),s.1,s.2,())) (λ i r=>some (decide (s∈r))) (by unfold dr;omega) ?_ ?_ (by omega);intro i x r a b c d f g again m;grind[aeO,anQ];grind[aeO]
theorem amA{p s m}(h:mv p s m=0):n5 p m=true:=by grind[mv]
theorem akn{p s m}:m∈fH p s↔mv p s m=0:=by unfold fH u7 u6;simp[List.mem_flatMap,List.mem_range'_1];constructor;grind;intro h;have⟨⟨a,b⟩,c,d⟩:=z8 (amA h);refine⟨m.1.toNat,by omega,m.2.toNat,by omega,?_⟩;grind
theorem aoY{n}(f:1000<=n){p}(hp:jg p){s}(b:a8 p s=0)(l:List St)(q:l.length<=900)(h:∀e∈l,uv p e):K9 n p s l=some ((fH p s).all λ m=>decide (ap p s m∈l)):=by
 have a:=(aaK (k9 b).1).2.1;have c:=F1 (k9 b).2;unfold K9;rw[show K4 n _ _=K4 n p s from rfl,v39 f hp c a,b2];have z:=anF p s;have:p.1.length*p.1.length<=6*6:=Nat.mul_le_mul a a;refine iy _ (λ i=>(l,fH p s,(i:Int),p.1,p.2,s.1,s.2,())) (λ i r=>some (r.all _)) (by unfold dr;omega) ?_ ?_ (by omega);intro i x r w g y j k o again v;have⟨u,t,_⟩:=akj b (akn.1 (en g));simp only[ahM,k,cond_true,j,b2];rw[show x9 n _ _ x=x9 n p s x from rfl,v42 c a u t,b2,ak4 f l _ q λ e d=>by have:=(h e d).c;have:=(h e d).w;omega,b2,o,v,et];grind;grind[ahM]
abbrev ND:=I6×I6
instance apm:DecidableEq ND:=instDecidableEqProd
theorem ali{a b}(h:i6 a=i6 b)(c:a.length=b.length)(h6:a.length<=6):a=b:=by grind[l6,aod,List.append_inj]
theorem alH{p}(h6:p.1.length<=6){a b}(c:uv p a)(d:uv p b)(h:nd a=nd b):a=b:=by have:=c.c;have:=c.w;have:=d.c;have:=d.w;exact Prod.ext (ali (congrArg Prod.fst h) (by omega) (by omega)) (ali (congrArg Prod.snd h) (by omega) (by omega))
theorem akV{p}(h6:p.1.length<=6){a}(b:uv p a){k:List St}(c:∀e∈k,uv p e):decide (nd a∈k.map nd)=decide (a∈k):=by grind[alH]
theorem aks(a b:ND):Ty.f eB a b=true↔a=b:=by grind[Ty.f]
def MI(m:List (ND×Bool))(k:List ND):=m.length<=k.length/\(∀z∈m,z.2=true/\z.1∈k)/\∀x∈k,(x,true)∈m
theorem apg:MI [] []:= ⟨Nat.le_refl _,by simp,by simp⟩
theorem akZ{m k}(h:MI m k)(z:ND):(j4 (Ty.f eB) m z).getD false=decide (z∈k):=by
 have⟨_,d,f⟩:=h;have key:∀m,(∀z∈m,z.2=true)->(j4 (Ty.f eB) m z).getD false=decide (z∈m.map (·.1)):=by intro m;induction m with|nil=>intro _;rfl|cons x r c=>intro h;unfold j4;have c:=c λ y b=>h y (eg _ b);cases a:Ty.f eB x.1 z with|true=>have:=(aks _ _).1 a;have h0:=h x eH;simp[h0,this]|false=>
    have g:z≠x.1:=λ e=>by rw[(aks _ _).2 e.symm]at a;cases a
    simp[cond_false,c];simp[g]
 rw[key m λ z i=>(d z i).1];congr 1;apply propext;constructor;intro h;obtain⟨y,b,rfl⟩:=eV.1 h;exact(d y b).2;intro h;exact eV.2 ⟨_,f z h,rfl⟩
theorem alT(e:ND):∀m:List (ND×Bool),(lz (Ty.f eB) m e true).length<=m.length+1/\(e,true)∈lz (Ty.f eB) m e true/\(∀x∈lz (Ty.f eB) m e true,x∈m\/x=(e,true))/\∀x∈m,x.2=true->x∈lz (Ty.f eB) m e true
 | []=>by simp[lz]|x::r=>by have⟨a,b,c,d⟩:=alT e r;unfold lz;cases i:Ty.f eB x.1 e with
  |true=>have:=(aks _ _).1 i;subst this;refine⟨by simp,by simp,λ y f=>?_,λ y f h=>?_⟩;simp only[cond_true]at f;rcases ew.1 f with h|h;exact .inr h;exact .inl (eg _ h);simp only[cond_true];rcases ew.1 f with rfl|g;have⟨j,k⟩:=y;simp at h;subst h;exact eH;exact eg _ g|false=>simp only[cond_false];refine⟨by simpa using a,eg _ b,λ y f=>?_,λ y f h=>?_⟩;rcases ew.1 f with rfl|h;exact .inl eH;exact(c y h).imp (eg _) id;rcases ew.1 f with rfl|g;exact eH;exact eg _ (d y g h)
theorem ao1{m k}(h:MI m k)(e):MI (lz (Ty.f eB) m e true) (k++ [e]):=by have⟨h0,f,g⟩:=h;have⟨a,b,c,d⟩:=alT e m;refine⟨by simp;omega,λ z j=>?_,λ x i=>?_⟩;rcases c z j with h|rfl;exact⟨(f z h).1,List.mem_append_left _ (f z h).2⟩;exact⟨rfl,by simp⟩;rcases hD.1 i with h|h;exact d _ (g x h) rfl;rw[hq.1 h];exact b
def b8(p:Pl):List St->List St->Int|_,[]=>0|k,s::r=>bif j5 p s==0 then(bif decide (s∈k)then 26 else b8 p (k++ [s]) r)else j5 p s
theorem amo{p}:∀{l k:List St},b8 p k l=0->∀s∈l,j5 p s=0| [],_,_,_,h=>by cases h|x::r,k,h,s,hs=>by unfold b8 at h;cases e:(j5 p x==0)with|false=>rw[e,cond_false]at h;rw[h]at e;cases e|true=>rw[e,cond_true]at h;cases a:decide (x∈k)with|true=>rw[a]at h;cases h|false=>rw[a,cond_false]at h;rcases ew.1 hs with rfl|b;simpa using e;exact amo h s b
def nZ(p:Pl)(t:Tk)(l:List St):=decide (t.1∈l)&&l.all λ s=>!xN t s&& (fH p s).all λ m=>decide (ap p s m∈l)
def clE(p:Pl)(t:Tk)(l:List St):=bif b8 p [] l==0 then(bif nZ p t l then 0 else 20)else b8 p [] l
theorem ant{n}(a:1000<=n){p}(hp:jg p)(t:Tk)(l:List St)(w:l.length<=60)(m:∀s∈l,s.1.length<=10/\s.2.length<=10)(K0 K1):cq (abh n) n (l,0,p.1,p.2,t.1.1,t.1.2,t.2.1,t.2.2,()) (K0,K1,())=bif b8 p [] l==0 then K0 (l,p.1,p.2,t.1.1,t.1.2,t.2.1,t.2.2,())else K1 (b8 p [] l,()):=by
 refine iy (n:=n) l (λ i=>(l,(i:Int),p.1,p.2,t.1.1,t.1.2,t.2.1,t.2.2,())) (λ i r=>bif b8 p (l.take i) r==0 then K0 _ else K1 (b8 p (l.take i) r,())) (by unfold dr;omega) ?_ ?_ (by omega);intro i x r q c u d f g again o;have b:sM n (p.1,p.2) x=some (j5 p x):=Mc a hp x;have j:zY n (l.take i) x=_:=ak4 a (l.take i) x (by simp;omega) λ e k=>by have:=m e (List.mem_of_mem_take k);omega
 simp only[abh,f,cond_true,d,b2,b,b8];cases e:(j5 p x==0)with
 |false=>simp[bne,e,eb,cond_true,cond_false]|true=>simp[bne,e,dk,cond_false,cond_true];rw[xV l i (by omega),b2,j,b2];cases v:decide (x∈l.take i)with|true=>rfl|false=>simp[cond_false];rw[g,o,BD c]
 intro h again;simp only[abh,h,cond_false,b8];rfl
theorem aoo{n}(a:1000<=n){p}(hp:jg p)(C:(mQ p).2=0){t}(u:uv p t.2)(l:List St)(B:l.length<=60)(b:∀s∈l,j5 p s=0):cq (ack n) n (l,0,p.1,p.2,t.1.1,t.1.2,t.2.1,t.2.2,()) (λ _=>some (0:Int),λ(y,_)=>some y,())=some (bif l.all (λ s=>!xN t s&& (fH p s).all λ m=>decide (ap p s m∈l))then 0 else 20):=by
 refine iy (n:=n) l (λ i=>(l,(i:Int),p.1,p.2,t.1.1,t.1.2,t.2.1,t.2.2,())) (λ i r=>some (bif r.all _ then 0 else 20)) (by unfold dr;omega) ?_ ?_ (by omega);intro i x r z d A f g j again w;have v:=b x (en d);have q:a8 p x=0:=by grind[a8]
 have c:wS n ((t.1.1,t.1.2),t.2.1,t.2.2) x=some (xN t x):=v28 a hp u (F1 v);have k:K9 n (p.1,p.2) x l=_:=aoY a hp q l (by omega) λ e o=>F1 (b e o);simp only[ack,g,cond_true,f,b2,c,jv,et];cases xN t x with
 |true=>rfl|false=>simp only[eb,cond_true,Bool.true_and,fv];rw[show K9 n (p.1,p.2) x l=_ from k];simp only[jv,b2,cond_true];cases (fH p x).all (λ m=>decide (ap p x m∈l))with|false=>rfl|true=>simp[dk,cond_false,Bool.true_and];rw[j,w]
 intro h again;simp only[ack,h,cond_false];rfl
theorem v74{n}(a:1000<=n){p}(hp:jg p){t}(hT:kX p t=0)(l:List St)(b:l.length<=60)(c:∀s∈l,s.1.length<=10/\s.2.length<=10):s74 n p t l=some (clE p t l):=by have⟨h,i⟩:=L6 hT;have⟨k,j⟩:=RJ i;unfold s74;rw[show decide ((cr l:Int)>4000)=false from decide_eq_false (by omega),cond_false,ant a hp t l b c];unfold clE;cases hE:(b8 p [] l==0)with|false=>rfl|true=>
  have g:=amo (show b8 p [] l=0 by simpa using hE);simp[cond_true];have d:zY n l (t.1.1,t.1.2)=_:=ak4 a l t.1 (by omega) λ e f=>by have:=c e f;omega
  rw[d,b2];unfold nZ;cases decide (t.1∈l)with|false=>rfl|true=>simp[dk,cond_false,Bool.true_and];exact aoo a hp h j l b g
theorem amp{α:Type}{g}:∀{l:List α}{i:Nat}{x:α},l[i]?=some x->l.all g=(g x&& (l.eraseIdx i).all g)
 |y::l,0,x,h=>by cases h;rfl|y::l,i+1,x,h=>by have a:=amp (g:=g) (l:=l) (i:=i) (x:=x) h;rw[List.eraseIdx_cons_succ,et,et,a];cases g x<;>cases g y<;>rfl
theorem alG(n)(t:Option aeu)(u:List MvN)(c:List (ND×Bool))(b)(it:List (ND×Bool))(K done):∀r:List MvN,la (y8 n) (K,()) done r (t,u,c,b,it,())=bif r.all (λ y=>(j4 (Ty.f eB) c y.2).getD false)then done (t,u,c,b,it,())else K (false,())
 | []=>rfl|x::r=>by rw[la];simp[y8,et];rw[alG n t u c b it K done r];cases(j4 (Ty.f eB) c x.2).getD false<;>rfl
theorem amH{n}(a:1000<=n){p}(hp:jg p)(j:(mQ p).2=0){t}(r:uv p t.2)(l:List St)(b:∀s∈l,j5 p s=0)(m)(g:MI m (l.map nd))(G:ND->Bool) (f:∀s∈l,G (nd s)=(!xN t s&& (fH p s).all λ m=>decide (ap p s m∈l))):∀q(it:List (ND×Bool)),it.length<q->(∀z∈it,z.1∈l.map nd)->cq (abG n) q (some (GC p t),m,false,it,()) (λ _=>some true,λ(E,_)=>some E,())=some (it.all λ z=>G z.1)
 |0,it,h,_=>by omega|q+1,it,h,u=>by
  rw[cq];simp[abG];refine aor (λ e=>by subst e;rfl) λ i x c=>?_;have⟨s,o,es⟩:=eV.1 (u x (en c));have d:=(aaK j).2.1;have C:=b s o;have k:a8 p s=0:=by grind[a8]
  have w:ud n (some (GC p t)) x.1=some (xN t s):=by rw[<-es];exact v92 a hp d r (F1 C) _
  have v:tN n (GC p t).1 x.1=some ((fH p s).map (to2 p s)):=by rw[<-es,show tN n (GC p t).1 (nd s)=(Gt n p (nd s)).bind some from rfl,anb a hp k];rfl
  have A:G x.1=_:=es▸f s o;rw[amp c,A];simp[w,b2];cases xN t s with|true=>rfl|false=>simp[cond_false,eb,Bool.true_and,v,b2];rw[alG,List.all_map,show((fH p s).all _)=(fH p s).all λ q=>decide (ap p s q∈l)from apl _ λ q B=>by show(j4 (Ty.f eB) m (nd (ap p s q))).getD _=_;rw[akZ g,akV d (F1 (k9 (aaZ k (akn.1 B))).2) λ e y=>F1 (b e y)]];cases(fH p s).all (λ q=>decide (ap p s q∈l))with|false=>rfl|true=>simp[cond_true,Bool.true_and];exact amH a hp j r l b m g G f q _ (by rw[List.length_eraseIdx];have:=(fb.1 c).1;split<;>omega) λ z D=>u z (List.mem_of_mem_eraseIdx D)
theorem anu{n}(o:1000<=n){p}(hp:jg p){t}(hT:kX p t=0)(l)(x:l.length<=60)(c:∀s∈l,j5 p s=0)(m)(b:MI m (l.map nd)):abY n m (some (GC p t))=some (nZ p t l):=by have⟨j,q⟩:=L6 hT;have⟨v,w⟩:=RJ q;have g:=(aaK j).2.1;unfold abY;rw[b2,show(GC p t).2.2=nd t.1 from rfl,akZ b,akV g v λ e k=>F1 (c e k)];unfold nZ;cases decide (t.1∈l)with|false=>rfl|true=>
  simp[dk,cond_false,Bool.true_and];let G:ND->Bool:=λ z=>l.all λ s=>!decide (nd s=z)|| (!xN t s&& (fH p s).all λ m=>decide (ap p s m∈l));have d:∀s∈l,G (nd s)=(!xN t s&& (fH p s).all λ m=>decide (ap p s m∈l)):=λ s a=>by cases i:(!xN t s&& (fH p s).all λ m=>decide (ap p s m∈l))with|false=>exact List.all_eq_false.2 ⟨s,a,by simp[i]⟩|true=>refine eo.2 λ u r=>?_;by_cases e:nd u=nd s;have:=alH g (F1 (c u r)) (F1 (c s a)) e;subst this;rw[i];simp;simp[e]
  have y:m.length<=60:=by have:=b.1;rw[List.length_map]at this;omega
  rw[amH o hp j w l c m b G d n m (by omega) λ z f=>(b.2.1 z f).2];congr 1;rw[Bool.eq_iff_iff,eo,eo];constructor;intro h s a;rw[<-d s a];exact h (nd s,true) (b.2.2 _ (eV.2 ⟨s,a,rfl⟩));intro h z f;have⟨s,a,e⟩:=eV.1 (b.2.1 z f).2;rw[<-e,d s a];exact h s a
end
section
local instance:Dr:= ⟨false⟩
theorem anv(a b:Nat):((a:Int).tmod (b:Int))=((a%b:Nat):Int):=(Int.ofNat_tmod a b).symm
theorem alc(a b:Nat)(h:b≠0):NL (a:Int) (b:Int)=some ((a%b:Nat):Int):=by unfold NL;rw[if_neg (by omega),anv]
theorem amV(n)(K):∀(q a b:Nat),b<q->cq (agM n) q ((a:Int),(b:Int),()) (K,())=K ((ep a b:Nat),())
 |0,a,b,h=>by omega|q+1,a,b,h=>by rw[cq];simp[agM];cases b with|zero=>rw[hv];rfl|succ b=>
   have c:(((b+1:Nat):Int) !=0)=true:=by simp;omega
   have d:a%(b+1)<b+1:=hU _ (by omega);rw[c,cond_true,alc a (b+1) (by omega),b2,amV n K q (b+1) (a%(b+1)) (by omega),fR a (b+1),hP (b+1) a,fR]
theorem alW{n}(e:1000<=n)(a b:Nat)(c:b<=50)(d:ep a b<=50):ac1 n a b=some ((ep a b:Nat):Int):=by unfold ac1;rw[amV n _ n a b (by omega)];dsimp only;unfold akA;rw[b2];unfold U1;rw[nu (by omega) (by omega),if_neg (by omega)]
theorem amr(n):∀(q a b:Nat),b<q->cq (ade n) q ((b:Int),(a:Int),()) (λ(t,_)=>some t,())=some ((ep a b:Nat):Int)
 |0,a,b,h=>by omega|q+1,a,b,h=>by rw[cq];simp[ade];cases b with|zero=>rw[hv];rfl|succ b=>
   have c:(((b+1:Nat):Int) !=0)=true:=by simp;omega
   have d:a%(b+1)<b+1:=hU _ (by omega);rw[c,cond_true,alc a (b+1) (by omega),b2,amr n q (b+1) (a%(b+1)) (by omega),fR a (b+1),hP (b+1) a,fR]
theorem amt{n}(d:1000<=n)(a b:Nat)(c:b<=50):adq n a b=some ((ep a b:Nat):Int):=amr n n a b (by omega)
def gc:List Vs->List Int->Nat->Nat|v::vs,c::cs,g=>gc vs cs (ep (ep g v.2.toNat) c.toNat)|_,_,g=>g
theorem alK:∀vs cs g,gc vs cs g∣g/\∀(i:Nat) v c,vs[i]?=some v->cs[i]?=some c->gc vs cs g∣v.2.toNat/\gc vs cs g∣c.toNat
 | [],_,g=> ⟨hM _,by simp⟩|_::_,[],g=> ⟨hM _,by simp⟩|v::vs,c::cs,g=>by have⟨a,f⟩:=alK vs cs (ep (ep g v.2.toNat) c.toNat);have d1:=gg (ep g v.2.toNat) c.toNat;have d2:=gb (ep g v.2.toNat) c.toNat;refine⟨fl a (fl d1 (gg _ _)),λ i u d e b=>?_⟩;cases i with|zero=>cases e;cases b;exact⟨fl a (fl d1 (gb _ _)),fl a d2⟩|succ i=>exact f i u d e b
structure aoG(vs:List Vs)(cs:List Int):Prop where
 a:cs.length=vs.length
 b:∀(i:Nat) v c,vs[i]?=some v->cs[i]?=some c->1<=v.2/\v.2<=50/\0<=c/\c<=50
theorem akC{p s}(m:a8 p s=0):aoG p.1 s.1:=by have⟨j,b⟩:=k9 m;have k:=F1 b;refine⟨k.c,λ i v c d l=>?_⟩;have n:=(fb.1 d).1;have⟨e,f⟩:=(x6 j).1 (i:Int) (by omega) (by omega);have⟨g,h⟩:=o7 b (a:=(i:Int)) (by omega) (by omega);simp[zu,aY,Int.toNat_natCast,d,l,Option.map_some,Option.getD_some]at e f g h;omega
theorem alx{a b:Nat}(c:1<=b)(h:b<=50):ep a b<=50:=hN (hJ (by omega) (gb a b)) h
theorem aoM{a b:Nat}(c:1<=a)(h:a<=50):ep a b<=50/\1<=ep a b:= ⟨hN (hJ (by omega) (gg a b)) h,Nat.gcd_pos_of_pos_left _ (by omega)⟩
theorem v76{n}(d:1000<=n){p}(hp:jg p){t:Tk}(u:a8 p t.1=0):K7 n p t=some ((gc p.1 t.1.1 0:Nat):Int):=by
 have S:=akC u;have E:=hp.v;refine abv (n:=n) p.1 (λ i(g:Nat)=>((g:Int),(i:Int),p.1,p.2,t.1.1,t.1.2,t.2.1,t.2.2,())) (λ i g r=>some ((gc r (t.1.1.drop i) g:Nat):Int)) (λ _ _=>True) (by unfold dr;omega) ?_ ?_ 0 trivial (by omega);intro i g x r w e y f j k _ again v;have⟨c,l,c2,c3⟩:=kG (s:=t.1.1) (i:=i) (by rw[S.a];omega);have⟨z,A,B,C⟩:=S.b i x c e c3;have m:(x.2:Int)=(x.2.toNat:Int):=by omega
 have o:c=(c.toNat:Int):=by omega
 simp only[afQ,j,cond_true,f,l,b2];rw[m,alW d g _ (by omega) (alx (by omega) (by omega)),b2,o];have⟨q,D⟩:=aoM (a:=ep g x.2.toNat) (b:=c.toNat) (Nat.gcd_pos_of_pos_right _ (by omega)) (alx (by omega) (by omega));rw[alW d _ _ (by omega) q,b2,k,v _ trivial,c2];rfl;intro g h _ again;simp[afQ,h,cond_false];cases t.1.1.drop p.1.length<;>rfl
theorem alM{n}(a:1000<=n){p}(hp:jg p){t}(b:a8 p t.1=0):aaV n (some (GC p t))=some ((gc p.1 t.1.1 0:Nat):Int):=by
 have S:=akC b;have C:=hp.v;have B:=(aaK (k9 b).1).2.1;unfold aaV;rw[b2];refine abv (n:=n) p.1 (λ i(g:Nat)=>(some (GC p t),p.1,(p.1.length:Int),(i:Int),(g:Int),())) (λ i g r=>some ((gc r (t.1.1.drop i) g:Nat):Int)) (λ _ _=>True) (by unfold dr;omega) ?_ ?_ 0 trivial (by omega);intro i g x r q d u e f j _ again o;have⟨c,A,c2,c3⟩:=kG (s:=t.1.1) (i:=i) (by rw[S.a];omega);have⟨v,w,y,z⟩:=S.b i x c d c3;have k:(x.2:Int)=(x.2.toNat:Int):=by omega
 have l:c=(c.toNat:Int):=by omega
 have m:aG [(GC p t).2.2.1.1,(GC p t).2.2.1.2.1,(GC p t).2.2.1.2.2.1,(GC p t).2.2.1.2.2.2.1,(GC p t).2.2.1.2.2.2.2.1,(GC p t).2.2.1.2.2.2.2.2] (i:Int)=some c:=(g6 t.1.1 (by omega)).trans (by rw[c3];rfl);simp only[ae7,f,cond_true,e,b2];rw[k,amt a g _ (by omega),b2,m,b2,l,amt a _ _ (by omega),b2,j,o _ trivial,c2];rfl;intro g h _ again;simp[ae7,h,cond_false];cases t.1.1.drop p.1.length<;>rfl
def fV(b c:Int):=(c != -1)&& (c.tmod b !=0)
theorem aoO{n}(v:1000<=n)(l)(u:l.length<=900)(b)(p:b≠0):akk n l (λ y=>Nx n y b)=some (l.any (fV b)):=by
 have e:∀c,Nx n c b=some (fV b c):=λ c=>by unfold Nx;rw[show NL c b=some (c.tmod b)from if_neg p,jv,b2];unfold fV;cases (c != -1)<;>rfl
 have:=iy (n:=n) (body:=acV n) (ks:=(λ(_)=>some ((-1:Int)),λ(s,_)=>some (s),())) l (λ i=>(l,(λ y=>Nx n y b),((cr l:Nat):Int),(i:Int),())) (λ i r=>some (match r.findIdx? (fV b) with|some k=>((i+k:Nat):Int)|none=> -1)) (by unfold dr;omega) ?_ ?_ (by omega);show(agU n l _).bind (λ x=>some (decide (x>=0)))=_;rw[show agU n l _=_ from this,b2]
 congr 1;cases f:l.findIdx? (fV b) with
 |none=>
  have:l.any (fV b)=false:=by rw[Bool.eq_false_iff];intro h;have⟨x,d,a⟩:=gf.1 h;have:=List.findIdx?_eq_none_iff.1 f x d;rw[this]at a;cases a
  rw[this];rfl|some k=>have⟨d,a,_⟩:=List.findIdx?_eq_some_iff_getElem.1 f;rw[gf.2 ⟨_,hy d,a⟩];simp
 intro i x r d a t j m o again q;simp only[acV,m,j,o,b2,cond_true,e x];cases g:fV b x with
 |true=>simp[fx,g]|false=>simp only[cond_false];rw[q,fx,g];cases r.findIdx? (fV b) with|none=>rfl|some k=>simp;omega
 intro h again;simp only[acV,h,cond_false];rfl
def cdB(p:Pl)(t:Tk)(b:Int):=(((gc p.1 t.1.1 0:Nat):Int).tmod b==0)&&t.2.1.any (fV b)
def x8(p:Pl)(t:Tk)(b:Int):Int:=bif cy b 2 50 then(bif cdB p t b then 0 else 20)else 2
theorem v75{n}(m:1000<=n){p}(hp:jg p){t}(hT:kX p t=0)(q:a8 p t.1=0)(b):s75 n p t b=some (x8 p t b):=by have⟨o,s⟩:=L6 hT;have⟨A,j⟩:=RJ s;have z:=(aaK o).2.1;unfold s75 x8;rw[EO,b2];cases u:cy b 2 50 with|false=>rfl|true=>
  have c:b≠0:=by simp[cy,ee,decide_eq_true_eq]at u;omega
  rw[show K7 n (p.1,p.2) _=some _ from v76 m hp (t:=t) q];simp[dk,cond_false,b2,cond_true];rw[show NL ((gc p.1 t.1.1 0:Nat):Int) b=some _ from if_neg c,b2];unfold cdB;cases d:(((gc p.1 t.1.1 0:Nat):Int).tmod b==0)with|false=>simp[bne,d,eb,cond_true,gk,cond_false]|true=>
   simp[bne,d,dk,cond_false,Bool.true_and];refine iy (n:=n) t.2.1 (λ i=>(b,(i:Int),t.1.1,t.1.2,t.2.1,t.2.2,())) (λ i r=>some (bif r.any (fV b)then 0 else 20)) (by unfold dr;have:=j.c;omega) ?_ ?_ (by have:=j.c;omega);intro i x r v w y k l a again g;simp only[ahH,l,cond_true,k,b2,jv];have e:fV b x=((x != -1)&& ((bif (x != -1)then x.tmod b else 0) !=0)):=by unfold fV;cases (x != -1)<;>rfl
   cases f:(x != -1)with
   |false=>
    have:fV b x=false:=by unfold fV;rw[f];rfl
    simp[cond_false,gk,jv,bI,b2,gu,this,fv];rw[a,g]|true=>
    have:fV b x=(x.tmod b !=0):=by unfold fV;rw[f];rfl
    simp[cond_true,bI,Bool.true_and,gu,this];rw[show NL x b=some (x.tmod b)from if_neg c,b2];cases (x.tmod b !=0)with|true=>rfl|false=>simp[cond_false,fv];rw[a,g]
   intro h again;simp only[ahH,h,cond_false];rfl
def cE(p:Pl)(t:Tk)(e:Int):=bif kX p t==0 then e else kX p t
theorem aao{p t}(hT:kX p t=0):a8 p t.1=0:=by have⟨b,a⟩:=L6 hT;unfold a8;rw[b];unfold rZ at a;cases e:(j5 p t.1==0)with|true=>simpa using e|false=>rw[e,cond_false]at a;exact a
theorem v72{n}(a:1000<=n){p}(hp:jg p)(t:Tk)(d:t.2.1.length<=900)(b):s72 n p t b=some (cE p t (x8 p t b)):=by unfold s72 cE;rw[show vm n _ _=vm n p t from rfl,v90 a hp,b2,Ra,b2,tP,b2,BO a,wH,b2];cases h:(kX p t==0)with
 |false=>simp[cond_false];have:(kX p t !=0)=true:=by simp[bne,h]
         rw[this];simp[cond_true,this]|true=>
  have hT:kX p t=0:=by simpa using h
  simp only[cond_true,bne_self_eq_false,cond_false];unfold x8;cases e:cy b 2 50 with|false=>rfl|true=>
   have c:b≠0:=by simp[cy,ee,decide_eq_true_eq]at e;omega
   rw[show(ia true 2:Int)=0 from rfl];simp only[bne_self_eq_false,cond_false,cond_true];rw[aoO a t.2.1 d b c,b2,alM a hp (aao hT),b2,show NL ((gc p.1 t.1.1 0:Nat):Int) b=some _ from if_neg c,b2,tP,b2];rfl
theorem v73{n}(a:1000<=n){p}(hp:jg p)(t:Tk):s73 n p t=some (bif kX p t==0 then(((gc p.1 t.1.1 0:Nat):Int),0)else(0,kX p t)):=by unfold s73;rw[show vm n _ _=vm n p t from rfl,v90 a hp,b2];cases h:(kX p t==0)with
 |false=>simp[cond_false];have:(kX p t !=0)=true:=by simp[bne,h]
         rw[this];rfl|true=>
  have hT:kX p t=0:=by simpa using h
  simp[cond_true,bne_self_eq_false,cond_false];rw[alM a hp (aao hT)];rfl
def zZ(e:Int)(m:Nat):=bif e==0 then((m:Int),0)else(0,e)
theorem v70{n}(c:1000<=n){p}(hp:jg p)(t:Tk)(l:List St)(y:l.length<=60):s70 n p t l=some (zZ (cE p t (clE p t l)) l.length):=by unfold s70 cE zZ;rw[show vm n _ _=vm n p t from rfl,v90 c hp,b2,show decide ((cr l:Int)<=4000)=true from decide_eq_true (by omega),tP,b2,BO c,wH,b2];cases h:(kX p t==0)with
 |false=>simp[cond_false];have:(kX p t !=0)=true:=by simp[bne,h]
         rw[this];simp[cond_true,this,h,cond_false]|true=>
  have hT:kX p t=0:=by simpa using h
  simp[cond_true,bne_self_eq_false,cond_false];rw[show(ia true 8:Int)=0 from rfl];simp[bne_self_eq_false,cond_false];refine abv (n:=n) l (λ i(m:List (ND×Bool))=>(l,some (GC p t),l,(cr l:Int),(i:Int),m,())) (λ i m r=>some (bif (bif b8 p (l.take i) r==0 then(bif nZ p t l then 0 else 20)else b8 p (l.take i) r)==0 then((cr l:Int),0)else(0,bif b8 p (l.take i) r==0 then(bif nZ p t l then 0 else 20)else b8 p (l.take i) r))) (λ i m=>MI m ((l.take i).map nd)/\∀s∈l.take i,j5 p s=0) (by unfold dr;omega) ?_ ?_ [] ⟨by simpa using apg,by simp⟩ (by omega);intro i m x r B f C k o q g again z;have⟨a,b⟩:=g;have v:px n (GC p t).1 (x.1,x.2)=some (j5 p x):=SZ c hp x;simp only[ag1,o,cond_true,k,b2,v,b8];cases e:(j5 p x==0)with
  |false=>simp[bne,e,eb,cond_true,cond_false]|true=>
   have j:j5 p x=0:=by simpa using e
   have w:=(aaK (L6 hT).1).2.1;simp[bne,e,dk,cond_false,cond_true];rw[show tj n (x.1,x.2)=some (nd x)from rfl,b2,akZ a,akV w (F1 j) λ s d=>F1 (b s d)];cases decide (x∈l.take i)with
   |true=>rfl|false=>simp[cond_false];rw[q,z _ ⟨by rw[BD f,hB];exact ao1 a (nd x),λ s d=>by rw[BD f]at d;rcases hD.1 d with h|h;exact b s h;rw[hq.1 h];exact j⟩,BD f]
  intro m h g again;have⟨a,b⟩:=g;rw[List.take_length]at a b;simp[ag1,h,cond_false,b8];have u:ai9 n (some (GC p t)) (λ A=>abY n m A)=some (bif nZ p t l then 0 else 20):=by unfold ai9;dsimp only;rw[anu c hp hT l y b m a,b2,tP];rfl
  rw[u,b2];cases nZ p t l<;>rfl
def z0(p:Pl):St:=(ei p.1.length 0,ei p.1.length 0)
theorem anC{p}:nd (z0 p)=(z6,z6):=by grind[nd,z0,i6,z6]
def r8(p:Pl)(t:Tk)(l:List (Int×Int)):=bif (b7 p t.1 l).2.2==0 then(bif xN t (b7 p t.1 l).1 then 0 else 20)else(b7 p t.1 l).2.2
def mE(p:Pl)(t:Tk)(l:List (Int×Int)):=bif kX p t==0 then r8 p t l else kX p t
theorem v62{n}(a:1000<=n){p}(hp:jg p)(t:Tk)(l:List (Int×Int)):s62 n p t l=some (zZ (mE p t l) l.length):=by unfold s62;rw[show vm n _ _=vm n p t from rfl,v90 a hp,b2];unfold mE zZ;cases h:(kX p t==0)with|false=>grind|true=>
  have⟨g,i⟩:=L6 (show kX p t=0 by grind);have⟨o,j⟩:=RJ i;have d:=(aaK g).2.1;have b:a8 p t.1=0:=by grind[a8,rZ]
  simp[cond_true,bne,beq_self_eq_true,dk,cond_false,b2];rw[show K3 n (GC p t).1 (GC p t).2.2 l=K3 n p (nd _) l from rfl,aou a hp b,b2];have c (s:St) (f:uv p s):ud n (some (GC p t)) (nd s)=some (xN t s):=v92 a hp d j f _;unfold r8 ndE;cases e:((b7 p _ l).2.2==0)with
  |false=>have:=c (z0 p) ⟨by simp[z0],by simp[z0]⟩;grind[anC,tP,BO,wH]|true=>have⟨k,m⟩:=k9 (aph b e);grind[F1,ud,GC,tP,BO,wH,bne,ia,xN,b7]
def u5(s:St):=decide (s.1.length<=10)&&decide (s.2.length<=10)
def x7(l:List (List St)):=l.all λ c=>decide (c.length<=60)&&c.all u5
theorem aoa(n)(s:St):wX n s=some (u5 s):=by grind[wX,u5]
theorem v61{n}(p:1000<=n)(l:List (List St)):s61 n l=some (decide (l.length<=12)&&x7 l):=by
 unfold s61;rw[show decide (((cr l))>(12:Int))=decide _ from Ig _ 12];by_cases h:l.length<=12
 ·rw[decide_eq_true h,decide_eq_false (by omega),cond_false,Bool.true_and];refine iy (n:=n) l (λ i=>(l,(i:Int),())) (λ i r=>some (x7 r)) (by unfold dr;omega) ?_ ?_ (by omega)
  ·intro i x r g k m a b o again t;simp only[adH,b,cond_true,a,b2];rw[show decide (((cr x))>(60:Int))=decide _ from Ig _ 60];by_cases s:x.length<=60
   ·rw[decide_eq_false (by omega),cond_false];have:=iy (n:=n) (body:=ajx n) (ks:=(λ(e,d,_)=>again (e,df .i64 (d+1),()),λ(f,_)=>some f,())) x (λ j=>(l,(i:Int),(j:Int),())) (λ j q=>some (q.all u5&&x7 r)) (by unfold dr;omega) ?_ ?_ (by omega);all_goals grind[x7,ajx,aoa,u5]
   grind[x7]
  ·intro c again;simp[adH,c,cond_false];rfl
 grind
theorem v71{n}(k:1000<=n)(l:List St)(j:l.length<=60)(h:∀s∈l,u5 s=true):s71 n l=some l:=by refine Eq.trans (abv (n:=n) l (λ i o=>(l,(i:Int),o,())) (λ i o r=>some (o++r)) (λ i o=>o.length<=i) (by unfold dr;omega) ?_ ?_ _ (by simp) (by omega)) rfl;intro i o x r b a c d e f g again p;have m:=h x (en a);grind[u5,akf,MK,zG];grind[akf]
end
section
local instance:Dr:= ⟨false⟩
theorem alU{p t l}(h:nZ p t l=true):∀r i s,s∈l->(rn p i s r).2.2=0->(rn p i s r).1∈l
 | [],i,s,a,_=>a|m::r,i,s,a,hr=>by rw[y7]at hr⊢;cases e:(mv p s m==0)with|false=>rw[e,cond_false]at hr;simp at hr;rw[hr]at e;cases e|true=>rw[e,cond_true]at hr;simp[cond_true];simp only[nZ,ee,eo,decide_eq_true_eq]at h;exact alU (by simp only[nZ,ee,eo,decide_eq_true_eq];exact h) r _ _ ((h.2 s a).2 m (akn.2 (by simpa using e))) hr
theorem ale{p t r}(h:r8 p t r=0):(rn p 0 t.1 r).2.2=0/\xN t (rn p 0 t.1 r).1=true:=by unfold r8 at h;cases e:((b7 p t.1 r).2.2==0)with|false=>rw[e,cond_false]at h;rw[h]at e;cases e|true=>rw[e,cond_true]at h;cases a:xN t (b7 p t.1 r).1 with|false=>rw[a]at h;cases h|true=>unfold b7 at e a;cases b:decide (500<r.length)with|true=>rw[b]at e;cases e|false=>rw[b,cond_false]at e a;exact⟨by simpa using e,a⟩
theorem aoj{p t l r}(h:nZ p t l=true)(h2:r8 p t r=0):False:=by have⟨a,b⟩:=ale h2;have:=alU h r 0 t.1 (by simp[nZ,ee,decide_eq_true_eq]at h;exact h.1) a;simp only[nZ,ee,eo,decide_eq_true_eq]at h;have:=(h.2 _ this).1;rw[b]at this;cases this
theorem aoS{p s}(A:a8 p s=0){m}(y:mv p s m=0){b}(n:∀c∈s.1,b∣c)(B:∀a:Int,0<=a->a<p.1.length->b∣zu p a):∀c∈(ap p s m).1,b∣c:=by
 have⟨k,l⟩:=k9 A;have x:=F1 l;have k1:=x.c;have⟨⟨i,j⟩,d,f⟩:=z8 (amA y);have⟨C,c2⟩:=o7 l i j;have⟨d1,d2⟩:=o7 l d f;have⟨I,J⟩:=(x6 k).1 m.2 d f;have⟨G,H⟩:=(x6 k).1 m.1 i j;have o:∀a:Int,0<=a->a<p.1.length->aY s.1 a∈s.1:=λ a h0 k=>by
  have v:a.toNat<s.1.length:=by omega
  unfold aY;rw[ef v];exact hy v
 have r:=n _ (o m.1 i j);have t:=n _ (o m.2 d f);have dz:=B m.2 d f;have w:df .i64 (zu p m.2- aY s.1 m.2)=zu p m.2- aY s.1 m.2:=nu (by omega) (by omega);have z:∃q,q=bu (aY s.1 m.1) (df .i64 (zu p m.2- aY s.1 m.2))/\b∣q/\0<=q/\q<=aY s.1 m.1/\q<=zu p m.2- aY s.1 m.2:=by rw[w];refine⟨_,rfl,?_⟩;unfold bu;split;exact⟨hQ dz t,by omega,by omega,by omega⟩;exact⟨r,by omega,by omega,by omega⟩
 have⟨q,e,u,D,E,F⟩:=z;intro c g;unfold ap at g;rw[<-e]at g;simp[mq]at g;rcases gl g with h|h;rcases gl h with h|h;exact n c h;rw[h,nu (by omega) (by omega)];exact hQ r u;rw[h,nu (by omega) (by omega)];exact Int.dvd_add t u
theorem amB{p b}(g:∀a,0<=a->a<p.1.length->b∣zu p a):∀r i s,a8 p s=0->(∀c∈s.1,b∣c)->(rn p i s r).2.2=0->∀c∈(rn p i s r).1.1,b∣c
 | [],i,s,_,d,_=>d|m::r,i,s,hs,d,hr=>by rw[y7]at hr⊢;cases e:(mv p s m==0)with|false=>rw[e,cond_false]at hr;simp at hr;rw[hr]at e;cases e|true=>
   have f:mv p s m=0:=by simpa using e
   rw[e,cond_true]at hr;simp[cond_true];exact amB g r _ _ (aaZ hs f) (aoS hs f d g) hr
theorem alr:∀a b c d,xl a b c d=true->a.length=c.length->b.length=c.length->d.length=c.length->∀x∈a,x= -1\/x∈c| [],_,_,_,_,_,_,_,x,e=>by cases e|a::l1,b::l2,c::l3,d::l4,h,e1,e2,e3,x,e=>by rw[LK]at h;simp[ee,Bool.or_eq_true,beq_iff_eq]at h;rcases ew.1 e with rfl|e;obtain h|h:=h.1.1;exact .inl h;exact .inr (by rw[h];exact eH);exact(alr l1 l2 l3 l4 h.2 (by simpa using e1) (by simpa using e2) (by simpa using e3) x e).imp id (eg _)|_::_,_,[],_,_,e1,_,_,_,_=>by cases e1|_::_,[],_::_,_,_,_,e2,_,_,_=>by cases e2|_::_,_::_,_::_,[],_,_,_,e3,_,_=>by cases e3
theorem an5{p t}(hT:kX p t=0){b}(I:cy b 2 50=true)(h:cdB p t b=true){r}(h2:r8 p t r=0):False:=by
 have⟨H,D⟩:=L6 hT;have⟨J,u⟩:=RJ D;have k:=aao hT;have S:=akC k;have⟨a,m⟩:=ale h2;simp[cdB,ee,gf,beq_iff_eq]at h;have⟨w,c,g,f⟩:=h;have y:b∣((gc p.1 t.1.1 0:Nat):Int):=Int.dvd_of_tmod_eq_zero w;have⟨_,q⟩:=alK p.1 t.1.1 0;have l:∀{x:Int},0<=x->gc p.1 t.1.1 0∣x.toNat->b∣x:=λ {x} h0 E=>by have:((gc p.1 t.1.1 0:Nat):Int)∣(x.toNat:Int):=Int.natCast_dvd_natCast.2 E;rw[hg h0]at this;exact Int.dvd_trans y this
 have v:∀c∈t.1.1,b∣c:=λ c g=>by have⟨i,j⟩:=List.getElem?_of_mem g;have A:=(fb.1 j).1;have d:p.1[i]?=some (p.1[i]'(by rw[<-S.a];exact A)):=ef _;have⟨_,_,n,_⟩:=S.b i _ _ d j;exact l n (q i _ _ d j).2
 have F:∀a:Int,0<=a->a<p.1.length->b∣zu p a:=λ a h0 G=>by
  have s:a.toNat<p.1.length:=by omega
  have d:p.1[a.toNat]?=some p.1[a.toNat]:=ef s;have B:a.toNat<t.1.1.length:=by rw[S.a];exact s
  have o:t.1.1[a.toNat]?=some t.1.1[a.toNat]:=ef B;have⟨n,_,_,_⟩:=S.b _ _ _ d o;unfold zu;rw[d];exact l (by simpa using (by omega:(0:Int)<=p.1[a.toNat].2)) (q _ _ _ d o).1
 have z:=amB F r 0 t.1 k v a;have C:=akz r 0 t.1 k a;have e:=F1 (k9 C).2;unfold fV at f;simp[ee,bne_iff_ne,ne_eq]at f;rcases alr _ _ _ _ m (by rw[u.c,e.c]) (by rw[u.w,e.c]) (by rw[e.w,e.c]) c g with h|h;exact f.1 h;exact f.2 (Int.tmod_eq_zero_of_dvd (z c h))
theorem ape(e)(m):(zZ e m).2=e/\(zZ e m).1=bif e==0 then(m:Int)else 0:=by unfold zZ;cases h:(e==0)with|true=>exact⟨(by simpa using h:e=0).symm,rfl⟩|false=>exact⟨rfl,rfl⟩
theorem anh(k)(p:Pl)(t:Tk)(x:List St×Int×List (Int×Int)):s13 (k+2000) p t x=some true:=by
 generalize J:k+2000=n;have c:1000<=n:=by omega
 unfold s13;have⟨b,F,I⟩:=v18 c p;have⟨q,G,j⟩:=v19 n t;have⟨r,H,K⟩:=v48 n x.2.2;rw[show FJ n=some _ from J▸acS k,b2,F,G,H,v61 c];simp only[jv,b2];cases b with|false=>rfl|true=>cases q with|false=>rfl|true=>cases L:x7 [x.1] with|false=>rfl|true=>cases r with|false=>rfl|true=>
     have hp:=I rfl;have⟨O,P,Q,R⟩:=j rfl;have N:=K rfl;have f:x.1.length<=60/\∀s∈x.1,u5 s=true:=by simpa[x7]using L
     have E:∀s∈x.1,s.1.length<=10/\s.2.length<=10:=λ s j=>by have:=f.2 s j;simpa[u5]using this
     have z:wL n p=some p:=v22 n hp;have m:xf n t=some t:=v23 n t (by omega) (by omega) (by omega) (by omega);have o:AT n p t=some (kX p t):=Wa c hp t;rw[show decide (cr [x.1]<=12)=true from rfl];simp[dk,eQ,cond_false,eb,fu,cond_true,z,m,v71 c x.1 f.1 f.2,v70 c hp t x.1 f.1,v72 c hp t (by omega) x.2.1,v73 c hp t,v50 n x.2.2 (by omega),v62 c hp t x.2.2,o,b2,ape];unfold cE mE;cases h:(kX p t==0)with
     |false=>simp[cond_false];have:(kX p t !=0)=true:=by simp[bne,h]
             rw[this];simp[h]
     |true=>
      have hT:kX p t=0:=by simpa using h
      have A:s74 n p t x.1=_:=v74 c hp hT x.1 f.1 E;have M:s75 n p t x.2.1=_:=v75 c hp hT (aao hT) x.2.1;have B:K7 n p t=_:=v76 c hp (t:=t) (aao hT)
      have C:r8 p t x.2.2=0->clE p t x.1≠0:=λ i a=>by
       unfold clE at a;cases e:(b8 p [] x.1==0)with
       |false=>rw[e,cond_false]at a;rw[a]at e;cases e
       |true=>
        rw[e,cond_true]at a;cases d:nZ p t x.1 with
        |false=>rw[d]at a;cases a
        |true=>exact aoj d i
      have D:r8 p t x.2.2=0->x8 p t x.2.1≠0:=λ i a=>by
       unfold x8 at a;cases e:cy x.2.1 2 50 with
       |false=>rw[e]at a;cases a
       |true=>
        rw[e,cond_true]at a;cases d:cdB p t x.2.1 with
        |false=>rw[d]at a;cases a
        |true=>exact an5 hT e d i
      rw[hT];simp[bne_self_eq_false,cond_false,cond_true,A,M,B,jv,b2]
      generalize clE p t x.1=u at *;generalize x8 p t x.2.1=v at *;generalize r8 p t x.2.2=w at *
      by_cases l:u=0
      subst l;have g:w≠0:=λ e=>C e rfl;have:(w !=0)=true:=by simpa using g
      simp[this];have y:(u==0)=false:=by simpa using l
      have d:(u !=0)=true:=by simpa using l
      simp only[y,d,cond_false,bne_self_eq_false,gk,hF,eQ,eb,cond_true,Bool.true_and];by_cases g:w=0;have:(v !=0)=true:=by simpa using D g
      simp[this];have:(w !=0)=true:=by simpa using g
      simp[this]
end
end Go.Abs.R
namespace Go.Rs
open Go.ChangeShapes Go.Conc Go.Proofs
theorem acj:ownKnob Tryz.prog.godebug=none:=by kernel_rfl
theorem RY:laidOutB Tryz.prog=true:=by kernel_rfl
theorem Gv:TP.globals.size=3:=by kernel_rfl
theorem VJ(g)(h:g<3):(((begin TP (λ _ _=>0) default).world.heap[g]?).bind Obj.row?).isSome=true:=by match g,h with|0,_=>exact(by kernel_rfl:(((begin TP (λ _ _=>0) default).world.heap[0]?).bind Obj.row?).isSome=true)|1,_=>exact(by kernel_rfl:(((begin TP (λ _ _=>0) default).world.heap[1]?).bind Obj.row?).isSome=true)|2,_=>exact(by kernel_rfl:(((begin TP (λ _ _=>0) default).world.heap[2]?).bind Obj.row?).isSome=true)
theorem V2(w)(c:w.ShapedOpen TP):TP.globals.size<=w.heap.size/\vx w:=by
 have key:∀g,g<3->∃cs t,w.heap[g]?=some (.cells cs t):=λ g a=>by have⟨⟨z,t⟩,d⟩:=Option.isSome_iff_exists.1 (VJ g a);have⟨cs,b,_⟩:=c.1 g z t (by rw[Gv];exact a) d;exact⟨cs,t,b⟩
 refine⟨?_,λ g a=>?_⟩;have⟨cs,t,h⟩:=key 2 (by omega);have:=(Array.getElem?_eq_some_iff.1 h).1;rw[Gv];omega;have a:Nat.blt g TP.globals.size=true:=a;rw[Gv]at a;have⟨cs,t,h⟩:=key g (by simpa using a);exact S8 h
end Go.Rs
namespace Go
theorem Rs.ajf(d){p s c}(kinds)(e)(a)(b g) (l:c.holds p s) (w:c.wfByText s=true) (v:c.laidByTextAt d p kinds e) (u:c.start= .entering) (r:c.noBlocks=false/\c.again=false) (o:p.checked.prog.mainIs=some (a.1,a.2.toList)) (q:(!a.1&&a.2.isEmpty&&!b)=false) (n:∀f fn,p.checked.prog.funcNamed c.func=some f->p.checked.prog.funcs[f]?=some fn->b=p.checked.prog.looks []/\∀(j:Nat)t,fn.params[j]?=some t->p.checked.prog.wantsStandIn t=false) (m:g=c.goesBy p.checked.prog):Claim7.holds p (.plain s) {stood:={row:=c,standIns:= [],harness:=a,looks:=b},kinds:= [],alts:= [],goes:=g,laidByText:=true,laidKinds:=kinds,laidTests:=e,laidLooks:=d}:=by
 have i:hz {stood:={row:=c,standIns:= [],harness:=a,looks:=b},kinds:= []}=false:=by simpa[hz]using q
 have key:=Claim7.tied_new_at d kinds e (Claim7.new_of_sixth l a b u r o i n) w;refine⟨?_,(λ D k=>by cases k),v,(λ h=>by cases h),m⟩;exact key
end Go
