/- Part of a proof that the statement holds. No conditions. -/
import Derived.SevenTiedAt
import Derived.Test.YtbppbacfffndaaaGreatDoorD7
set_option linter.all false
set_option maxRecDepth 100000
open List renaming length->b2,mem_of_getElem?->dr,replicate->ef,range'->eg,flatMap_cons->ei,all_cons->ej,all_eq_true->eo,findIdx?_cons->ew,findIdx?_eq_some_iff_getElem->eH,append_assoc->eL,length_map->eV,findIdx?_eq_none_iff->fl,getElem?_eq_getElem->fu,mem_cons->fv,drop_eq_nil_of_le->fz,length_range'->fR,any_eq_true->gb,getElem_mem->gf,nil_append->gk,map_append->gl,mem_append->gu,take->ht
open Go.IntKind renaming wrap->cr
open Option renaming bind_some->df,map_some->eQ,getD->gw
open Bool renaming not_true->dk,not_false->ee,and_eq_true->en,or_self->ep,and_self->et,false_or->gE
open Go renaming maxLen->ea
open UInt8 renaming toNat->eb
open Go.Proofs.Tryz renaming f254->fb,f156->hq
open Int renaming toNat->fx
open Go.Claim7 renaming isSixth->gg
open Eq renaming trans->hg
open Nat renaming sub_self->hh
namespace Go.Abs.R
open Go.Abs Go.Proofs.Tryz
open Go.Abs.N(IY H2 zQ vk yf BY C5 En Gt tN Hv yp tR xA)
section
local instance:Dr:= ⟨false⟩
noncomputable section
abbrev o6(D A R:Type):=D->(D->Option R)->(A->Option R)×Unit->Option R
abbrev a8(D A B R:Type):=D->(D->Option R)->(A->Option R)×(B->Option R)×Unit->Option R
abbrev akP(D Y A R:Type):=D->Y->(D->Option R)->(A->Option R)×Unit->Option R
abbrev J3(T:Type):=Int×Int×Int×T
abbrev J5(T:Type):=Int×Int×Int×Int×Int×T
abbrev oH(T:Type):=Int×Int×Int×Int×Int×Int×Int×Int×Int×Int×Int×Int×T
abbrev Eo(E:aq):=al Rs.FM.Q E
variable(n:Nat)
abbrev Z0:Ty:=.ay .i64
abbrev Z1:=J5 Int
abbrev Z2:=Z1×J5 Int
abbrev Z3:Ty:=.aF Z0 Z0
abbrev Z4:Ty:=.aF Z0 Z3
abbrev Z5:Ty:=.aF Z0 Z4
abbrev Z6:Ty:=.aF Z0 Z5
abbrev Z7:Ty:=.aF Z0 Z6
abbrev Z8:Ty:=.aH Z0
abbrev Z9:=List Int
abbrev dy:Ty:=.aF Z7 Z7
abbrev gH:=Int×Int
abbrev BW:Ty:=.aF Z8 Z8
abbrev eB:Ty:=.aF .aJ Z0
abbrev fh:=List UInt8
abbrev dK:Ty:=.aH Z3
abbrev gv:Ty:=.aH eB
abbrev qG:Ty:=.aF gv dK
abbrev cN:=fh×Int
abbrev aZ:=List gH
abbrev bZ:=List cN
abbrev cn:=Z9×Z9
abbrev gS:Ty:=.aF BW BW
abbrev nk:Ty:=.aH dy
abbrev QG:=Int×Z2×Int×Int
abbrev Yl:=cn×Z9×Z9
abbrev uy:=List Z2
abbrev kj:=List cn
abbrev qZ:=bZ×aZ
abbrev EM:=qZ×Yl×Z1×J5 Int
abbrev qm:=List uy
abbrev uf:Ty:=.aH nk
abbrev EC:Ty:=.aF gS dy
abbrev um:Ty:=.aF qG EC
abbrev pR:Ty:=.aH BW
abbrev EF:=List kj
abbrev Lb:Ty:=.aH pR
abbrev JO:=Option EM
abbrev xh:Ty:=.ec um
abbrev qL:=Z2×QG
abbrev Z40:Ty:=.aF dy Z3
abbrev QQ:Ty:=.aF Z0 Z40
abbrev qE:Ty:=.cO dy .aO
abbrev Ah:=List qL
abbrev qJ:=Ah×qm
abbrev Cu:=Option qJ
abbrev tZ:Ty:=.cO dy QQ
abbrev AU:Ty:=.aF tZ uf
abbrev zp:=Z2×Bool
abbrev xR:=gH×Z2
abbrev LJ:=List zp
abbrev Bu:=Cu×Bool
abbrev Fp:=List xR
abbrev Jz:=List fh
abbrev Iq:=cn×Int×Int
abbrev Fc:=Cu×Z2×Int
abbrev Z56:=Z2×Int×Int
abbrev x8:=List fh
abbrev Z58:=Int×Int×Int
abbrev Z59:Ty:=.dX Z3 dy
abbrev x6:Ty:=.ec AU
abbrev Z61:Ty:=.dP dy .aO
abbrev Z62:Ty:=.aF dK Lb
abbrev Z63:=Yl×Int
abbrev Z64:=Z2×Int×Z2×Int×Int
abbrev Z65:=aZ×Int
abbrev Z66:Ty:=.dP eB .aO
abbrev Z67:Ty:=.aF dy QQ
abbrev Z68:Ty:=.aH .aJ
abbrev X0(k:Nat):Nat×mS:=(k,.cp qG [.aj gv,.aj dK])
abbrev X1(k:Nat):Nat×mS:=(k,.cp .aO [.aj .aO])
abbrev X2(k:Nat):Nat×mS:=(k,.cp BW [.aj Z8,.aj Z8])
abbrev X3(k:Nat):Nat×mS:=(k,.cp dy (ef 12 (.aj Z0)))
abbrev X4(k:Nat):Nat×mS:=(k,.cp gS [.aj Z8,.aj Z8,.aj Z8,.aj Z8])
abbrev X5(k:Nat):Nat×mS:=(k,.cp qE [.iR 93])
abbrev X6(k:Nat):Nat×mS:=(k,.cp .aJ [.aj .aJ])
abbrev X7(k:Nat):Nat×mS:=(k,.cp gS [.j6,.j6,.j6,.j6])
abbrev Xb(k a:Nat):Nat×ki:=(k,.v (.cu a 0))
abbrev Xp(k:Nat)(t:Ty):Nat×ki:=(k,.v (.pp t))
def OZ(n:Nat)(b:eU)(a:List bS)(num:Int):Option (List bA):=Rs.CG b a num
def MS:fc:= ⟨wM,[],[.aH bq],λ x _=>OZ n x.1 x.2.1 x.2.2,true⟩
theorem aaP:jf Rs.FM.Q 147 (MS n):=Rs.Ww
def KJ(n:Nat)(s:fh):Option gH:=none
def M6:fc:= ⟨[.aJ],[],[.ay .i32,.ay .i64],λ x y=>KJ n x,false⟩
theorem aeb(n:Nat):jf Rs.FM.Q 157 (M6 n):=by
 refine⟨⟨_,Rs.iC func157 (by kernel_rfl) (by decide),by kernel_rfl,by kernel_rfl⟩,?_⟩;intro w ok vs cs x y r b c a;cases a
def gT:List (Nat×eZ):= [(3,⟨Z0,0,false⟩),(4,⟨.aO,0,false⟩),(5,⟨(.ay .u8),0,false⟩),(9,⟨.aJ,0,false⟩),(21,⟨(.ay .i32),0,false⟩),(22,⟨gv,0,false⟩),(23,⟨dK,0,false⟩),(25,⟨qG,2,false⟩),(26,⟨Z8,0,false⟩),(28,⟨BW,2,false⟩),(30,⟨gS,3,false⟩),(35,⟨Z0,0,false⟩),(46,⟨(.aH Z4),0,false⟩),(56,⟨Z3,2,false⟩),(59,⟨dK,0,false⟩),(98,⟨Lb,0,false⟩),(100,⟨Z62,2,false⟩),(112,⟨pR,0,false⟩),(134,⟨Z4,3,false⟩),(136,⟨eB,2,false⟩),(138,⟨qG,1,false⟩),(143,⟨xh,1,false⟩),(147,⟨Z7,6,true⟩),(149,⟨dy,2,false⟩),(151,⟨um,3,false⟩),(152,⟨Z61,0,false⟩),(163,⟨Z59,0,false⟩),(168,⟨Z3,2,true⟩),(173,⟨x6,1,false⟩),(177,⟨QQ,3,false⟩),(178,⟨tZ,0,false⟩),(179,⟨uf,0,false⟩),(181,⟨AU,2,false⟩),(182,⟨Z68,0,false⟩),(190,⟨uf,0,false⟩),(191,⟨nk,0,false⟩),(199,⟨qE,0,false⟩),(205,⟨Z8,0,false⟩),(207,⟨(.aH (.ay .u8)),0,false⟩),(209,⟨Z66,0,false⟩),(228,⟨(.aH Z67),0,false⟩),(231,⟨Z67,2,false⟩)]
def gQ:List (Nat×Ty):= [(56,Z3),(149,dy),(168,Z3)]
theorem q56:zP Rs.FM.Q 56 Z3:=JF (d:=40) (by decide) (by kernel_rfl) rfl (by kernel_rfl)
theorem anf:zP Rs.FM.Q 149 dy:=JF (d:=40) (by decide) (by kernel_rfl) rfl (by kernel_rfl)
theorem XI:zP Rs.FM.Q 168 Z3:=JF (d:=40) (by decide) (by kernel_rfl) rfl (by kernel_rfl)
theorem amQ{P:Program}{E:aq}(h:al P E){G Q}(g:al P ⟨G,[],Q,[],[]      ⟩):al P ⟨G,E.C,Q,E.I,[]      ⟩:={g with h:=h.h,j:=h.j}
def e0(n:Nat):aq:= ⟨gT,(N.qH n).C,gQ,(N.qH n).I,[]      ⟩
theorem h0:Eo (e0 n):=amQ (N.xm Rs.FM n) (GI (GI (GI (IN (by kernel_rfl)) XI) anf) q56)
def zC(n:Nat):Option qZ:=some (([([97],8),([98],5),([99],3)]:List cN),([(0,1),(0,2),(1,0),(1,2),(2,0),(2,1)]:List gH))
def e1:=(e0 n).a 84 ⟨[],[],[qG],λ x y=>zC n,false⟩
theorem h1:Eo (e1 n):=dw Rs.FM (h0 n) func84
def DU(n:Nat):Option cn:=some (([8,0,0]:List Int),([1,0,0]:List Int))
def e2:=(e1 n).a 85 ⟨[],[],[BW],λ x y=>DU n,false⟩
theorem h2:Eo (e2 n):=dw Rs.FM (h1 n) func85
def yM(n:Nat):a8 (fh×Z9×Int×Int×Unit) (fh×Unit) (Bool×Unit) Bool:=λ(s,b,c,a,_) again (k0,k1,_)=>bif decide (a<c)then(aG b a).bind λ e=>bif (!(((decide (e>=97))&& (decide (e<=122)))|| ((decide (e>=65))&& (decide (e<=90)))))&& ((a==0)|| ((e !=45)&& ((decide (e<48))|| (decide (e>57)))))then k1 (false,())else again (s,b,c,(cr .i64 (a+1)),())else k0 (s,())
def B9(s:fh):Option Bool:=cq (yM n) n (s,(kv s),((b2 (kv s):Nat):Int),0,()) (λ(a,_)=>some ((a != [])&& (decide ((b2 a:Int)<=12))),λ(b,_)=>some b,())
def e5:=(e2 n).a 106 ⟨[.aJ],[],[.aO],λ x y=>B9 n x,false⟩
theorem h5:Eo (e5 n):=gD Rs.FM (h2 n) func106 (O:= [_]) ⟨gh n (h2 n) (eN 54 [aT 0 .aJ,aT 7 (.aH (.ay .u8)),aT 8 Z0,aT 9 Z0] []) [fq 0 54 [aT 0 .aJ] [],fw 54 [aT 2 .aO] []] (yM n),trivial⟩
def Jr(n:Nat)(v:fh×Int)(a:fh):Option Bool:=some (v.1==a)
def e6:=(e5 n).a 137 ⟨[eB],[.aJ],[.aO],λ x y=>Jr n x y,false⟩
theorem h6:Eo (e6 n):=dw Rs.FM (h5 n) func137
def xO(n:Nat):a8 (bZ×(cN->Option Bool)×Int×Int×Unit) Unit (Int×Unit) Int:=λ(s,f,b,a,_) again (k0,k1,_)=>bif decide (a<b)then(aG s a).bind λ e=>(f e).bind λ x=>bif x then k1 (a,())else again (s,f,b,(cr .i64 (a+1)),())else k0 ()
def IH(s:List cN)(f:cN->Option Bool):Option Int:=cq (xO n) n (s,f,(b2 s:Int),0,()) (λ(_)=>some (-1),λ(a,_)=>some a,())
def e7:=(e6 n).a 136 ⟨[gv,Z66],[],[Z0],λ x y=>IH n x.1 x.2,false⟩
theorem h7:Eo (e7 n):=gD Rs.FM (h6 n) func136 (O:= [_]) ⟨gh n (h6 n) (eN 19 [aT 0 gv,aT 1 Z66,aT 7 Z0,aT 8 Z0] []) [fq 0 19 [] [],fw 19 [aT 4 Z0] []] (xO n),trivial⟩
def vV(l:List cN)(name:fh):Option Int:=(IH n l (λ a=>Jr n a name)).bind λ x=>some x
def e8:=(e7 n).a 107 ⟨[gv,.aJ],[],[Z0],λ x y=>vV n x.1 x.2,false⟩
theorem h8:Eo (e8 n):=dw Rs.FM (h7 n) func107
def EJ(a:Int):Option Bool:=(H2 n a 1 50).bind λ x=>some x
def Lr:=(e8 n).a 101 ⟨[Z0],[],[.aO],λ x y=>EJ n x,false⟩
theorem h10:Eo (Lr n):=dw Rs.FM (h8 n) func101
def vO(b:Int)(a:bZ×aZ):Option Bool:=(H2 n b 0 (cr .i64 ((b2 a.1:Int)- 1))).bind λ x=>some x
def OO:=(Lr n).a 108 ⟨[Z0],[qG],[.aO],λ x y=>vO n x y,false⟩
theorem Sp:Eo (OO n):=dw Rs.FM (h10 n) func108
def Au:a8 (bZ×Int×Int×bZ×aZ×Unit) (bZ×aZ×Unit) (Int×Int×Unit) gH:=λ(c,d,a,p,b,_) again (k0,k1,_)=>bif decide (a<d)then(aG c a).bind λ e=>(B9 n e.1).bind λ x=>(vk n x 4).bind λ g=>(iB p 0 a).bind λ h=>(vV n h e.1).bind λ i=>(vk n (decide (i<0)) 5).bind λ j=>(EJ n e.2).bind λ k=>(vk n k 2).bind λ l=>(C5 n ([g,j,l]:List Int)).bind λ f=>bif f !=0 then k1 (a,f,())else again (c,d,(cr .i64 (a+1)),p,b,())else k0 (p,b,())
def Ag:a8 (qZ×(Int->Option Bool)×aZ×Int×Int×Unit) Unit (Int×Int×Unit) gH:=λ(p,c,d,f,a,_) again (k0,k1,_)=>bif decide (a<f)then(aG d a).bind λ e=>(cQ 0 2).bind λ u=>(aG [e.1,e.2] 0).bind λ x=>(c x).bind λ b=>(bI b (cQ 1 2) ()).bind λ s=>(bI b (aG [e.1,e.2] 1) 0).bind λ i=>(bI b (c i) false).bind λ j=>(vk n (b&&j) 6).bind λ k=>(cQ 0 2).bind λ t=>(aG [e.1,e.2] 0).bind λ l=>(cQ 1 2).bind λ v=>(aG [e.1,e.2] 1).bind λ m=>(vk n (l !=m) 11).bind λ o=>(iB p.2 0 a).bind λ q=>(BY n q e).bind λ r=>(vk n (!r) 26).bind λ h=>(C5 n ([k,o,h]:List Int)).bind λ g=>bif g !=0 then k1 (a,g,())else again (p,c,d,f,(cr .i64 (a+1)),())else k0 ()
def xg(p:bZ×aZ):Option gH:=(vk n (decide ((b2 p.1:Int)>0)) 10).bind λ x=>(vk n (decide ((b2 p.1:Int)<=6)) 8).bind λ h=>(C5 n ([x,h]:List Int)).bind λ c=>bif c !=0 then some (0,c)else cq (Au n) n (p.1,(b2 p.1:Int),0,p.1,p.2,()) (λ(b,a,_)=>bif decide ((b2 a:Int)>30)then some (0,8)else cq (Ag n) n ((b,a),(λ i=>vO n i (b,a)),a,(b2 a:Int),0,()) (λ(_)=>some (0,0),λ(d,f,_)=>some (d,f),()),λ(e,g,_)=>some (e,g),())
def QX:=(OO n).a 43 ⟨[qG],[],[Z0,Z0],λ x y=>xg n x,false⟩
theorem h14:Eo (QX n):=gD Rs.FM (Sp n) func43 (O:= [_,_]) ⟨gh n (Sp n) (eN 104 [Xb 1 104,aT 28 gv,aT 29 Z0,aT 30 Z0] [X0 104]) [fq 0 104 [Xb 1 104] [X0 104],fw 104 [aT 2 Z0,aT 3 Z0] []] (Au n),gh n (Sp n) (eN 104 [Xp 1 qG,aT 8 (.dP Z0 .aO),aT 65 dK,aT 66 Z0,aT 67 Z0] []) [fq 2 104 [] [],fw 104 [aT 2 Z0,aT 3 Z0] []] (Ag n),trivial⟩
def tx(p:bZ×aZ):Option (qZ×Int):=(xg n p).bind λ x=>some (p,x.2)
def Rf:=(QX n).a 87 ⟨[qG],[],[qG,Z0],λ x y=>tx n x,false⟩
theorem Vw:Eo (Rf n):=dw Rs.FM (h14 n) func87
def Dy(a:Int):Option Bool:=(H2 n a 0 3).bind λ x=>some x
def NZ:=(Rf n).a 132 ⟨[Z0],[],[.aO],λ x y=>Dy n x,false⟩
theorem NP:Eo (NZ n):=dw Rs.FM (Vw n) func132
def Co:a8 (bZ×Int×Int×Z9×Z9×Unit) Unit (Int×Unit) Int:=λ(f,g,a,s,d,_) again (k0,k1,_)=>bif decide (a<g)then(aG f a).bind λ e=>(aG s a).bind λ b=>(aG d a).bind λ c=>(H2 n b 0 e.2).bind λ x=>(bI x (Dy n c) false).bind λ i=>(vk n (x&&i) 2).bind λ j=>(vk n ((b==0)==(c==0)) 13).bind λ k=>(C5 n ([j,k]:List Int)).bind λ h=>bif h !=0 then k1 (h,())else again (f,g,(cr .i64 (a+1)),s,d,())else k0 ()
def px(p:bZ×aZ)(s:Z9×Z9):Option Int:=(IY n p).bind λ x=>(bI (!((b2 s.1:Int) !=x)) (IY n p) 0).bind λ b=>bif ((b2 s.1:Int) !=x)|| ((b2 s.2:Int) !=b)then some 10 else cq (Co n) n (p.1,(b2 p.1:Int),0,s.1,s.2,()) (λ(_)=>some 0,λ(a,_)=>some a,())
def JC:=(NZ n).a 91 ⟨[qG,BW],[],[Z0],λ x y=>px n x.1 x.2,false⟩
theorem NC:Eo (JC n):=gD Rs.FM (NP n) func91 (O:= [_]) ⟨gh n (NP n) (eN 64 [Xb 3 64,aT 26 gv,aT 27 Z0,aT 28 Z0] [X2 64]) [fq 0 64 [] [],fw 64 [aT 4 Z0] []] (Co n),trivial⟩
def tj(n:Nat)(s:Z9×Z9):Option Z2:=(kZ 6 6).bind λ u=>(kZ 6 6).bind λ a=>some (((bif decide (0<6)then(s.1[0]?).getD 0 else 0),(bif decide (1<6)then(s.1[1]?).getD 0 else 0),(bif decide (2<6)then(s.1[2]?).getD 0 else 0),(bif decide (3<6)then(s.1[3]?).getD 0 else 0),(bif decide (4<6)then(s.1[4]?).getD 0 else 0),(bif decide (5<6)then(s.1[5]?).getD 0 else 0)),(bif decide (0<6)then(s.2[0]?).getD 0 else 0),(bif decide (1<6)then(s.2[1]?).getD 0 else 0),(bif decide (2<6)then(s.2[2]?).getD 0 else 0),(bif decide (3<6)then(s.2[3]?).getD 0 else 0),(bif decide (4<6)then(s.2[4]?).getD 0 else 0),(bif decide (5<6)then(s.2[5]?).getD 0 else 0))
def Oo:aq:=(JC n).n [5,10]
theorem agq:al Rs.FM.Q (Oo n):=IV (NC n) _
def HC:fc:= ⟨[BW],[],[dy],λ x y=>tj n x,false⟩
theorem aax(x:ax [BW])(y:ax []):oI (Oo n) f93 [BW] [] [dy] false [] x y=(HC n).g x y:=by kernel_rfl
theorem XG:jf Rs.FM.Q 93 (HC n):=xz (agq n) Rs.FM.b (Rs.FM.a func93 (by kernel_rfl) (by decide)) (by kernel_rfl) (by kernel_rfl) (O:= []) trivial (aax n)
def KA:=(JC n).a 93 (HC n)
theorem h19:Eo (KA n):=mN (NC n) (XG n)
def Ij(p:bZ×aZ)(s:Z9×Z9):Option (qZ×Z2×Int):=(tx n p).bind λ x=>bif x.2==0 then(px n x.1 s).bind λ a=>bif a !=0 then some (x.1,((0,0,0,0,0,0),0,0,0,0,0,0),a)else(tj n s).bind λ b=>some (x.1,b,0)else bif x.2 !=0 then some (x.1,((0,0,0,0,0,0),0,0,0,0,0,0),x.2)else(tj n s).bind λ c=>some (x.1,c,0)
def OA:=(KA n).a 95 ⟨[qG,BW],[],[qG,dy,Z0],λ x y=>Ij n x.1 x.2,false⟩
theorem VP:Eo (OA n):=dw Rs.FM (h19 n) func95
def IF:=(OA n).a 133 (PJ n)
theorem PM:Eo (IF n):=mN (VP n) (ac3 n)
def yw(a:Z1×J5 Int)(b:Int):Option cn:=(kZ b 6).bind λ u=>(Gu n (ht (fx b) [a.1.1,a.1.2.1,a.1.2.2.1,a.1.2.2.2.1,a.1.2.2.2.2.1,a.1.2.2.2.2.2])).bind λ x=>(kZ b 6).bind λ d=>(Gu n (ht (fx b) [a.2.1,a.2.2.1,a.2.2.2.1,a.2.2.2.2.1,a.2.2.2.2.2.1,a.2.2.2.2.2.2])).bind λ c=>some (x,c)
def R2:aq:=(IF n).n [1000002]
theorem aiK:al Rs.FM.Q (R2 n):=IV (PM n) _
def JH:fc:= ⟨[dy,Z0],[],[BW],λ x y=>yw n x.1 x.2,false⟩
theorem YX(x:ax [dy,Z0])(y:ax []):oI (R2 n) f102 [dy,Z0] [] [BW] false [] x y=(JH n).g x y:=by kernel_rfl
theorem aiN:jf Rs.FM.Q 102 (JH n):=xz (aiK n) Rs.FM.b (Rs.FM.a func102 (by kernel_rfl) (by decide)) (by kernel_rfl) (by kernel_rfl) (O:= []) trivial (YX n)
def Mp:=(IF n).a 102 (JH n)
theorem h24:Eo (Mp n):=mN (PM n) (aiN n)
def Na(p:bZ×aZ)(s:Z9×Z9)(m:Int×Int):Option (cn×Int):=(Ij n p s).bind λ x=>bif x.2.2==0 then(En n x.1 x.2.1 m).bind λ a=>bif a.2 !=0 then some ((([]:List Int),([]:List Int)),a.2)else(IY n x.1).bind λ b=>(yw n a.1 b).bind λ c=>some (c,0)else bif x.2.2 !=0 then some ((([]:List Int),([]:List Int)),x.2.2)else(IY n x.1).bind λ d=>(yw n x.2.1 d).bind λ e=>some (e,0)
def Lh:=(Mp n).a 35 ⟨[qG,BW,Z3],[],[BW,Z0],λ x y=>Na n x.1 x.2.1 x.2.2,false⟩
theorem h25:Eo (Lh n):=dw Rs.FM (h24 n) func35
def LQ:Option Yl:=(DU n).bind λ x=>some (x,([4,4,0]:List Int),([0,0,0]:List Int))
def MH:=(Lh n).a 86 ⟨[],[],[gS],λ x y=>LQ n,false⟩
theorem Mw:Eo (MH n):=dw Rs.FM (h25 n) func86
def Em:a8 (bZ×Int×Int×Z9×Z9×Z9×Z9×Unit) Unit (Int×Unit) Int:=λ(d,f,b,t,j,g,h,_) again (k0,k1,_)=>bif decide (b<f)then(aG d b).bind λ e=>(aG g b).bind λ a=>(aG h b).bind λ c=>(bI (!(a==(-1))) (H2 n a 0 e.2) false).bind λ x=>(bI ((a==(-1))||x) (Dy n c) false).bind λ k=>(vk n (((a==(-1))||x)&&k) 2).bind λ l=>(vk n ((c==0)|| (a !=0)) 13).bind λ m=>(C5 n ([l,m]:List Int)).bind λ i=>bif i !=0 then k1 (i,())else again (d,f,(cr .i64 (b+1)),t,j,g,h,())else k0 ()
def v7(p:bZ×aZ)(t:cn×Z9×Z9):Option Int:=(px n p t.1).bind λ x=>(IY n p).bind λ a=>(bI ((b2 t.2.1:Int)==a) (IY n p) 0).bind λ d=>(vk n (((b2 t.2.1:Int)==a)&& ((b2 t.2.2:Int)==d)) 10).bind λ e=>(C5 n ([x,e]:List Int)).bind λ b=>bif b !=0 then some b else cq (Em n) n (p.1,(b2 p.1:Int),0,t.1.1,t.1.2,t.2.1,t.2.2,()) (λ(_)=>some 0,λ(c,_)=>some c,())
def QI:=(MH n).a 88 ⟨[qG,gS],[],[Z0],λ x y=>v7 n x.1 x.2,false⟩
theorem UR:Eo (QI n):=gD Rs.FM (Mw n) func88 (O:= [_]) ⟨gh n (Mw n) (eN 80 [Xb 3 80,aT 37 gv,aT 38 Z0,aT 39 Z0] [X4 80]) [fq 0 80 [] [],fw 80 [aT 4 Z0] []] (Em n),trivial⟩
def ux(p:bZ×aZ)(t:cn×Z9×Z9):Option Int:=(tx n p).bind λ x=>bif x.2 !=0 then some x.2 else(v7 n x.1 t).bind λ a=>some a
def Rq:=(QI n).a 21 ⟨[qG,gS],[],[Z0],λ x y=>ux n x.1 x.2,false⟩
theorem Uo:Eo (Rq n):=dw Rs.FM (UR n) func21
def vm(p:bZ×aZ)(t:cn×Z9×Z9):Option (JO×Int):=(ux n p t).bind λ x=>bif x !=0 then some ((none:Option EM),x)else(tj n t.1).bind λ a=>some ((some (p,t,a)),0)
def LP:=(Rq n).a 90 ⟨[qG,gS],[],[xh,Z0],λ x y=>vm n x.1 x.2,false⟩
theorem h29:Eo (LP n):=dw Rs.FM (Uo n) func90
def Q9:=(LP n).a 147 (MS n)
theorem FF:Eo (Q9 n):=mN (h29 n) (aaP n)
def Te(n:Nat):a8 (Int×Int×bZ×aZ×Ah×qm×uy×(List Z64)×Unit) (bZ×aZ×Ah×qm×uy×Unit) (Cu×Bool×Unit) Bu:=λ(g,a,p,d,r,f,b,c,_) again (k0,k1,_)=>bif decide (a<g)then(aG c a).bind λ e=>(aG c a).bind λ x=>bif Option.isSome (j4 (Ty.f dy) r x.1)then again (g,(cr .i64 (a+1)),p,d,r,f,b,c,())else bif decide (((b2 (lz (Ty.f dy) r x.1 x.2):Nat):Int)>4000)then k1 ((none:Option qJ),false,())else(jk (b2 b+b2 ([x.1]:List Z2))).bind λ u=>again (g,(cr .i64 (a+1)),p,d,(lz (Ty.f dy) r x.1 x.2),f,(b++ ([x.1]:List Z2)),c,())else k0 (p,d,r,f,b,())
def Ta:a8 (uy×bZ×aZ×Ah×qm×Unit) (Ah×qm×Unit) (Cu×Bool×Unit) Bu:=λ(last,p,d,r,b,_) again (k0,k1,_)=>bif decide ((b2 last:Int)>0)then(OZ n (p,d) last (b2 b:Int)).bind λ x=>cq (Te n) n ((b2 x:Int),0,p,d,r,b,([]:List Z2),x,()) (λ(e,f,g,c,a,_)=>bif decide ((b2 a:Int)>0)then(jk (b2 c+b2 ([a]:List uy))).bind λ j=>again (a,e,f,g,(c++ ([a]:List uy)),())else again (a,e,f,g,c,()),λ(h,i,_)=>k1 (h,i,()),())else k0 (r,b,())
def Qs(p:bZ×aZ)(start:Z1×J5 Int):Option Bu:=(aG ([([start]:List Z2)]:List uy) 0).bind λ e=>(aG ([([start]:List Z2)]:List uy) 0).bind λ x=>cq (Ta n) n (x,p.1,p.2,(lz (Ty.f dy) ([]:List qL) start (0,((0,0,0,0,0,0),0,0,0,0,0,0),0,0)),([([start]:List Z2)]:List uy),()) (λ(a,b,_)=>some ((some (a,b)),true),λ(c,d,_)=>some (c,d),())
def Kp:=(Q9 n).a 124 ⟨[qG,dy],[],[x6,.aO],λ x y=>Qs n x.1 x.2,false⟩
theorem Lq:Eo (Kp n):=gD Rs.FM (FF n) func124 (O:= [_]) ⟨B8 n (FF n) (eN 90 [Xb 2 90,Xb 6 91,aT 7 nk] [X0 90,(91,.cp AU [.iR 92,.iR 93]),(92,.tU dy QQ),(93,.jH nk)]) [fq 0 90 [Xb 6 90] [(90,.cp AU [.iR 91,.iR 92]),(91,.tU dy QQ),(92,.jH nk)],fw 90 [aT 4 x6,aT 5 .aO] []] (Ta n) (O:= [_]) ⟨gh n (FF n) (eN 90 [Xb 2 90,Xb 6 91,(8,.v (.iR 94)),(38,.v (.iR 95)),aT 39 Z0,aT 40 Z0] [X0 90,(91,.cp AU [.iR 92,.iR 93]),(92,.tU dy QQ),(93,.jH nk),(94,.jH dy),(95,.jH Z67)]) [fq 2 90 [Xb 2 90,Xb 6 91,(8,.v (.iR 94))] [X0 90,(91,.cp AU [.iR 92,.iR 93]),(92,.tU dy QQ),(93,.jH nk),(94,.jH dy)],fw 90 [aT 4 x6,aT 5 .aO] []] (Te n),trivial⟩,trivial⟩
def B4(n:Nat):a8 (JO×oH (Int×Int×Unit)) Unit (Bool×Unit) Bool:=λ(t,f,a,g,h,k,l,m,o,p,q,r,s,i,j,_) again (k0,k1,_)=>bif decide (a<f)then t.bind λ x=>(aG x.2.1.2.1 a).bind λ e=>(bI (e !=(-1)) t (([],[]),(([],[]),[],[]),(0,0,0,0,0,0),0,0,0,0,0,0)).bind λ w=>(bI (e !=(-1)) (aG w.2.1.2.1 a) 0).bind λ b=>(bI (e !=(-1)) (cQ a 6) ()).bind λ u=>(bI (e !=(-1)) (aG [g,h,k,l,m,o] a) 0).bind λ c=>(bI (!((e !=(-1))&& (b !=c))) t (([],[]),(([],[]),[],[]),(0,0,0,0,0,0),0,0,0,0,0,0)).bind λ y=>(bI (!((e !=(-1))&& (b !=c))) (aG y.2.1.2.2 a) 0).bind λ d=>(bI ((!((e !=(-1))&& (b !=c)))&& (d !=0)) t (([],[]),(([],[]),[],[]),(0,0,0,0,0,0),0,0,0,0,0,0)).bind λ z=>(bI ((!((e !=(-1))&& (b !=c)))&& (d !=0)) (aG z.2.1.2.2 a) 0).bind λ v=>(bI ((!((e !=(-1))&& (b !=c)))&& (d !=0)) (cQ a 6) ()).bind λ B=>(bI ((!((e !=(-1))&& (b !=c)))&& (d !=0)) (aG [p,q,r,s,i,j] a) 0).bind λ A=>bif ((e !=(-1))&& (b !=c))|| ((d !=0)&& (v !=A))then k1 (false,())else again (t,f,(cr .i64 (a+1)),g,h,k,l,m,o,p,q,r,s,i,j,())else k0 ()
def ud(t:Option EM)(a:Z1×J5 Int):Option Bool:=t.bind λ x=>cq (B4 n) n (t,(b2 x.1.1:Int),0,a.1.1,a.1.2.1,a.1.2.2.1,a.1.2.2.2.1,a.1.2.2.2.2.1,a.1.2.2.2.2.2,a.2.1,a.2.2.1,a.2.2.2.1,a.2.2.2.2.1,a.2.2.2.2.2.1,a.2.2.2.2.2.2,()) (λ(_)=>some true,λ(b,_)=>some b,())
def SO:=(Kp n).a 92 ⟨[xh,dy],[],[.aO],λ x y=>ud n x.1 x.2,false⟩
theorem L0:Eo (SO n):=gD Rs.FM (Lq n) func92 (O:= [_]) ⟨gh n (Lq n) (eN 67 [aT 0 xh,Xb 3 67,aT 12 Z0,aT 13 Z0] [X3 67]) [fq 0 67 [] [],fw 67 [aT 4 .aO] []] (B4 n),trivial⟩
def N8(n:Nat):a8 (uy×(Z2->Option Bool)×Int×Int×Unit) Unit (Int×Unit) Int:=λ(s,f,b,a,_) again (k0,k1,_)=>bif decide (a<b)then(aG s a).bind λ e=>(f e).bind λ x=>bif x then k1 (a,())else again (s,f,b,(cr .i64 (a+1)),())else k0 ()
def Pg(s:List Z2)(f:Z2->Option Bool):Option Int:=cq (N8 n) n (s,f,(b2 s:Int),0,()) (λ(_)=>some (-1),λ(a,_)=>some a,())
def Ti:=(SO n).a 141 ⟨[nk,Z61],[],[Z0],λ x y=>Pg n x.1 x.2,false⟩
theorem M7:Eo (Ti n):=gD Rs.FM (L0 n) func141 (O:= [_]) ⟨gh n (L0 n) (eN 19 [aT 0 nk,aT 1 Z61,aT 7 Z0,aT 8 Z0] []) [fq 0 19 [] [],fw 19 [aT 4 Z0] []] (N8 n),trivial⟩
def T6:a8 (JO×Cu×qm×oH (Int×Int×Unit)) (oH Unit) (Cu×oH (Int×Unit)) Fc:=λ(t,r,c,d,b,f,g,j,k,l,m,o,p,q,s,h,i,_) again (k0,k1,_)=>bif decide (b<d)then(aG c b).bind λ e=>(Pg n e (λ u=>ud n t u)).bind λ x=>bif decide (x>=0)then(aG e x).bind λ a=>k1 (r,0,a.1.1,a.1.2.1,a.1.2.2.1,a.1.2.2.2.1,a.1.2.2.2.2.1,a.1.2.2.2.2.2,a.2.1,a.2.2.1,a.2.2.2.1,a.2.2.2.2.1,a.2.2.2.2.2.1,a.2.2.2.2.2.2,())else again (t,r,c,d,(cr .i64 (b+1)),f,g,j,k,l,m,o,p,q,s,h,i,())else k0 (f,g,j,k,l,m,o,p,q,s,h,i,())
def Qu(t:Option EM):Option Fc:=t.bind λ x=>t.bind λ r=>(Qs n x.1 r.2.2).bind λ a=>bif !a.2 then some ((none:Option qJ),((0,0,0,0,0,0),0,0,0,0,0,0),8)else a.1.bind λ b=>cq (T6 n) n (t,a.1,b.2,(b2 b.2:Int),0,0,0,0,0,0,0,0,0,0,0,0,0,()) (λ(s,u,v,w,y,z,A,B,C,D,E,F,_)=>some ((none:Option qJ),((0,0,0,0,0,0),0,0,0,0,0,0),12),λ(c,q,d,e,f,g,h,i,j,k,l,m,o,p,_)=>some (c,((d,e,f,g,h,i),j,k,l,m,o,p),q),())
def Nq:=(Ti n).a 113 ⟨[xh],[],[x6,dy,Z0],λ x y=>Qu n x,false⟩
theorem h34:Eo (Nq n):=gD Rs.FM (M7 n) func113 (O:= [_]) ⟨gh n (M7 n) (eN 47 [aT 0 xh,Xb 3 47,aT 5 x6,aT 28 uf,aT 29 Z0,aT 30 Z0] [X3 47]) [fq 0 47 [Xb 3 47] [X3 47],fw 47 [aT 2 x6,Xb 3 47,aT 4 Z0] [X3 47]] (T6 n),trivial⟩
def OD(p:bZ×aZ)(t:cn×Z9×Z9):Option gH:=(vm n p t).bind λ x=>bif x.2 !=0 then some (0,x.2)else(Qu n x.1).bind λ a=>bif a.2.2 !=0 then some (0,a.2.2)else a.1.bind λ b=>some ((gw (j4 (Ty.f dy) b.1 a.2.1) (0,((0,0,0,0,0,0),0,0,0,0,0,0),0,0)).1,0)
def Nb:=(Nq n).a 56 ⟨[qG,gS],[],[Z0,Z0],λ x y=>OD n x.1 x.2,false⟩
theorem Zs:Eo (Nb n):=dw Rs.FM (h34 n) func56
def Tt(b:Int)(a:bZ×aZ):Option Bool:=(IY n a).bind λ x=>(H2 n b 0 (cr .i64 (x- 1))).bind λ c=>some c
def Ri:=(Nb n).a 98 ⟨[Z0],[qG],[.aO],λ x y=>Tt n x y,false⟩
theorem Kj:Eo (Ri n):=dw Rs.FM (Zs n) func98
def Lg:a8 (qZ×(Int->Option Bool)×(List Z58)×Int×Int×bZ×aZ×Z9×Z9×oH Unit) (qZ×Z9×Z9×oH Unit) (Int×Unit) Z63:=λ(A,t,y,z,v,p,C,s,w,d,f,g,h,i,j,m,o,q,r,k,l,_) again (k0,k1,_)=>bif decide (v<z)then(aG y v).bind λ e=>(t e.1).bind λ x=>(bI x (t e.2.1) false).bind λ G=>(vk n (x&&G) 6).bind λ M=>(vk n (e.1 !=e.2.1) 11).bind λ N=>(EJ n e.2.2).bind λ O=>(vk n O 2).bind λ P=>(C5 n ([M,N,P]:List Int)).bind λ E=>bif E !=0 then k1 (E,())else(cQ e.1 6).bind λ u=>(aG [m,o,q,r,k,l] e.1).bind λ c=>(cQ e.1 6).bind λ S=>(aG [d,f,g,h,i,j] e.1).bind λ Q=>(vk n (decide (Q>=e.2.2)) 12).bind λ R=>(cQ e.2.1 6).bind λ V=>(aG [d,f,g,h,i,j] e.2.1).bind λ H=>(aG p e.2.1).bind λ F=>(vk n (decide ((cr .i64 (H+e.2.2))<=F.2)) 16).bind λ I=>(cQ e.2.1 6).bind λ W=>(aG [m,o,q,r,k,l] e.2.1).bind λ B=>(bI (!(B==0)) (cQ e.2.1 6) ()).bind λ X=>(bI (!(B==0)) (aG [m,o,q,r,k,l] e.2.1) 0).bind λ J=>(vk n ((B==0)|| (J==c)) 13).bind λ K=>(C5 n ([R,I,K]:List Int)).bind λ D=>bif D !=0 then k1 (D,())else(cQ e.1 6).bind λ Y=>(aG [d,f,g,h,i,j] e.1).bind λ a=>(cQ e.1 6).bind λ Z=>(cQ e.2.1 6).bind λ aa=>(aG [(bif decide (e.1=0)then(cr .i64 (a- e.2.2))else d),(bif decide (e.1=1)then(cr .i64 (a- e.2.2))else f),(bif decide (e.1=2)then(cr .i64 (a- e.2.2))else g),(bif decide (e.1=3)then(cr .i64 (a- e.2.2))else h),(bif decide (e.1=4)then(cr .i64 (a- e.2.2))else i),(bif decide (e.1=5)then(cr .i64 (a- e.2.2))else j)] e.2.1).bind λ b=>(cQ e.2.1 6).bind λ ab=>(cQ e.2.1 6).bind λ ac=>(cQ e.1 6).bind λ T=>(aG [(bif decide (e.2.1=0)then(cr .i64 (b+e.2.2))else(bif decide (e.1=0)then(cr .i64 (a- e.2.2))else d)),(bif decide (e.2.1=1)then(cr .i64 (b+e.2.2))else(bif decide (e.1=1)then(cr .i64 (a- e.2.2))else f)),(bif decide (e.2.1=2)then(cr .i64 (b+e.2.2))else(bif decide (e.1=2)then(cr .i64 (a- e.2.2))else g)),(bif decide (e.2.1=3)then(cr .i64 (b+e.2.2))else(bif decide (e.1=3)then(cr .i64 (a- e.2.2))else h)),(bif decide (e.2.1=4)then(cr .i64 (b+e.2.2))else(bif decide (e.1=4)then(cr .i64 (a- e.2.2))else i)),(bif decide (e.2.1=5)then(cr .i64 (b+e.2.2))else(bif decide (e.1=5)then(cr .i64 (a- e.2.2))else j))] e.1).bind λ L=>bif L==0 then(cQ e.1 6).bind λ U=>again (A,t,y,z,(cr .i64 (v+1)),p,C,s,w,(bif decide (e.2.1=0)then(cr .i64 (b+e.2.2))else(bif decide (e.1=0)then(cr .i64 (a- e.2.2))else d)),(bif decide (e.2.1=1)then(cr .i64 (b+e.2.2))else(bif decide (e.1=1)then(cr .i64 (a- e.2.2))else f)),(bif decide (e.2.1=2)then(cr .i64 (b+e.2.2))else(bif decide (e.1=2)then(cr .i64 (a- e.2.2))else g)),(bif decide (e.2.1=3)then(cr .i64 (b+e.2.2))else(bif decide (e.1=3)then(cr .i64 (a- e.2.2))else h)),(bif decide (e.2.1=4)then(cr .i64 (b+e.2.2))else(bif decide (e.1=4)then(cr .i64 (a- e.2.2))else i)),(bif decide (e.2.1=5)then(cr .i64 (b+e.2.2))else(bif decide (e.1=5)then(cr .i64 (a- e.2.2))else j)),(bif decide (e.1=0)then 0 else(bif decide (e.2.1=0)then c else m)),(bif decide (e.1=1)then 0 else(bif decide (e.2.1=1)then c else o)),(bif decide (e.1=2)then 0 else(bif decide (e.2.1=2)then c else q)),(bif decide (e.1=3)then 0 else(bif decide (e.2.1=3)then c else r)),(bif decide (e.1=4)then 0 else(bif decide (e.2.1=4)then c else k)),(bif decide (e.1=5)then 0 else(bif decide (e.2.1=5)then c else l)),())else again (A,t,y,z,(cr .i64 (v+1)),p,C,s,w,(bif decide (e.2.1=0)then(cr .i64 (b+e.2.2))else(bif decide (e.1=0)then(cr .i64 (a- e.2.2))else d)),(bif decide (e.2.1=1)then(cr .i64 (b+e.2.2))else(bif decide (e.1=1)then(cr .i64 (a- e.2.2))else f)),(bif decide (e.2.1=2)then(cr .i64 (b+e.2.2))else(bif decide (e.1=2)then(cr .i64 (a- e.2.2))else g)),(bif decide (e.2.1=3)then(cr .i64 (b+e.2.2))else(bif decide (e.1=3)then(cr .i64 (a- e.2.2))else h)),(bif decide (e.2.1=4)then(cr .i64 (b+e.2.2))else(bif decide (e.1=4)then(cr .i64 (a- e.2.2))else i)),(bif decide (e.2.1=5)then(cr .i64 (b+e.2.2))else(bif decide (e.1=5)then(cr .i64 (a- e.2.2))else j)),(bif decide (e.2.1=0)then c else m),(bif decide (e.2.1=1)then c else o),(bif decide (e.2.1=2)then c else q),(bif decide (e.2.1=3)then c else r),(bif decide (e.2.1=4)then c else k),(bif decide (e.2.1=5)then c else l),())else k0 (A,s,w,d,f,g,h,i,j,m,o,q,r,k,l,())
def P6(p:bZ×aZ)(s:Z9×Z9)(l:List Z58):Option Z63:=(Ij n p s).bind λ x=>(vk n (decide ((b2 l:Int)<=20)) 8).bind λ v=>(C5 n ([x.2.2,v]:List Int)).bind λ b=>bif b !=0 then some (((([]:List Int),([]:List Int)),([]:List Int),([]:List Int)),b)else cq (Lg n) n (x.1,(λ C=>Tt n C x.1),l,(b2 l:Int),0,p.1,p.2,s.1,s.2,x.2.1.1.1,x.2.1.1.2.1,x.2.1.1.2.2.1,x.2.1.1.2.2.2.1,x.2.1.1.2.2.2.2.1,x.2.1.1.2.2.2.2.2,x.2.1.2.1,x.2.1.2.2.1,x.2.1.2.2.2.1,x.2.1.2.2.2.2.1,x.2.1.2.2.2.2.2.1,x.2.1.2.2.2.2.2.2,()) (λ(a,c,d,f,g,h,i,j,k,m,o,q,r,t,u,_)=>(IY n a).bind λ w=>(yw n ((f,g,h,i,j,k),m,o,q,r,t,u) w).bind λ y=>(tj n (c,d)).bind λ z=>(IY n a).bind λ A=>(yw n z A).bind λ B=>some ((B,y),0),λ(e,_)=>some (((([]:List Int),([]:List Int)),([]:List Int),([]:List Int)),e),())
def NF:=(Ri n).a 29 ⟨[qG,BW,(.aH Z4)],[],[gS,Z0],λ x y=>P6 n x.1 x.2.1 x.2.2,false⟩
theorem VK:Eo (NF n):=gD Rs.FM (Kj n) func29 (O:= [_]) ⟨gh n (Kj n) (eN 173 [Xb 3 173,Xb 4 174,Xb 6 175,Xp 8 qG,Xb 9 176,aT 11 (.dP Z0 .aO),aT 37 (.aH Z4),aT 38 Z0,aT 39 Z0] [X0 173,X2 174,X7 175,X3 176]) [fq 0 173 [Xb 4 173,Xb 6 174,Xp 8 qG,Xb 9 175] [X2 173,X7 174,X3 175],fw 173 [Xb 6 173,aT 7 Z0] [X7 173]] (Lg n),trivial⟩
def Tn:=(NF n).a 157 (M6 n)
theorem h38:Eo (Tn n):=mN (VK n) (aeb n)
def Nh:=(Tn n).a 184 (T7 n)
theorem h39:Eo (Nh n):=mN (h38 n) (abx n)
def Gi(s a:fh):Option Int:=(BL n s a).bind λ x=>some x
def pf:=(Nh n).a 158 ⟨[.aJ,.aJ],[],[Z0],λ x y=>Gi n x.1 x.2,false⟩
theorem El:Eo (pf n):=dw Rs.FM (h39 n) func158
def Is:a8 (fh×Unit) Unit Unit Jz:=λ(a,_) again (k0,k1,_)=>bif decide ((b2 a:Int)>0)then(KJ n a).bind λ x=>(iB a 0 x.2).bind λ b=>tG (α:=fh) b ((iB a x.2 (b2 a:Int)).bind λ c=>again (c,())) (k1 ())else k0 ()
def Gy:a8 (fh×fh×Int×Unit) (fh×Unit) Unit Jz:=λ(b,a,c,_) again (k0,k1,_)=>(Gi n a b).bind λ x=>bif decide (x<0)then k0 (a,())else(iB a 0 (cr .i64 (x+c))).bind λ d=>tG (α:=fh) d ((iB a (cr .i64 (x+ (b2 b:Int))) (b2 a:Int)).bind λ e=>again (b,e,c,())) (k1 ())
def Nc(a c1:fh)(c2:Int):Option Jz:=bif (b2 a:Int)==0 then cq (Is n) n (c1,()) (λ(_)=>some [],λ(_)=>some [],())else cq (Gy n) n (a,c1,c2,()) (λ(b,_)=>tG (α:=fh) b (some []) (some []),λ(_)=>some [],())
def IX:cf:= ⟨52,[.aJ],[(0,.v (.sZ)),Xb 2 52],[X6 52],[]⟩
def Td:List (dN×cf):= [(.ou 0,⟨52,[],[],[],[]⟩),(.sT,⟨52,[],[],[],[]⟩)]
def I4:Ev (List (ax [.aJ])):=mG n (pf n) IX Td (Is n)
theorem UM d again ks:dv (R:=(List (ax [.aJ]))) (pf n) (jP [.aJ]) (iw (lp (bd hq) 0)) [] (mk IX d) (mL (pf n) IX Td again ks)=Is n d again ks:=by kernel_rfl
theorem aeA:eS Rs.FM.Q (jP [.aJ]) false (lp (bd hq) 0) (I4 n):=rk (El n) Rs.FM.b (by kernel_rfl) (O:= []) trivial (UM n)
def Ip:cf:= ⟨52,[.aJ,.aJ,Z0],[(0,.v (.sZ)),Xb 1 52,Xb 2 53,Xb 3 54],[X6 52,X6 53,(54,.cp Z0 [.aj Z0])],[]⟩
def Pn:List (dN×cf):= [(.ou 2,⟨52,[.aJ],[(0,.v (.sZ)),Xb 2 52],[X6 52],[]⟩),(.sT,⟨52,[],[],[],[]⟩)]
def HL:Ev (List (ax [.aJ])):=mG n (pf n) Ip Pn (Gy n)
theorem ahD d again ks:dv (R:=(List (ax [.aJ]))) (pf n) (jP [.aJ]) (iw (lp (bd hq) 1)) [] (mk Ip d) (mL (pf n) Ip Pn again ks)=Gy n d again ks:=by kernel_rfl
theorem af6:eS Rs.FM.Q (jP [.aJ]) false (lp (bd hq) 1) (HL n):=rk (El n) Rs.FM.b (by kernel_rfl) (O:= []) trivial (ahD n)
def aeW(e c1:fh)(c2:Int):au:={N:=52,d:= [],a:=(0,⟨[],true,.v .ku⟩):: [(1,⟨[],true,.v (.dx 0 0 0)⟩),(2,⟨[],true,.v (.dx 1 0 0)⟩),(3,⟨[],true,.v (.dx 2 0 0)⟩)],b:= [(0,0,.eu .aJ [.aE .aJ e]),(1,0,.eu .aJ [.aE .aJ c1]),(2,0,.eu Z0 [.aE Z0 c2])],c:= []}
theorem aeY(a:fh)(c1:fh)(c2:Int):dv (R:=(List (ax [.aJ]))) (pf n) (jP [.aJ]) (bd hq) [I4 n,HL n] (aeW a c1 c2) Cb=Nc n a c1 c2:=by kernel_rfl
theorem ahS:eS Rs.FM.Q (jP [.aJ]) false (bd hq) (dv (R:=(List (ax [.aJ]))) (pf n) (jP [.aJ]) (bd hq) [I4 n,HL n]):=ji (El n) Rs.FM.b _ _ (my ⟨aeA n,af6 n,trivial⟩)
def HO(s t:fh):Option x8:=Nc n t s 0
theorem YH:Ej Rs.FM.Q 115 .aJ (HO n):=ZA (ahS n) λ s t=>aeY n t s 0
def Pp:=pf n
theorem h41:Eo (Pp n):=El n
def MB:=(Pp n).a 159 (Ps n)
theorem h42:Eo (MB n):=mN (h41 n) (ahr n)
def Pa:=(MB n).a 160 (QB n)
theorem TY:Eo (Pa n):=mN (h42 n) (aeV n)
def Fw:o6 (fh×fh×J3 (x8×Unit)) (fh×Int×x8×Unit) x8:=λ(s,sep,b,c,i,a,_) again (k0,_)=>bif decide (i<c)then(Gi n s sep).bind λ x=>bif decide (x<0)then k0 (s,i,a,())else(iB s 0 (cr .i64 (x+b))).bind λ d=>(aG a i).bind λ e=>(tD a i d).bind λ l=>(iB s (cr .i64 (x+ (b2 sep:Int))) (b2 s:Int)).bind λ f=>again (f,sep,b,c,(cr .i64 (i+1)),l,())else k0 (s,i,a,())
def MC(s sep:fh)(g a:Int):Option x8:=bif a==0 then some ([]:List fh)else bif sep== []then(TI n s a).bind λ x=>some x else bif decide (a<0)then(Bp n s sep).bind λ d=>(CO (bu (cr .i64 (d+1)) (cr .i64 ((b2 s:Int)+1)))).bind λ u=>cq (Fw n) n (s,sep,g,(cr .i64 ((bu (cr .i64 (d+1)) (cr .i64 ((b2 s:Int)+1)))- 1)),0,(ef (fx (bu (cr .i64 (d+1)) (cr .i64 ((b2 s:Int)+1)))) []),()) (λ(j,b,e,_)=>(aG e b).bind λ o=>(tD e b j).bind λ h=>(iB h 0 (cr .i64 (b+1))).bind λ l=>some l,())else(CO (bu a (cr .i64 ((b2 s:Int)+1)))).bind λ q=>cq (Fw n) n (s,sep,g,(cr .i64 ((bu a (cr .i64 ((b2 s:Int)+1)))- 1)),0,(ef (fx (bu a (cr .i64 ((b2 s:Int)+1)))) []),()) (λ(k,c,f,_)=>(aG f c).bind λ p=>(tD f c k).bind λ i=>(iB i 0 (cr .i64 (c+1))).bind λ m=>some m,())
def M3:=(Pa n).a 146 ⟨[.aJ,.aJ,Z0,Z0],[],[Z68],λ x y=>MC n x.1 x.2.1 x.2.2.1 x.2.2.2,false⟩
theorem h44:Eo (M3 n):=gD Rs.FM (TY n) func146 (O:= [_]) ⟨gh n (TY n) (eN 66 [aT 0 .aJ,aT 1 .aJ,aT 2 Z0,aT 3 Z0,(9,.v (.iR 66)),aT 10 Z0] [(66,.jH .aJ)]) [fq 0 66 [aT 0 .aJ,(9,.v (.iR 66)),aT 10 Z0] [(66,.jH .aJ)]] (Fw n),trivial⟩
def Qd(s sep:fh):Option x8:=(MC n s sep 0 (-1)).bind λ x=>some x
def qA:=(M3 n).a 116 ⟨[.aJ,.aJ],[],[Z68],λ x y=>Qd n x.1 x.2,false⟩
theorem HN:Eo (qA n):=dw Rs.FM (h44 n) func116
def BN:akP (bZ×aZ×Int×aZ×Bool×Unit) fh (Int×Unit) Z65:=λ(p,g,h,out,missing,_) y again (k0,_)=>(Qd n y [32]).bind λ x=>(bI (!((b2 x:Int) !=2)) (aG x 0) []).bind λ e=>(bI (!(((b2 x:Int) !=2)|| (e== []))) (aG x 1) []).bind λ c=>bif (((b2 x:Int) !=2)|| (e== []))|| (c== [])then k0 (7,())else(aG x 0).bind λ d=>(vV n p d).bind λ a=>(aG x 1).bind λ f=>(vV n p f).bind λ b=>(jk (b2 out+b2 ([(a,b)]:List gH))).bind λ u=>again (p,g,h,(out++ ([(a,b)]:List gH)),((missing|| (decide (a<0)))|| (decide (b<0))),())
def LL(p:bZ×aZ)(s:fh):Option Z65:=(tx n p).bind λ x=>bif x.2 !=0 then some (([]:List gH),x.2)else bif s== []then some (([]:List gH),0)else(HO n s [59]).bind λ xs=>la (BN n) (λ(c,_)=>some (([]:List gH),c),()) (λ(d,e,f,b,a,_)=>bif a then some (([]:List gH),6)else some (b,0)) xs (p.1,p.2,0,([]:List gH),false,())
def uc:cf:= ⟨73,[gv,dK,Z0,dK,.aO],[Xb 2 73,Xb 4 74,Xb 5 75,Xb 8 76,Xb 9 78],[X0 73,(74,.cp dK [.j6]),(75,.cp Z0 [.aj Z0]),(76,.cp dK [.iR 77]),(77,.jH Z3),X1 78],[]⟩
def Gr:List (dN×cf):= [(.sT,⟨73,[Z0],[Xb 4 73,Xb 5 74],[(73,.cp dK [.j6]),(74,.cp Z0 [.aj Z0])],[]⟩)]
theorem aaS(d)(x)(again)(ks):dv (R:=(ax [dK,Z0])) (qA n) (bT.b (R:=(ax [dK,Z0]))) (D8 (pE 5 (bd f58))) [] (yO uc [2,4,5,8,9] [25] [.aJ] d x) (tH λ st=>dv (R:=(ax [dK,Z0])) (qA n) (bT.b (R:=(ax [dK,Z0]))) (Dt (pE 5 (bd f58))) [] st (wR (qA n) uc [2,4,5,8,9] Gr again ks))=BN n d x again ks:=by kernel_rfl
def JN:fc:= ⟨[qG,.aJ],[],[dK,Z0],λ x y=>LL n x.1 x.2,false⟩
theorem XJ:CD 1 23 24 115 0 25 [59] (pE 5 (bd f58))=true:=by kernel_rfl
theorem WE:qp (R:=(ax [dK,Z0])) Rs.FM.Q (qA n) [.aJ] [25] (D8 (pE 5 (bd f58))) (Dt (pE 5 (bd f58))) [] [] uc [2,4,5,8,9] Gr (BN n):=ab1 (HN n) Rs.FM.b rfl (by decide) (by decide) rfl trivial trivial (aaS n)
theorem abU(d:cR uc.b)(k:Nat)(sl:fX)(h:Map.av (mk uc d).a k=some sl):k≠23/\k≠24:=U7 (T:=uc) (by kernel_rfl) d k sl h
theorem aet(x:ax [qG,.aJ])(y:ax []):(xP (qA n) (bT.b (R:=(ax [dK,Z0]))) (Eu (qA n) .aJ (.tmp 1) (λ s=>HO n s [59]) uc Gr (BN n) 0) 5 (bd f58)) (uN f58.ntmps [qG,.aJ] [] x y) (xj (qA n) false f58.results.toList [dK,Z0])=(JN n).g x y:=by kernel_rfl
theorem Zf:jf Rs.FM.Q 58 (JN n):=ZQ (HN n) Rs.FM.b (Rs.FM.a func58 (by kernel_rfl) (by decide)) (by kernel_rfl) (by kernel_rfl) (by kernel_rfl) (YH n) XJ (by kernel_rfl) (by decide) (by decide) (by decide) (WE n) abU (aet n)
def Rl:=(qA n).a 58 (JN n)
theorem Tq:Eo (Rl n):=mN (HN n) (Zf n)
def Pu(n:Nat):a8 (Z9×Z9×Int×Unit) Unit (Bool×Unit) Bool:=λ(a,b,i,_) again (k0,k1,_)=>bif decide (i< (b2 a:Int))then(aG a i).bind λ e=>(aG b i).bind λ c=>bif e !=c then k1 (false,())else again (a,b,(cr .i64 (i+1)),())else k0 ()
def zL(a b:List Int):Option Bool:=bif (b2 a:Int) !=(b2 b:Int)then some false else cq (Pu n) n (a,b,0,()) (λ(_)=>some true,λ(c,_)=>some c,())
def Mb:=(Rl n).a 82 ⟨[Z8,Z8],[],[.aO],λ x y=>zL n x.1 x.2,false⟩
theorem h47:Eo (Mb n):=gD Rs.FM (Tq n) func82 (O:= [_]) ⟨gh n (Tq n) (eN 26 [aT 0 Z8,aT 1 Z8,aT 5 Z0] []) [fq 0 26 [] [],fw 26 [aT 4 .aO] []] (Pu n),trivial⟩
def Mn(a b:Z9×Z9):Option Bool:=(zL n a.1 b.1).bind λ x=>(bI x (zL n a.2 b.2) false).bind λ c=>some (x&&c)
def P3:=(Mb n).a 41 ⟨[BW,BW],[],[.aO],λ x y=>Mn n x.1 x.2,false⟩
theorem OJ:Eo (P3 n):=dw Rs.FM (h47 n) func41
def Sk(n:Nat):a8 (aZ×aZ×Int×Unit) Unit (Bool×Unit) Bool:=λ(a,b,i,_) again (k0,k1,_)=>bif decide (i< (b2 a:Int))then(aG a i).bind λ e=>(aG b i).bind λ c=>bif !((e.1==c.1)&& (e.2==c.2))then k1 (false,())else again (a,b,(cr .i64 (i+1)),())else k0 ()
def RH(a b:List gH):Option Bool:=bif (b2 a:Int) !=(b2 b:Int)then some false else cq (Sk n) n (a,b,0,()) (λ(_)=>some true,λ(c,_)=>some c,())
def Qo:=(P3 n).a 38 ⟨[dK,dK],[],[.aO],λ x y=>RH n x.1 x.2,false⟩
theorem h49:Eo (Qo n):=gD Rs.FM (OJ n) func38 (O:= [_]) ⟨gh n (OJ n) (eN 26 [aT 0 dK,aT 1 dK,aT 5 Z0] []) [fq 0 26 [] [],fw 26 [aT 4 .aO] []] (Sk n),trivial⟩
def FJ:Option Bool:=(zC n).bind λ x=>(DU n).bind λ h=>(Na n x h (0,1)).bind λ b=>(zC n).bind λ j=>(LQ n).bind λ k=>(OD n j k).bind λ a=>(zC n).bind λ l=>(DU n).bind λ m=>(P6 n l m ([(0,1,2),(1,2,1)]:List Z58)).bind λ c=>(zC n).bind λ o=>(LL n o [97,32,98,59,98,32,99]).bind λ e=>(bI (b.2==0) (Mn n b.1 (([3,5,0]:List Int),([1,1,0]:List Int))) false).bind λ d=>(bI (((((b.2==0)&&d)&& (a.2==0))&& (a.1==7))&& (c.2==0)) (zL n c.1.2.1 ([6,1,1]:List Int)) false).bind λ f=>(bI ((((((b.2==0)&&d)&& (a.2==0))&& (a.1==7))&& (c.2==0))&&f) (zL n c.1.2.2 ([1,1,1]:List Int)) false).bind λ g=>(bI ((((((((b.2==0)&&d)&& (a.2==0))&& (a.1==7))&& (c.2==0))&&f)&&g)&& (e.2==0)) (RH n e.1 ([(0,1),(1,2)]:List gH)) false).bind λ i=>some (((((((((b.2==0)&&d)&& (a.2==0))&& (a.1==7))&& (c.2==0))&&f)&&g)&& (e.2==0))&&i)
def Rn:=(Qo n).a 17 ⟨[],[],[.aO],λ x y=>FJ n,false⟩
theorem h50:Eo (Rn n):=dw Rs.FM (h49 n) func17
def qg(n:Nat)(a lo b:Int):Option Bool:=some ((decide (lo<=a))&& (decide (a<=b)))
def OS:=(Rn n).a 47 ⟨[Z0,Z0,Z0],[],[.aO],λ x y=>qg n x.1 x.2.1 x.2.2,false⟩
theorem LN:Eo (OS n):=dw Rs.FM (h50 n) func47
def yJ:a8 (Int×bZ×aZ×Unit) Unit (Bool×Unit) Bool:=λ(i,p,b,_) again (k0,k1,_)=>bif decide (i< (b2 p:Int))then(aG p i).bind λ e=>(bI (!(decide ((b2 e.1:Int)>20))) (aG p i) ([],0)).bind λ a=>(bI (!(decide ((b2 e.1:Int)>20))) (qg n a.2 11 50) false).bind λ x=>bif (decide ((b2 e.1:Int)>20))||x then k1 (false,())else again ((cr .i64 (i+1)),p,b,())else k0 ()
def xB(p:bZ×aZ):Option Bool:=bif ((((decide ((b2 p.1:Int)>4))&& (decide ((b2 p.1:Int)<=6)))|| (decide ((b2 p.1:Int)>8)))|| ((decide ((b2 p.2:Int)>14))&& (decide ((b2 p.2:Int)<=30))))|| (decide ((b2 p.2:Int)>32))then some false else cq (yJ n) n (0,p.1,p.2,()) (λ(_)=>some true,λ(a,_)=>some a,())
def Nw:=(OS n).a 18 ⟨[qG],[],[.aO],λ x y=>xB n x,false⟩
theorem h52:Eo (Nw n):=gD Rs.FM (LN n) func18 (O:= [_]) ⟨gh n (LN n) (eN 62 [Xb 1 62,aT 3 Z0] [X0 62]) [fq 0 62 [] [],fw 62 [aT 2 .aO] []] (yJ n),trivial⟩
def wX(n:Nat)(s:Z9×Z9):Option Bool:=some ((decide ((b2 s.1:Int)<=10))&& (decide ((b2 s.2:Int)<=10)))
def Sj:=(Nw n).a 20 ⟨[BW],[],[.aO],λ x y=>wX n x,false⟩
theorem h53:Eo (Sj n):=dw Rs.FM (h52 n) func20
def zS(t:cn×Z9×Z9):Option Bool:=(wX n t.1).bind λ x=>some ((x&& (decide ((b2 t.2.1:Int)<=10)))&& (decide ((b2 t.2.2:Int)<=10)))
def Sf:=(Sj n).a 19 ⟨[gS],[],[.aO],λ x y=>zS n x,false⟩
theorem h54:Eo (Sf n):=dw Rs.FM (h53 n) func19
def wL(n:Nat)(p:bZ×aZ):Option qZ:=(jk (b2 ([]:List cN)+b2 p.1)).bind λ u=>(jk (b2 ([]:List gH)+b2 p.2)).bind λ a=>some ((([]:List cN)++p.1),(([]:List gH)++p.2))
def Mv:=(Sf n).a 22 ⟨[qG],[],[qG],λ x y=>wL n x,false⟩
theorem WJ:Eo (Mv n):=dw Rs.FM (h54 n) func22
def uV(n:Nat)(l:List Int):Option Z9:=(jk (b2 ([]:List Int)+b2 l)).bind λ u=>some (([]:List Int)++l)
def NG:=(Mv n).a 89 ⟨[Z8],[],[Z8],λ x y=>uV n x,true⟩
theorem h56:Eo (NG n):=dw Rs.FM (WJ n) func89
def th(s:Z9×Z9):Option cn:=(uV n s.1).bind λ x=>(uV n s.2).bind λ a=>some (x,a)
def Rx:=(NG n).a 25 ⟨[BW],[],[BW],λ x y=>th n x,true⟩
theorem h57:Eo (Rx n):=dw Rs.FM (h56 n) func25
def xf(t:cn×Z9×Z9):Option Yl:=(th n t.1).bind λ x=>(uV n t.2.1).bind λ a=>(uV n t.2.2).bind λ b=>some (x,a,b)
def NB:=(Rx n).a 23 ⟨[gS],[],[gS],λ x y=>xf n x,false⟩
theorem Zu:Eo (NB n):=dw Rs.FM (h57 n) func23
def yx(n:Nat):a8 (fh×Int×Unit) Unit (Bool×Unit) Bool:=λ(s,i,_) again (k0,k1,_)=>bif decide (i< (b2 s:Int))then(aG s i).bind λ c=>bif (!(((decide (((eb c:Nat):Int)>=97))&& (decide (((eb c:Nat):Int)<=122)))|| ((decide (((eb c:Nat):Int)>=65))&& (decide (((eb c:Nat):Int)<=90)))))&& ((i==0)|| ((((eb c:Nat):Int) !=45)&& ((decide (((eb c:Nat):Int)<48))|| (decide (((eb c:Nat):Int)>57)))))then k1 (false,())else again (s,(cr .i64 (i+1)),())else k0 ()
def EH(s:fh):Option Bool:=bif (decide ((b2 s:Int)<1))|| (decide ((b2 s:Int)>12))then some false else cq (yx n) n (s,0,()) (λ(_)=>some true,λ(a,_)=>some a,())
def Pm:=(NB n).a 110 ⟨[.aJ],[],[.aO],λ x y=>EH n x,false⟩
theorem Oe:Eo (Pm n):=gD Rs.FM (Zu n) func110 (O:= [_]) ⟨gh n (Zu n) (eN 55 [aT 0 .aJ,aT 3 Z0] []) [fq 0 55 [] [],fw 55 [aT 2 .aO] []] (yx n),trivial⟩
def zF(p:bZ×aZ)(a:Int):Option Bool:=(qg n a 0 (cr .i64 ((b2 p.1:Int)- 1))).bind λ x=>some x
def Ny:=(Pm n).a 80 ⟨[qG,Z0],[],[.aO],λ x y=>zF n x.1 x.2,false⟩
theorem h60:Eo (Ny n):=dw Rs.FM (Oe n) func80
def Ak(n:Nat):a8 (Int×Int×bZ×aZ×Unit) (Int×bZ×aZ×Unit) (Int×Int×Unit) gH:=λ(i,a,p,b,_) again (k0,k1,_)=>bif decide (a<i)then(aG p a).bind λ e=>(aG p i).bind λ c=>bif e.1==c.1 then k1 (i,5,())else again (i,(cr .i64 (a+1)),p,b,())else k0 (i,p,b,())
def yU:a8 (Int×bZ×aZ×Unit) (bZ×aZ×Unit) (Int×Int×Unit) gH:=λ(i,p,b,_) again (k0,k1,_)=>bif decide (i< (b2 p:Int))then(aG p i).bind λ e=>(EH n e.1).bind λ x=>bif !x then k1 (i,4,())else cq (Ak n) n (i,0,p,b,()) (λ(a,c,f,_)=>(aG c a).bind λ d=>(qg n d.2 1 50).bind λ j=>bif !j then k1 (a,2,())else again ((cr .i64 (a+1)),c,f,()),λ(g,h,_)=>k1 (g,h,()),())else k0 (p,b,())
def yj(n:Nat):a8 (Int×Int×bZ×aZ×Int×Int×Unit) (Int×bZ×aZ×Unit) (Int×Int×Unit) gH:=λ(i,b,p,a,h,c,_) again (k0,k1,_)=>bif decide (b<i)then(aG a b).bind λ e=>bif (e.1==h)&& (e.2==c)then k1 (i,26,())else again (i,(cr .i64 (b+1)),p,a,h,c,())else k0 (i,p,a,())
def zm:a8 (Int×bZ×aZ×Unit) Unit (Int×Int×Unit) gH:=λ(i,p,a,_) again (k0,k1,_)=>bif decide (i< (b2 a:Int))then(aG a i).bind λ e=>(cQ 0 2).bind λ u=>(aG [e.1,e.2] 0).bind λ x=>(zF n (p,a) x).bind λ b=>(bI (!(!b)) (cQ 1 2) ()).bind λ o=>(bI (!(!b)) (aG [e.1,e.2] 1) 0).bind λ j=>(bI (!(!b)) (zF n (p,a) j) false).bind λ k=>bif (!b)|| (!k)then k1 (i,6,())else(cQ 0 2).bind λ q=>(aG [e.1,e.2] 0).bind λ l=>(cQ 1 2).bind λ r=>(aG [e.1,e.2] 1).bind λ m=>bif l==m then k1 (i,11,())else cq (yj n) n (i,0,p,a,e.1,e.2,()) (λ(c,d,f,_)=>again ((cr .i64 (c+1)),d,f,()),λ(g,h,_)=>k1 (g,h,()),())else k0 ()
def xy(p:bZ×aZ):Option gH:=bif (b2 p.1:Int)==0 then some (0,10)else bif decide ((b2 p.1:Int)>6)then some (0,8)else cq (yU n) n (0,p.1,p.2,()) (λ(b,a,_)=>bif decide ((b2 a:Int)>30)then some (0,8)else cq (zm n) n (0,b,a,()) (λ(_)=>some (0,0),λ(c,e,_)=>some (c,e),()),λ(d,f,_)=>some (d,f),())
def OF:=(Ny n).a 46 ⟨[qG],[],[Z0,Z0],λ x y=>xy n x,false⟩
theorem zq:Eo (OF n):=gD Rs.FM (h60 n) func46 (O:= [_,_]) ⟨B8 n (h60 n) (eN 109 [Xb 1 109,aT 4 Z0] [X0 109]) [fq 0 109 [Xb 1 109] [X0 109],fw 109 [aT 2 Z0,aT 3 Z0] []] (yU n) (O:= [_]) ⟨gh n (h60 n) (eN 109 [Xb 1 109,aT 4 Z0,aT 5 Z0] [X0 109]) [fq 2 109 [Xb 1 109,aT 4 Z0] [X0 109],fw 109 [aT 2 Z0,aT 3 Z0] []] (Ak n),trivial⟩,B8 n (h60 n) (eN 109 [Xb 1 109,aT 6 Z0] [X0 109]) [fq 4 109 [] [],fw 109 [aT 2 Z0,aT 3 Z0] []] (zm n) (O:= [_]) ⟨gh n (h60 n) (eN 109 [Xb 1 109,aT 6 Z0,Xb 7 110,aT 8 Z0] [X0 109,(110,.cp Z3 [.aj Z0,.aj Z0])]) [fq 6 109 [Xb 1 109,aT 6 Z0] [X0 109],fw 109 [aT 2 Z0,aT 3 Z0] []] (yj n),trivial⟩,trivial⟩
def DI:a8 (Int×bZ×aZ×Z9×Z9×Unit) Unit (Int×Unit) Int:=λ(i,p,g,s,a,_) again (k0,k1,_)=>bif decide (i< (b2 p:Int))then(aG s i).bind λ e=>(aG p i).bind λ b=>(qg n e 0 b.2).bind λ x=>(bI (!(!x)) (aG a i) 0).bind λ c=>(bI (!(!x)) (qg n c 0 3) false).bind λ h=>bif (!x)|| (!h)then k1 (2,())else(aG a i).bind λ d=>(aG s i).bind λ f=>bif !((d==0)==(f==0))then k1 (13,())else again ((cr .i64 (i+1)),p,g,s,a,())else k0 ()
def sM(p:bZ×aZ)(s:Z9×Z9):Option Int:=bif ((b2 s.1:Int) !=(b2 p.1:Int))|| ((b2 s.2:Int) !=(b2 p.1:Int))then some 10 else cq (DI n) n (0,p.1,p.2,s.1,s.2,()) (λ(_)=>some 0,λ(a,_)=>some a,())
def Qw:=(OF n).a 27 ⟨[qG,BW],[],[Z0],λ x y=>sM n x.1 x.2,false⟩
theorem Of:Eo (Qw n):=gD Rs.FM (zq n) func27 (O:= [_]) ⟨gh n (zq n) (eN 64 [Xb 2 64,Xb 3 65,aT 5 Z0] [X0 64,X2 65]) [fq 0 64 [] [],fw 64 [aT 4 Z0] []] (DI n),trivial⟩
def Ez:a8 (Int×bZ×aZ×Z9×Z9×Z9×Z9×Unit) Unit (Int×Unit) Int:=λ(i,p,j,t,k,a,b,_) again (k0,k1,_)=>bif decide (i< (b2 p:Int))then(aG a i).bind λ e=>(bI (e !=(-1)) (aG a i) 0).bind λ d=>(bI (e !=(-1)) (aG p i) ([],0)).bind λ f=>(bI (e !=(-1)) (qg n d 0 f.2) false).bind λ x=>(bI (!((e !=(-1))&& (!x))) (aG b i) 0).bind λ g=>(bI (!((e !=(-1))&& (!x))) (qg n g 0 3) false).bind λ l=>bif ((e !=(-1))&& (!x))|| (!l)then k1 (2,())else(aG b i).bind λ c=>(bI (c !=0) (aG a i) 0).bind λ h=>bif (c !=0)&& (h==0)then k1 (13,())else again ((cr .i64 (i+1)),p,j,t,k,a,b,())else k0 ()
def wy(p:bZ×aZ)(t:cn×Z9×Z9):Option Int:=(sM n p t.1).bind λ x=>bif x !=0 then some x else bif ((b2 t.2.1:Int) !=(b2 p.1:Int))|| ((b2 t.2.2:Int) !=(b2 p.1:Int))then some 10 else cq (Ez n) n (0,p.1,p.2,t.1.1,t.1.2,t.2.1,t.2.2,()) (λ(_)=>some 0,λ(a,_)=>some a,())
def QL:=(Qw n).a 94 ⟨[qG,gS],[],[Z0],λ x y=>wy n x.1 x.2,false⟩
theorem Lw:Eo (QL n):=gD Rs.FM (Of n) func94 (O:= [_]) ⟨gh n (Of n) (eN 81 [Xb 2 81,Xb 3 82,aT 6 Z0] [X0 81,X4 82]) [fq 0 81 [] [],fw 81 [aT 4 Z0] []] (Ez n),trivial⟩
def AT(p:bZ×aZ)(t:cn×Z9×Z9):Option Int:=(xy n p).bind λ x=>bif x.2 !=0 then some x.2 else(wy n p t).bind λ a=>some a
def Qi:=(QL n).a 26 ⟨[qG,gS],[],[Z0],λ x y=>AT n x.1 x.2,false⟩
theorem h64:Eo (Qi n):=dw Rs.FM (Lw n) func26
def EX(n:Nat):a8 (Int×Z9×Z9×Z9×Z9×Z9×Z9×Unit) Unit (Bool×Unit) Bool:=λ(i,t,k,d,f,s,g,_) again (k0,k1,_)=>bif decide (i< (b2 s:Int))then(aG d i).bind λ e=>(bI (e !=(-1)) (aG d i) 0).bind λ a=>(bI (e !=(-1)) (aG s i) 0).bind λ b=>(bI (!((e !=(-1))&& (a !=b))) (aG f i) 0).bind λ c=>(bI ((!((e !=(-1))&& (a !=b)))&& (c !=0)) (aG f i) 0).bind λ h=>(bI ((!((e !=(-1))&& (a !=b)))&& (c !=0)) (aG g i) 0).bind λ j=>bif ((e !=(-1))&& (a !=b))|| ((c !=0)&& (h !=j))then k1 (false,())else again ((cr .i64 (i+1)),t,k,d,f,s,g,())else k0 ()
def wS(t:cn×Z9×Z9)(s:Z9×Z9):Option Bool:=cq (EX n) n (0,t.1.1,t.1.2,t.2.1,t.2.2,s.1,s.2,()) (λ(_)=>some true,λ(a,_)=>some a,())
def Kv:=(Qi n).a 28 ⟨[gS,BW],[],[.aO],λ x y=>wS n x.1 x.2,false⟩
theorem LO:Eo (Kv n):=gD Rs.FM (h64 n) func28 (O:= [_]) ⟨gh n (h64 n) (eN 53 [Xb 2 53,Xb 3 54,aT 5 Z0] [X4 53,X2 54]) [fq 0 53 [] [],fw 53 [aT 4 .aO] []] (EX n),trivial⟩
def akG(n:Nat):a8 (Int×bZ×aZ×Int×Int×Unit) Unit (Bool×Unit) Bool:=λ(i,p,a,m,b,_) again (k0,k1,_)=>bif decide (i< (b2 a:Int))then(aG a i).bind λ e=>bif (e.1==m)&& (e.2==b)then k1 (true,())else again ((cr .i64 (i+1)),p,a,m,b,())else k0 ()
def aic(p:bZ×aZ)(m:Int×Int):Option Bool:=cq (akG n) n (0,p.1,p.2,m.1,m.2,()) (λ(_)=>some false,λ(a,_)=>some a,())
def e68:=(Kv n).a 105 ⟨[qG,Z3],[],[.aO],λ x y=>aic n x.1 x.2,false⟩
theorem h68:Eo (e68 n):=gD Rs.FM (LO n) func105 (O:= [_]) ⟨gh n (LO n) (eN 24 [Xb 2 24,Xb 3 25,aT 5 Z0] [X0 24,(25,.cp Z3 [.aj Z0,.aj Z0])]) [fq 0 24 [] [],fw 24 [aT 4 .aO] []] (akG n),trivial⟩
def o5(p:bZ×aZ)(s:Z9×Z9)(m:Int×Int):Option Int:=(zF n p m.1).bind λ x=>(bI (!(!x)) (zF n p m.2) false).bind λ g=>bif (!x)|| (!g)then some 6 else(aic n p m).bind λ h=>bif !h then some 18 else(aG s.1 m.1).bind λ e=>bif e==0 then some 12 else(aG s.1 m.2).bind λ b=>(aG p.1 m.2).bind λ c=>bif b==c.2 then some 16 else(aG s.2 m.2).bind λ a=>(bI (a !=0) (aG s.2 m.2) 0).bind λ d=>(bI (a !=0) (aG s.2 m.1) 0).bind λ f=>bif (a !=0)&& (d !=f)then some 13 else some 0
def e69:=(e68 n).a 40 ⟨[qG,BW,Z3],[],[Z0],λ x y=>o5 n x.1 x.2.1 x.2.2,false⟩
theorem h69:Eo (e69 n):=dw Rs.FM (h68 n) func40
def y8:o6 (Int×Int×bZ×aZ×Z9×Z9×aZ×Unit) (Int×bZ×aZ×Z9×Z9×aZ×Unit) aZ:=λ(i,a,p,b,s,c,out,_) again (k0,_)=>bif decide (a< (b2 p:Int))then(o5 n (p,b) (s,c) (i,a)).bind λ x=>bif x==0 then(jk (b2 out+b2 ([(i,a)]:List gH))).bind λ u=>again (i,(cr .i64 (a+1)),p,b,s,c,(out++ ([(i,a)]:List gH)),())else again (i,(cr .i64 (a+1)),p,b,s,c,out,())else k0 (i,p,b,s,c,out,())
def K7:o6 (Int×bZ×aZ×Z9×Z9×aZ×Unit) (aZ×Unit) aZ:=λ(i,p,c,s,f,out,_) again (k0,_)=>bif decide (i< (b2 p:Int))then cq (y8 n) n (i,0,p,c,s,f,out,()) (λ(a,d,e,g,h,b,_)=>again ((cr .i64 (a+1)),d,e,g,h,b,()),())else k0 (out,())
def zY(p:bZ×aZ)(s:Z9×Z9):Option aZ:=cq (K7 n) n (0,p.1,p.2,s.1,s.2,([]:List gH),()) (λ(a,_)=>some a,())
def e70:=(e69 n).a 39 ⟨[qG,BW],[],[dK],λ x y=>zY n x.1 x.2,false⟩
theorem h70:Eo (e70 n):=gD Rs.FM (h69 n) func39 (O:= [_]) ⟨B8 n (h69 n) (eN 36 [Xb 2 36,Xb 3 37,(5,.v (.iR 38)),aT 6 Z0] [X0 36,X2 37,(38,.jH Z3)]) [fq 0 36 [(5,.v (.iR 36))] [(36,.jH Z3)]] (K7 n) (O:= [_]) ⟨gh n (h69 n) (eN 36 [Xb 2 36,Xb 3 37,(5,.v (.iR 38)),aT 6 Z0,aT 7 Z0] [X0 36,X2 37,(38,.jH Z3)]) [fq 2 36 [Xb 2 36,Xb 3 37,(5,.v (.iR 38)),aT 6 Z0] [X0 36,X2 37,(38,.jH Z3)]] (y8 n),trivial⟩,trivial⟩
def u9(p:bZ×aZ)(s:Z9×Z9)(m:Int×Int):Option cn:=(th n s).bind λ x=>(aG s.1 m.1).bind λ e=>(aG p.1 m.2).bind λ c=>(aG s.1 m.2).bind λ d=>(aG s.1 m.1).bind λ f=>(aG s.1 m.2).bind λ g=>(aG x.1 m.1).bind λ o=>(tD x.1 m.1 (cr .i64 (f- (bu e (cr .i64 (c.2- d)))))).bind λ l=>(aG l m.2).bind λ q=>(tD l m.2 (cr .i64 (g+ (bu e (cr .i64 (c.2- d)))))).bind λ a=>(aG s.2 m.1).bind λ h=>(aG x.2 m.2).bind λ r=>(tD x.2 m.2 h).bind λ b=>(aG a m.1).bind λ t=>(aG a m.1).bind λ j=>bif j==0 then(aG b m.1).bind λ k=>(tD b m.1 0).bind λ i=>some (a,i)else some (a,b)
def e71:=(e70 n).a 42 ⟨[qG,BW,Z3],[],[BW],λ x y=>u9 n x.1 x.2.1 x.2.2,false⟩
theorem h71:Eo (e71 n):=dw Rs.FM (h70 n) func42
def s48(l:List gH):Option Bool:=(bI (!(decide ((b2 l:Int)<=30))) (qg n (b2 l:Int) 501 502) false).bind λ x=>some ((decide ((b2 l:Int)<=30))||x)
def e72:=(e71 n).a 48 ⟨[dK],[],[.aO],λ x y=>s48 n x,false⟩
theorem h72:Eo (e72 n):=dw Rs.FM (h71 n) func48
def s50(n:Nat)(l:List gH):Option aZ:=(jk (b2 ([]:List gH)+b2 l)).bind λ u=>some (([]:List gH)++l)
def e73:=(e72 n).a 50 ⟨[dK],[],[dK],λ x y=>s50 n x,false⟩
theorem h73:Eo (e73 n):=dw Rs.FM (h72 n) func50
def ahB:a8 (aZ×Int×Int×bZ×aZ×oH (oH Unit)) (oH (oH Unit)) (oH (Int×Int×Unit)) Z56:=λ(c,d,a,p,b,t,u,y,z,A,B,C,D,E,F,v,w,f,g,j,k,l,m,o,q,r,s,h,i,_) again (k0,k1,_)=>bif decide (a<d)then(aG c a).bind λ e=>(En n (p,b) ((t,u,y,z,A,B),C,D,E,F,v,w) e).bind λ x=>bif x.2 !=0 then k1 (a,x.2,0,0,0,0,0,0,0,0,0,0,0,0,())else again (c,d,(cr .i64 (a+1)),p,b,x.1.1.1,x.1.1.2.1,x.1.1.2.2.1,x.1.1.2.2.2.1,x.1.1.2.2.2.2.1,x.1.1.2.2.2.2.2,x.1.2.1,x.1.2.2.1,x.1.2.2.2.1,x.1.2.2.2.2.1,x.1.2.2.2.2.2.1,x.1.2.2.2.2.2.2,f,g,j,k,l,m,o,q,r,s,h,i,())else k0 (t,u,y,z,A,B,C,D,E,F,v,w,f,g,j,k,l,m,o,q,r,s,h,i,())
def K2(p:bZ×aZ)(a:Z1×J5 Int)(l:List gH):Option Z56:=bif decide ((b2 l:Int)>500)then some (((0,0,0,0,0,0),0,0,0,0,0,0),0,8)else cq (ahB n) n (l,(b2 l:Int),0,p.1,p.2,a.1.1,a.1.2.1,a.1.2.2.1,a.1.2.2.2.1,a.1.2.2.2.2.1,a.1.2.2.2.2.2,a.2.1,a.2.2.1,a.2.2.2.1,a.2.2.2.2.1,a.2.2.2.2.2.1,a.2.2.2.2.2.2,0,0,0,0,0,0,0,0,0,0,0,0,()) (λ(s,t,u,v,w,x,y,z,A,B,C,D,E,F,G,H,I,J,K,L,M,N,O,P,_)=>some (((s,t,u,v,w,x),y,z,A,B,C,D),0,0),λ(q,r,b,c,d,e,f,g,h,i,j,k,m,o,_)=>some (((b,c,d,e,f,g),h,i,j,k,m,o),q,r),())
def e74:=(e73 n).a 111 ⟨[qG,dy,dK],[],[dy,Z0,Z0],λ x y=>K2 n x.1 x.2.1 x.2.2,false⟩
theorem h74:Eo (e74 n):=gD Rs.FM (h73 n) func111 (O:= [_]) ⟨gh n (h73 n) (eN 39 [Xb 3 39,Xb 4 40,Xb 6 41,aT 17 dK,aT 18 Z0,aT 19 Z0] [X0 39,X3 40,X3 41]) [fq 0 39 [Xb 4 39,Xb 6 40] [X3 39,X3 40],fw 39 [Xb 6 39,aT 7 Z0,aT 8 Z0] [X3 39]] (ahB n),trivial⟩
def ahM:a8 (aZ×Int×bZ×aZ×Z9×Z9×Unit) (Z9×Z9×Unit) (Int×Int×Unit) Iq:=λ(l,i,p,a,s,b,_) again (k0,k1,_)=>bif decide (i< (b2 l:Int))then(aG l i).bind λ e=>(o5 n (p,a) (s,b) e).bind λ x=>bif x !=0 then k1 (i,x,())else(aG l i).bind λ d=>(u9 n (p,a) (s,b) d).bind λ c=>again (l,(cr .i64 (i+1)),p,a,c.1,c.2,())else k0 (s,b,())
def K4(p:bZ×aZ)(s:Z9×Z9)(l:List gH):Option Iq:=bif decide ((b2 l:Int)>500)then some ((([]:List Int),([]:List Int)),0,8)else cq (ahM n) n (l,0,p.1,p.2,s.1,s.2,()) (λ(a,b,_)=>(th n (a,b)).bind λ e=>some (e,0,0),λ(c,d,_)=>some ((([]:List Int),([]:List Int)),c,d),())
def e75:=(e74 n).a 51 ⟨[qG,BW,dK],[],[BW,Z0,Z0],λ x y=>K4 n x.1 x.2.1 x.2.2,false⟩
theorem h75:Eo (e75 n):=gD Rs.FM (h74 n) func51 (O:= [_]) ⟨gh n (h74 n) (eN 42 [aT 2 dK,Xb 3 42,Xb 4 43,Xb 6 44,aT 9 Z0] [X0 42,X2 43,(44,.cp BW [.j6,.j6])]) [fq 0 42 [Xb 4 42,Xb 6 43] [X2 42,(43,.cp BW [.j6,.j6])],fw 42 [Xb 6 42,aT 7 Z0,aT 8 Z0] [(42,.cp BW [.j6,.j6])]] (ahM n),trivial⟩
def aaw(n:Nat):a8 (uy×oH (Int×Int×Unit)) Unit (Int×Unit) Int:=λ(s,b,a,v,c,g,h,i,j,k,l,m,o,d,f,_) again (k0,k1,_)=>bif decide (a<b)then(aG s a).bind λ e=>bif ((v==e.1.1)&& ((c==e.1.2.1)&& ((g==e.1.2.2.1)&& ((h==e.1.2.2.2.1)&& ((i==e.1.2.2.2.2.1)&& (j==e.1.2.2.2.2.2))))))&& ((k==e.2.1)&& ((l==e.2.2.1)&& ((m==e.2.2.2.1)&& ((o==e.2.2.2.2.1)&& ((d==e.2.2.2.2.2.1)&& (f==e.2.2.2.2.2.2))))))then k1 (a,())else again (s,b,(cr .i64 (a+1)),v,c,g,h,i,j,k,l,m,o,d,f,())else k0 ()
def agA(s:List Z2)(v:Z1×J5 Int):Option Int:=cq (aaw n) n (s,(b2 s:Int),0,v.1.1,v.1.2.1,v.1.2.2.1,v.1.2.2.2.1,v.1.2.2.2.2.1,v.1.2.2.2.2.2,v.2.1,v.2.2.1,v.2.2.2.1,v.2.2.2.2.1,v.2.2.2.2.2.1,v.2.2.2.2.2.2,()) (λ(_)=>some (-1),λ(a,_)=>some a,())
def e76:=(e75 n).a 257 ⟨[nk,dy],[],[Z0],λ x y=>agA n x.1 x.2,false⟩
theorem h76:Eo (e76 n):=gD Rs.FM (h75 n) func257 (O:= [_]) ⟨gh n (h75 n) (eN 19 [aT 0 nk,Xb 3 19,aT 7 Z0,aT 8 Z0] [X3 19]) [fq 0 19 [] [],fw 19 [aT 4 Z0] []] (aaw n),trivial⟩
def afQ(s:List Z2)(v:Z1×J5 Int):Option Bool:=(agA n s v).bind λ x=>some (decide (x>=0))
def e77:=(e76 n).a 255 ⟨[nk,dy],[],[.aO],λ x y=>afQ n x.1 x.2,false⟩
theorem h77:Eo (e77 n):=dw Rs.FM (h76 n) func255
def abY(s:List Z2)(f:Z2->Option Bool):Option Bool:=(Pg n s f).bind λ x=>some (decide (x>=0))
def b8:=(e77 n).a 256 ⟨[nk,Z61],[],[.aO],λ x y=>abY n x.1 x.2,false⟩
theorem wH:Eo (b8 n):=dw Rs.FM (h77 n) func256
def aaZ(n:Nat):o6 (qm×JO×uy×Int×Int×Bool×LJ×Unit) (qm×JO×Bool×LJ×Unit) Bool:=λ(l,t,c,d,a,f,b,_) again (k0,_)=>bif decide (a<d)then(aG c a).bind λ e=>again (l,t,c,d,(cr .i64 (a+1)),f,(lz (Ty.f dy) b e true),())else k0 (l,t,f,b,())
def abr(n:Nat):o6 (qm×JO×uy×qm×Int×Int×uy×Int×Int×Bool×LJ×Unit) (qm×JO×uy×qm×Int×Int×Bool×LJ×Unit) Bool:=λ(l,t,b,f,g,h,i,j,a,d,c,_) again (k0,_)=>bif decide (a<j)then(aG i a).bind λ e=>again (l,t,b,f,g,h,i,j,(cr .i64 (a+1)),d,(lz (Ty.f dy) c e true),())else k0 (l,t,b,f,g,h,d,c,())
def x5(n:Nat):akP (qm×JO×qm×Int×Int×uy×Int×Int×Fp×Bool×LJ×Unit) (gH×Z1×J5 Int) (Bool×Unit) Bool:=λ(l,t,c,d,e,f,g,h,i,b,a,_) y again (k0,_)=>bif !(gw (j4 (Ty.f dy) a y.2) false)then k0 (false,())else again (l,t,c,d,e,f,g,h,i,b,a,())
def y7:a8 (qm×JO×qm×Int×Int×uy×Int×Int×Bool×LJ×Unit) (qm×JO×qm×Int×Int×Bool×LJ×Unit) (Bool×Unit) Bool:=λ(l,t,d,f,g,h,i,a,c,b,_) again (k0,k1,_)=>bif decide (a<i)then(aG h a).bind λ e=>t.bind λ x=>(tN n x.1 e).bind λ j=>la (x5 n) (λ(s,_)=>k1 (s,()),()) (λ(k,y,o,p,q,u,v,w,z,r,m,_)=>again (k,y,o,p,q,u,v,(cr .i64 (w+1)),r,m,())) j (l,t,d,f,g,h,i,a,j,c,b,())else k0 (l,t,d,f,g,c,b,())
def z7:a8 (qm×JO×qm×Int×Int×Bool×LJ×Unit) (Bool×Unit) (Bool×Unit) Bool:=λ(l,t,f,g,a,b,j,_) again (k0,k1,_)=>bif decide (a<g)then(aG f a).bind λ e=>(abY n e (λ B=>ud n t B)).bind λ x=>bif x then k1 (false,())else bif a==(cr .i64 ((b2 l:Int)- 1))then k0 (b,())else(aG l (cr .i64 (a+1))).bind λ c=>cq (abr n) n (l,t,e,f,g,a,c,(b2 c:Int),0,b,j,()) (λ(h,z,d,o,q,s,v,k,_)=>cq (y7 n) n (h,z,o,q,s,d,(b2 d:Int),0,v,k,()) (λ(i,A,p,r,u,w,m,_)=>again (i,A,p,r,(cr .i64 (u+1)),w,m,()),λ(y,_)=>k1 (y,()),()),())else k0 (b,())
def afY(l:List uy)(t:Option EM):Option Bool:=(bI (!((b2 l:Int)==0)) (aG l 0) []).bind λ e=>(bI (!((b2 l:Int)==0)) t (([],[]),(([],[]),[],[]),(0,0,0,0,0,0),0,0,0,0,0,0)).bind λ x=>(bI (!((b2 l:Int)==0)) (afQ n e x.2.2) false).bind λ h=>bif ((b2 l:Int)==0)|| (!h)then some false else(aG l 0).bind λ b=>cq (aaZ n) n (l,t,b,(b2 b:Int),0,false,([]:List zp),()) (λ(a,g,d,c,_)=>cq (z7 n) n (a,g,a,(b2 a:Int),0,d,c,()) (λ(i,_)=>some true,λ(f,_)=>some f,()),())
def aac:cf:= ⟨91,[uf,xh,uf,Z0,Z0,nk,Z0,Z0,Z59,.aO,qE],[(0,.v (.aj uf)),(1,.v (.aj xh)),Xb 4 91,Xb 5 92,(42,.v (.aj uf)),(43,.v (.aj Z0)),(44,.v (.aj Z0)),(71,.v (.aj nk)),(72,.v (.aj Z0)),(73,.v (.aj Z0)),(82,.v (.aj Z59))],[X1 91,X5 92,(93,.tU dy .aO)],[]⟩
def afJ:List (dN×cf):= [(.sT,⟨91,[.aO],[Xb 4 91],[X1 91],[]⟩)]
theorem an9(d)(x)(again)(ks):dv (R:=(ax [.aO])) (b8 n) (bT.b (R:=(ax [.aO]))) (vv (lp (iw (lp (iw (lp (bd fb) 1)) 1)) 0)) [] (GP aac [0,1,4,5,42,43,44,71,72,73,82] 83 84 Z3 dy d x) (tH λ st=>dv (R:=(ax [.aO])) (b8 n) (bT.b (R:=(ax [.aO]))) (wQ (lp (iw (lp (iw (lp (bd fb) 1)) 1)) 0)) [] st (wR (b8 n) aac [0,1,4,5,42,43,44,71,72,73,82] afJ again ks))=x5 n d x again ks:=by kernel_rfl
theorem anV:eS Rs.FM.Q (bT.b (R:=(ax [.aO]))) false (lp (iw (lp (iw (lp (bd fb) 1)) 1)) 0) ((λ n=>qX (R:=(ax [.aO])) (b8 n) Z3 dy (vp (lp (iw (lp (iw (lp (bd fb) 1)) 1)) 0)) aac afJ (x5 n)) n):=RZ (wH n) Rs.FM.b (p:=83) (q:=84) (F:= [0,1,4,5,42,43,44,71,72,73,82]) (Oa:= []) (Ob:= []) (by kernel_rfl) (by kernel_rfl) trivial trivial (an9 n)
def akr:cf:= ⟨91,[uf,xh,nk,uf,Z0,Z0,nk,Z0,Z0,.aO,qE],[(0,.v (.aj uf)),(1,.v (.aj xh)),Xb 4 91,Xb 5 92,(9,.v (.aj nk)),(42,.v (.aj uf)),(43,.v (.aj Z0)),(44,.v (.aj Z0)),(62,.v (.aj nk)),(63,.v (.aj Z0)),(64,.v (.aj Z0))],[X1 91,X5 92,(93,.tU dy .aO)],[]⟩
def ame:List (dN×cf):= [(.ou 4,⟨91,[uf,xh,nk,uf,Z0,Z0,.aO,qE],[(0,.v (.aj uf)),(1,.v (.aj xh)),Xb 4 91,Xb 5 92,(9,.v (.aj nk)),(42,.v (.aj uf)),(43,.v (.aj Z0)),(44,.v (.aj Z0))],[X1 91,X5 92,(93,.tU dy .aO)],[]⟩)]
def aje:Ev (ax [.aO]):=mG n (b8 n) akr ame (abr n)
theorem aod d again ks:dv (R:=(ax [.aO])) (b8 n) (bT.b (R:=(ax [.aO]))) (iw (lp (iw (lp (bd fb) 1)) 0)) [] (mk akr d) (mL (b8 n) akr ame again ks)=abr n d again ks:=by kernel_rfl
theorem amf:eS Rs.FM.Q (bT.b (R:=(ax [.aO]))) false (lp (iw (lp (bd fb) 1)) 0) (aje n):=rk (wH n) Rs.FM.b (by kernel_rfl) (O:= []) trivial (aod n)
def aiQ:cf:= ⟨91,[uf,xh,uf,Z0,Z0,nk,Z0,Z0,.aO,qE],[(0,.v (.aj uf)),(1,.v (.aj xh)),Xb 4 91,Xb 5 92,(42,.v (.aj uf)),(43,.v (.aj Z0)),(44,.v (.aj Z0)),(71,.v (.aj nk)),(72,.v (.aj Z0)),(73,.v (.aj Z0))],[X1 91,X5 92,(93,.tU dy .aO)],[]⟩
def ak7:List (dN×cf):= [(.ou 6,⟨91,[uf,xh,uf,Z0,Z0,.aO,qE],[(0,.v (.aj uf)),(1,.v (.aj xh)),Xb 4 91,Xb 5 92,(42,.v (.aj uf)),(43,.v (.aj Z0)),(44,.v (.aj Z0))],[X1 91,X5 92,(93,.tU dy .aO)],[]⟩),(.sT,⟨91,[.aO],[Xb 4 91],[X1 91],[]⟩)]
def akE:Ev (ax [.aO]):=mG n (b8 n) aiQ ak7 (y7 n)
theorem anq d again ks:dv (R:=(ax [.aO])) (b8 n) (bT.b (R:=(ax [.aO]))) (iw (lp (iw (lp (bd fb) 1)) 1)) [(λ n=>qX (R:=(ax [.aO])) (b8 n) Z3 dy (vp (lp (iw (lp (iw (lp (bd fb) 1)) 1)) 0)) aac afJ (x5 n)) n] (mk aiQ d) (mL (b8 n) aiQ ak7 again ks)=y7 n d again ks:=by kernel_rfl
theorem amY:eS Rs.FM.Q (bT.b (R:=(ax [.aO]))) false (lp (iw (lp (bd fb) 1)) 1) (akE n):=rk (wH n) Rs.FM.b (by kernel_rfl) (O:= [(λ n=>qX (R:=(ax [.aO])) (b8 n) Z3 dy (vp (lp (iw (lp (iw (lp (bd fb) 1)) 1)) 0)) aac afJ (x5 n)) n]) ⟨anV n,trivial⟩ (anq n)
def aiu:cf:= ⟨91,[uf,xh,nk,Z0,Z0,.aO,qE],[(0,.v (.aj uf)),(1,.v (.aj xh)),Xb 4 91,Xb 5 92,(33,.v (.aj nk)),(34,.v (.aj Z0)),(35,.v (.aj Z0))],[X1 91,X5 92,(93,.tU dy .aO)],[]⟩
def ak6:List (dN×cf):= [(.ou 0,⟨91,[uf,xh,.aO,qE],[(0,.v (.aj uf)),(1,.v (.aj xh)),Xb 4 91,Xb 5 92],[X1 91,X5 92,(93,.tU dy .aO)],[]⟩)]
def akp:Ev (ax [.aO]):=mG n (b8 n) aiu ak6 (aaZ n)
theorem amj d again ks:dv (R:=(ax [.aO])) (b8 n) (bT.b (R:=(ax [.aO]))) (iw (lp (bd fb) 0)) [] (mk aiu d) (mL (b8 n) aiu ak6 again ks)=aaZ n d again ks:=by kernel_rfl
theorem am6:eS Rs.FM.Q (bT.b (R:=(ax [.aO]))) false (lp (bd fb) 0) (akp n):=rk (wH n) Rs.FM.b (by kernel_rfl) (O:= []) trivial (amj n)
def akw:cf:= ⟨91,[uf,xh,uf,Z0,Z0,.aO,qE],[(0,.v (.aj uf)),(1,.v (.aj xh)),Xb 4 91,Xb 5 92,(42,.v (.aj uf)),(43,.v (.aj Z0)),(44,.v (.aj Z0))],[X1 91,X5 92,(93,.tU dy .aO)],[]⟩
def aln:List (dN×cf):= [(.ou 2,⟨91,[.aO],[Xb 4 91],[X1 91],[]⟩),(.sT,⟨91,[.aO],[Xb 4 91],[X1 91],[]⟩)]
def ajx:Ev (ax [.aO]):=mG n (b8 n) akw aln (z7 n)
theorem anW d again ks:dv (R:=(ax [.aO])) (b8 n) (bT.b (R:=(ax [.aO]))) (iw (lp (bd fb) 1)) [aje n,akE n] (mk akw d) (mL (b8 n) akw aln again ks)=z7 n d again ks:=by kernel_rfl
theorem aoc:eS Rs.FM.Q (bT.b (R:=(ax [.aO]))) false (lp (bd fb) 1) (ajx n):=rk (wH n) Rs.FM.b (by kernel_rfl) (O:= [aje n,akE n]) ⟨amf n,amY n,trivial⟩ (anW n)
def ajJ:fc:= ⟨[uf,xh],[],[.aO],λ x y=>afY n x.1 x.2,false⟩
theorem amg(x:ax [uf,xh])(y:ax []):oI (b8 n) fb [uf,xh] [] [.aO] false [akp n,ajx n] x y=(ajJ n).g x y:=by kernel_rfl
theorem anl:jf Rs.FM.Q 254 (ajJ n):=xz (wH n) Rs.FM.b (Rs.FM.a func254 (by kernel_rfl) (by decide)) (by kernel_rfl) (by kernel_rfl) (O:= [akp n,ajx n]) ⟨am6 n,aoc n,trivial⟩ (amg n)
def e79:=(b8 n).a 254 (ajJ n)
theorem h79:Eo (e79 n):=mN (wH n) (anl n)
def agM:a8 (EF×Int×Int×Unit) (EF×Int×Unit) (Bool×Unit) Bool:=λ(l,i,a,_) again (k0,k1,_)=>(aG l i).bind λ e=>bif decide (a< (b2 e:Int))then(aG l i).bind λ b=>(aG b a).bind λ c=>(wX n c).bind λ x=>bif !x then k1 (false,())else again (l,i,(cr .i64 (a+1)),())else k0 (l,i,())
def ag1:a8 (EF×Int×Unit) Unit (Bool×Unit) Bool:=λ(l,i,_) again (k0,k1,_)=>bif decide (i< (b2 l:Int))then(aG l i).bind λ e=>bif decide ((b2 e:Int)>60)then k1 (false,())else cq (agM n) n (l,i,0,()) (λ(b,a,_)=>again (b,(cr .i64 (a+1)),()),λ(c,_)=>k1 (c,()),())else k0 ()
def s61(l:List kj):Option Bool:=bif decide ((b2 l:Int)>12)then some false else cq (ag1 n) n (l,0,()) (λ(_)=>some true,λ(a,_)=>some a,())
def e80:=(e79 n).a 61 ⟨[Lb],[],[.aO],λ x y=>s61 n x,false⟩
theorem h80:Eo (e80 n):=gD Rs.FM (h79 n) func61 (O:= [_]) ⟨B8 n (h79 n) (eN 38 [aT 0 Lb,aT 3 Z0] []) [fq 0 38 [] [],fw 38 [aT 2 .aO] []] (ag1 n) (O:= [_]) ⟨gh n (h79 n) (eN 38 [aT 0 Lb,aT 3 Z0,aT 4 Z0] []) [fq 2 38 [aT 0 Lb,aT 3 Z0] [],fw 38 [aT 2 .aO] []] (agM n),trivial⟩,trivial⟩
def s62(p:bZ×aZ)(t:cn×Z9×Z9)(l:List gH):Option gH:=(vm n p t).bind λ x=>bif x.2 !=0 then some (0,x.2)else x.1.bind λ c=>x.1.bind λ d=>(K2 n c.1 d.2.2 l).bind λ a=>(ud n x.1 a.1).bind λ e=>(vk n e 20).bind λ f=>(C5 n ([a.2.2,f]:List Int)).bind λ b=>bif b !=0 then some (0,b)else some ((b2 l:Int),0)
def e81:=(e80 n).a 62 ⟨[qG,gS,dK],[],[Z0,Z0],λ x y=>s62 n x.1 x.2.1 x.2.2,false⟩
theorem h81:Eo (e81 n):=dw Rs.FM (h80 n) func62
def aeO:o6 (kj×Int×kj×Unit) (kj×Unit) kj:=λ(l,i,out,_) again (k0,_)=>bif decide (i< (b2 l:Int))then(aG l i).bind λ e=>(th n e).bind λ x=>(jk (b2 out+b2 ([x]:List cn))).bind λ u=>again (l,(cr .i64 (i+1)),(out++ ([x]:List cn)),())else k0 (out,())
def s71(l:List cn):Option kj:=cq (aeO n) n (l,0,([]:List cn),()) (λ(a,_)=>some a,())
def e82:=(e81 n).a 71 ⟨[pR],[],[pR],λ x y=>s71 n x,false⟩
theorem h82:Eo (e82 n):=gD Rs.FM (h81 n) func71 (O:= [_]) ⟨gh n (h81 n) (eN 20 [aT 0 pR,(3,.v (.iR 20)),aT 4 Z0] [(20,.jH BW)]) [fq 0 20 [(3,.v (.iR 20))] [(20,.jH BW)]] (aeO n),trivial⟩
def afc:o6 (EF×Int×EF×Unit) (EF×Unit) EF:=λ(l,i,out,_) again (k0,_)=>bif decide (i< (b2 l:Int))then(aG l i).bind λ e=>(s71 n e).bind λ x=>(jk (b2 out+b2 ([x]:List kj))).bind λ u=>again (l,(cr .i64 (i+1)),(out++ ([x]:List kj)),())else k0 (out,())
def s64(l:List kj):Option EF:=cq (afc n) n (l,0,([]:List kj),()) (λ(a,_)=>some a,())
def e83:=(e82 n).a 64 ⟨[Lb],[],[Lb],λ x y=>s64 n x,false⟩
theorem h83:Eo (e83 n):=gD Rs.FM (h82 n) func64 (O:= [_]) ⟨gh n (h82 n) (eN 20 [aT 0 Lb,(3,.v (.iR 20)),aT 4 Z0] [(20,.jH pR)]) [fq 0 20 [(3,.v (.iR 20))] [(20,.jH pR)]] (afc n),trivial⟩
def akf(t:Option EM)(p:JO->Option Bool):Option Int:=(p t).bind λ x=>(vk n x 20).bind λ a=>some a
def e84:=(e83 n).a 119 ⟨[xh,(.dP xh .aO)],[],[Z0],λ x y=>akf n x.1 x.2,false⟩
theorem h84:Eo (e84 n):=dw Rs.FM (h83 n) func119
def agU(n:Nat):o6 (EF×JO×Int×EF×Int×Int×Unit) (EF×JO×Int×Unit) gH:=λ(l,d,size,b,c,a,_) again (k0,_)=>bif decide (a<c)then(aG b a).bind λ e=>again (l,d,(cr .i64 (size+ (b2 e:Int))),b,c,(cr .i64 (a+1)),())else k0 (l,d,size,())
def K9:a8 (EF×JO×EF×Int×Int×kj×Int×Int×qm×uy×Unit) (EF×JO×EF×Int×Int×qm×uy×Unit) (Int×Int×Unit) gH:=λ(l,c,d,f,g,h,i,b,own,a,_) again (k0,k1,_)=>bif decide (b<i)then(aG h b).bind λ e=>c.bind λ x=>(px n x.1 e).bind λ j=>bif j !=0 then k1 (0,j,())else(tj n e).bind λ k=>(jk (b2 a+b2 ([k]:List Z2))).bind λ u=>again (l,c,d,f,g,h,i,(cr .i64 (b+1)),own,(a++ ([k]:List Z2)),())else k0 (l,c,d,f,g,own,a,())
def ack:a8 (EF×JO×EF×Int×Int×qm×Unit) (EF×JO×qm×Unit) (Int×Int×Unit) gH:=λ(l,g,d,f,a,own,_) again (k0,k1,_)=>bif decide (a<f)then(aG d a).bind λ e=>cq (K9 n) n (l,g,d,f,a,e,(b2 e:Int),0,own,([]:List Z2),()) (λ(h,p,i,j,k,c,b,_)=>(jk (b2 c+b2 ([b]:List uy))).bind λ q=>again (h,p,i,j,(cr .i64 (k+1)),(c++ ([b]:List uy)),()),λ(m,o,_)=>k1 (m,o,()),())else k0 (l,g,own,())
def s63(p:bZ×aZ)(t:cn×Z9×Z9)(l:List kj):Option gH:=(vm n p t).bind λ x=>bif x.2 !=0 then some (0,x.2)else cq (agU n) n (l,x.1,(b2 l:Int),l,(b2 l:Int),0,()) (λ(a,h,e,_)=>bif decide (e>4000)then some (0,8)else cq (ack n) n (a,h,a,(b2 a:Int),0,([]:List uy),()) (λ(c,i,d,_)=>(akf n i (λ j=>afY n d j)).bind λ b=>bif b !=0 then some (0,b)else some ((b2 c:Int),0),λ(f,g,_)=>some (f,g),()),())
def e85:=(e84 n).a 63 ⟨[qG,gS,Lb],[],[Z0,Z0],λ x y=>s63 n x.1 x.2.1 x.2.2,false⟩
theorem h85:Eo (e85 n):=gD Rs.FM (h84 n) func63 (O:= [_,_]) ⟨gh n (h84 n) (eN 86 [aT 2 Lb,aT 8 xh,aT 10 Z0,aT 32 Lb,aT 33 Z0,aT 34 Z0] []) [fq 0 86 [aT 2 Lb,aT 8 xh,aT 10 Z0] []] (agU n),B8 n (h84 n) (eN 86 [aT 2 Lb,aT 8 xh,(13,.v (.iR 86)),aT 45 Lb,aT 46 Z0,aT 47 Z0] [(86,.jH nk)]) [fq 2 86 [aT 2 Lb,aT 8 xh,(13,.v (.iR 86))] [(86,.jH nk)],fw 86 [aT 6 Z0,aT 7 Z0] []] (ack n) (O:= [_]) ⟨gh n (h84 n) (eN 86 [aT 2 Lb,aT 8 xh,(13,.v (.iR 86)),(16,.v (.iR 87)),aT 45 Lb,aT 46 Z0,aT 47 Z0,aT 51 pR,aT 52 Z0,aT 53 Z0] [(86,.jH nk),(87,.jH dy)]) [fq 4 86 [aT 2 Lb,aT 8 xh,(13,.v (.iR 86)),(16,.v (.iR 87)),aT 45 Lb,aT 46 Z0,aT 47 Z0] [(86,.jH nk),(87,.jH dy)],fw 86 [aT 6 Z0,aT 7 Z0] []] (K9 n),trivial⟩,trivial⟩
def s65(p:bZ×aZ)(t:cn×Z9×Z9)(l:List gH):Option Int:=(K4 n p t.1 l).bind λ x=>bif x.2.2 !=0 then some x.2.2 else(wS n t x.1).bind λ a=>bif !a then some 20 else some 0
def e86:=(e85 n).a 65 ⟨[qG,gS,dK],[],[Z0],λ x y=>s65 n x.1 x.2.1 x.2.2,false⟩
theorem h86:Eo (e86 n):=dw Rs.FM (h85 n) func65
def aku:a8 (kj×Int×bZ×aZ×Unit) Unit (Int×Unit) Int:=λ(l,i,p,a,_) again (k0,k1,_)=>bif decide (i< (b2 l:Int))then(aG l i).bind λ e=>(sM n (p,a) e).bind λ x=>bif x !=0 then k1 (x,())else again (l,(cr .i64 (i+1)),p,a,())else k0 ()
def abJ(p:bZ×aZ)(l:List cn):Option Int:=cq (aku n) n (l,0,p.1,p.2,()) (λ(_)=>some 0,λ(a,_)=>some a,())
def e87:=(e86 n).a 120 ⟨[qG,pR],[],[Z0],λ x y=>abJ n x.1 x.2,false⟩
theorem h87:Eo (e87 n):=gD Rs.FM (h86 n) func120 (O:= [_]) ⟨gh n (h86 n) (eN 22 [aT 1 pR,Xb 2 22,aT 5 Z0] [X0 22]) [fq 0 22 [] [],fw 22 [aT 4 Z0] []] (aku n),trivial⟩
def agp:a8 (kj×Int×Z9×Z9×Unit) Unit (Bool×Unit) Bool:=λ(l,i,s,a,_) again (k0,k1,_)=>bif decide (i< (b2 l:Int))then(aG l i).bind λ e=>(Mn n e (s,a)).bind λ x=>bif x then k1 (true,())else again (l,(cr .i64 (i+1)),s,a,())else k0 ()
def TV(l:List cn)(s:Z9×Z9):Option Bool:=cq (agp n) n (l,0,s.1,s.2,()) (λ(_)=>some false,λ(a,_)=>some a,())
def e88:=(e87 n).a 121 ⟨[pR,BW],[],[.aO],λ x y=>TV n x.1 x.2,false⟩
theorem h88:Eo (e88 n):=gD Rs.FM (h87 n) func121 (O:= [_]) ⟨gh n (h87 n) (eN 18 [aT 0 pR,Xb 3 18,aT 5 Z0] [X2 18]) [fq 0 18 [] [],fw 18 [aT 4 .aO] []] (agp n),trivial⟩
def acw:a8 (kj×aZ×Int×bZ×aZ×Z9×Z9×Unit) Unit (Bool×Unit) Bool:=λ(l,m,i,p,a,s,b,_) again (k0,k1,_)=>bif decide (i< (b2 m:Int))then(aG m i).bind λ e=>(u9 n (p,a) (s,b) e).bind λ x=>(TV n l x).bind λ c=>bif !c then k1 (false,())else again (l,m,(cr .i64 (i+1)),p,a,s,b,())else k0 ()
def TH(p:bZ×aZ)(s:Z9×Z9)(l:List cn):Option Bool:=(zY n p s).bind λ x=>cq (acw n) n (l,x,0,p.1,p.2,s.1,s.2,()) (λ(_)=>some true,λ(a,_)=>some a,())
def e89:=(e88 n).a 122 ⟨[qG,BW,pR],[],[.aO],λ x y=>TH n x.1 x.2.1 x.2.2,false⟩
theorem h89:Eo (e89 n):=gD Rs.FM (h88 n) func122 (O:= [_]) ⟨gh n (h88 n) (eN 28 [aT 2 pR,Xb 3 28,Xb 4 29,aT 7 dK,aT 8 Z0] [X0 28,X2 29]) [fq 0 28 [] [],fw 28 [aT 6 .aO] []] (acw n),trivial⟩
def agG(n:Nat):o6 (EF×Int×Int×bZ×aZ×Z9×Z9×Z9×Z9×Unit) (EF×Int×bZ×aZ×Z9×Z9×Z9×Z9×Unit) Int:=λ(l,all,a,p,b,t,c,d,f,_) again (k0,_)=>bif decide (a< (b2 l:Int))then(aG l a).bind λ e=>again (l,(cr .i64 (all+ (b2 e:Int))),(cr .i64 (a+1)),p,b,t,c,d,f,())else k0 (l,all,p,b,t,c,d,f,())
def agV:a8 (EF×Int×bZ×aZ×Z9×Z9×Z9×Z9×Unit) (EF×bZ×aZ×Z9×Z9×Z9×Z9×Unit) (Int×Unit) Int:=λ(l,b,p,a,t,c,d,f,_) again (k0,k1,_)=>bif decide (b< (b2 l:Int))then(aG l b).bind λ e=>(abJ n (p,a) e).bind λ x=>bif x !=0 then k1 (x,())else again (l,(cr .i64 (b+1)),p,a,t,c,d,f,())else k0 (l,p,a,t,c,d,f,())
def K6:a8 (EF×Int×Int×bZ×aZ×Z9×Z9×Z9×Z9×kj×Unit) (EF×Int×bZ×aZ×Z9×Z9×Z9×Z9×kj×Unit) (Int×Unit) Int:=λ(l,a,i,p,c,t,d,f,g,b,_) again (k0,k1,_)=>(aG l a).bind λ e=>bif decide (i< (b2 e:Int))then(aG l a).bind λ h=>(aG h i).bind λ j=>(wS n ((t,d),f,g) j).bind λ x=>(bI ((!x)&& (decide ((cr .i64 (a+1))< (b2 l:Int)))) (aG l a) []).bind λ k=>(bI ((!x)&& (decide ((cr .i64 (a+1))< (b2 l:Int)))) (aG k i) ([],[])).bind λ m=>(bI ((!x)&& (decide ((cr .i64 (a+1))< (b2 l:Int)))) (TH n (p,c) m b) false).bind λ o=>bif x|| ((decide ((cr .i64 (a+1))< (b2 l:Int)))&& (!o))then k1 (20,())else again (l,a,(cr .i64 (i+1)),p,c,t,d,f,g,b,())else k0 (l,a,p,c,t,d,f,g,b,())
def K8:a8 (EF×Int×bZ×aZ×Z9×Z9×Z9×Z9×kj×Unit) Unit (Int×Unit) Int:=λ(l,a,p,c,t,d,f,g,b,_) again (k0,k1,_)=>bif decide (a< (b2 l:Int))then bif decide ((cr .i64 (a+1))< (b2 l:Int))then(aG l (cr .i64 (a+1))).bind λ e=>(jk (b2 b+b2 e)).bind λ u=>cq (K6 n) n (l,a,0,p,c,t,d,f,g,(b++e),()) (λ(j,E,m,o,C,D,w,x,h,_)=>again (j,(cr .i64 (E+1)),m,o,C,D,w,x,h,()),λ(s,_)=>k1 (s,()),())else cq (K6 n) n (l,a,0,p,c,t,d,f,g,b,()) (λ(k,F,q,r,y,z,A,B,i,_)=>again (k,(cr .i64 (F+1)),q,r,y,z,A,B,i,()),λ(v,_)=>k1 (v,()),())else k0 ()
def s66(p:bZ×aZ)(t:cn×Z9×Z9)(l:List kj):Option Int:=cq (agG n) n (l,(b2 l:Int),0,p.1,p.2,t.1.1,t.1.2,t.2.1,t.2.2,()) (λ(g,e,h,i,s,v,w,x,_)=>bif decide (e>4000)then some 8 else cq (agV n) n (g,0,h,i,s,v,w,x,()) (λ(a,j,k,c,d,q,r,_)=>(bI (!((b2 a:Int)==0)) (aG a 0) []).bind λ f=>(bI (!((b2 a:Int)==0)) (TV n f (c,d)) false).bind λ y=>bif ((b2 a:Int)==0)|| (!y)then some 20 else(aG a 0).bind λ b=>(jk (b2 ([]:List cn)+b2 b)).bind λ u=>cq (K8 n) n (a,0,j,k,c,d,q,r,(([]:List cn)++b),()) (λ(_)=>some 0,λ(m,_)=>some m,()),λ(o,_)=>some o,()),())
def e90:=(e89 n).a 66 ⟨[qG,gS,Lb],[],[Z0],λ x y=>s66 n x.1 x.2.1 x.2.2,false⟩
theorem h90:Eo (e90 n):=gD Rs.FM (h89 n) func66 (O:= [_,_,_]) ⟨gh n (h89 n) (eN 119 [aT 2 Lb,Xb 3 119,Xb 4 120,aT 7 Z0,aT 8 Z0] [X0 119,X4 120]) [fq 0 119 [aT 2 Lb,Xb 3 119,Xb 4 120,aT 7 Z0] [X0 119,X4 120]] (agG n),gh n (h89 n) (eN 119 [aT 2 Lb,Xb 3 119,Xb 4 120,aT 9 Z0] [X0 119,X4 120]) [fq 2 119 [aT 2 Lb,Xb 3 119,Xb 4 120] [X0 119,X4 120],fw 119 [aT 6 Z0] []] (agV n),B8 n (h89 n) (eN 119 [aT 2 Lb,Xb 3 119,Xb 4 120,(11,.v (.iR 121)),aT 12 Z0] [X0 119,X4 120,(121,.jH BW)]) [fq 4 119 [] [],fw 119 [aT 6 Z0] []] (K8 n) (O:= [_]) ⟨gh n (h89 n) (eN 119 [aT 2 Lb,Xb 3 119,Xb 4 120,(11,.v (.iR 121)),aT 12 Z0,aT 13 Z0] [X0 119,X4 120,(121,.jH BW)]) [fq 6 119 [aT 2 Lb,Xb 3 119,Xb 4 120,(11,.v (.iR 121)),aT 12 Z0] [X0 119,X4 120,(121,.jH BW)],fw 119 [aT 6 Z0] []] (K6 n),trivial⟩,trivial⟩
def s11(p:bZ×aZ)(t:cn×Z9×Z9)(x:aZ×EF):Option Bool:=(FJ n).bind λ i=>bif !i then some false else(xB n p).bind λ c=>(bI (!(!c)) (zS n t) false).bind λ g=>(bI (!((!c)|| (!g))) (s48 n x.1) false).bind λ h=>(bI (!(((!c)|| (!g))|| (!h))) (s61 n x.2) false).bind λ m=>bif (((!c)|| (!g))|| (!h))|| (!m)then some true else(wL n p).bind λ o=>(xf n t).bind λ q=>(s50 n x.1).bind λ r=>(s62 n o q r).bind λ b=>(wL n p).bind λ j=>(xf n t).bind λ k=>(s64 n x.2).bind λ l=>(s63 n j k l).bind λ a=>(AT n p t).bind λ d=>bif d !=0 then some ((((b.2==d)&& (a.2==d))&& (b.1==0))&& (a.1==0))else(s65 n p t x.1).bind λ e=>(s66 n p t x.2).bind λ f=>bif (((((b.2 !=e)|| (a.2 !=f))|| ((e==0)&& (b.1 !=(b2 x.1:Int))))|| ((e !=0)&& (b.1 !=0)))|| ((f==0)&& (a.1 !=(b2 x.2:Int))))|| ((f !=0)&& (a.1 !=0))then some false else some (((b.2 !=0)|| (a.2 !=0))|| (decide (b.1>=a.1)))
def ac1:fc:= ⟨[qG,gS,Z62],[],[.aO],λ x y=>s11 n x.1 x.2.1 x.2.2,false⟩
theorem amV(x:ax [qG,gS,Z62])(y:ax []):oI (e90 n) f11 [qG,gS,Z62] [] [.aO] false [] x y=(ac1 n).g x y:=by kernel_rfl
theorem alk:jf Rs.FM.Q 11 (ac1 n):=xz (h90 n) Rs.FM.b (Rs.FM.a func11 (by kernel_rfl) (by decide)) (by kernel_rfl) (by kernel_rfl) (O:= []) trivial (amV n)
def e91:=(e90 n).a 11 (ac1 n)
theorem h91:Eo (e91 n):=mN (h90 n) (alk n)
end
theorem acS(m:Nat):FJ (m+2000)=some true:=by kernel_rfl
section
local instance:Dr:= ⟨false⟩
abbrev wO:=List UInt8
abbrev Vs:=wO×Int
abbrev Pl:=List Vs×List (Int×Int)
abbrev St:=List Int×List Int
abbrev Tk:=St×St
def jh(l:List Int):Int:=(l.find? λ e=>e !=0).getD 0
def ia(b:Bool)(e:Int):Int:=bif b then 0 else e
def cy(x lo a:Int):Bool:=decide (lo<=x)&&decide (x<=a)
theorem tP(n:Nat)(b:Bool)(e:Int):vk n b e=some (ia b e):=by cases b<;>rfl
theorem Ra(n:Nat)(x lo a:Int):H2 n x lo a=some (cy x lo a):=rfl
theorem EO(n:Nat)(x lo a:Int):qg n x lo a=some (cy x lo a):=rfl
theorem afC(n:Nat)(x:Int):EJ n x=some (cy x 1 50):=rfl
theorem Pt(n:Nat)(x:Int):Dy n x=some (cy x 0 3):=rfl
theorem jv{α:Type}(b:Bool)(x d:α):bI b (some x) d=some (bif b then x else d):=by cases b<;>rfl
theorem OH{n:Nat}(l:List Int)(a:l.length<n)(b:l.length<=ea):C5 n l=some (jh l):=by
 refine iy (n:=n) l (λ i=>(l,((b2 l):Int),(i:Int),())) (λ i r=>some (jh r)) b ?_ ?_ a
 all_goals grind[h1,h2,h5,h6,Hv,jh]
theorem BO{n:Nat}(c:1000<=n)(a b:Int):C5 n [a,b]=some (jh [a,b]):=OH _ (by simp;omega) (by simp[ea])
theorem QD{n:Nat}(d:1000<=n)(a b c:Int):C5 n [a,b,c]=some (jh [a,b,c]):=OH _ (by simp;omega) (by simp[ea])
def AJ(b:Bool)(c:Int):Bool:=(!(((decide (c>=97))&& (decide (c<=122)))|| ((decide (c>=65))&& (decide (c<=90)))))&& (b|| ((c !=45)&& ((decide (c<48))|| (decide (c>57)))))
def xo:Bool->wO->Bool
 |_,[]=>true
 |b,c::r=>!AJ b ((eb c:Nat):Int)&&xo false r
def rQ(s:wO):Bool:=(decide (1<=s.length)&&decide (s.length<=12))&&xo true s
theorem FK(i:Nat):((i:Int)==(0:Int))=decide (i=0):=by
 grind
theorem VF{n:Nat}(d:1000<=n)(s:wO):EH n s=some (rQ s):=by
 unfold EH rQ;by_cases a:1<=s.length
 ·by_cases b:s.length<=12
  ·rw[(decide_eq_false (by omega)),(decide_eq_false (by omega)),decide_eq_true a,decide_eq_true b];simp only[ep,cond_false,Bool.true_and];have:=iy (n:=n) (body:=yx n) (ks:=(λ(_)=>some (true),λ(c,_)=>some (c),())) s (λ i=>(s,(i:Int),())) (λ i r=>some (xo (decide (i=0)) r)) (by unfold ea;omega) ?_ ?_ (by omega)
   all_goals grind[AJ,decide,eb,FK,yx,xo]
  grind
 grind
theorem acJ{n:Nat}(s:wO)(f:s.length<n)(d:s.length<=ea):B9 n s=some (rQ s):=by
 unfold B9 rQ;have t:kv s=s.map λ c=>((eb c:Nat):Int):=rfl;have u:(kv s).length=s.length:=by grind
 have:=iy (n:=n) (body:=yM n) (ks:=(λ(b,_)=>some ((((b:List UInt8) != [])&& (decide (((b2 b:Nat):Int)<=(12:Int))))),λ(g,_)=>some (g),())) s
  (λ i=>(s,kv s,((b2 (kv s):Nat):Int),(i:Int),())) (λ i r=>some (xo (decide (i=0)) r&& (((s:List UInt8) != [])&& (decide (((b2 s:Nat):Int)<=(12:Int)))))) d ?_ ?_ f
 ·grind[decide]
 ·intro i x r h j k l o q again v;have m:aG (kv s) (i:Int)=some ((eb x:Nat):Int):=by
   grind[oR]
  have p:decide ((i:Int)< ((b2 (kv s):Nat):Int))=true:=by grind
  have e:AJ (decide (i=0)) ((eb x:Nat):Int)=((!(((decide (((eb x:Nat):Int)>=(97:Int)))&& (decide (((eb x:Nat):Int)<=(122:Int))))|| ((decide (((eb x:Nat):Int)>=(65:Int)))&& (decide (((eb x:Nat):Int)<=(90:Int))))))&& (((i:Int)==(0:Int))|| ((((eb x:Nat):Int) !=(45:Int))&& ((decide (((eb x:Nat):Int)< (48:Int)))|| (decide (((eb x:Nat):Int)>(57:Int))))))):=by
   rw[FK];rfl
  grind[yM,xo,AJ,decide,eb]
 ·intro a again;have a':decide ((s.length:Int)< ((b2 (kv s):Nat):Int))=false:=by grind
  simp only[yM,a',cond_false];rfl
theorem ahd{n:Nat}(l:List Vs)(name:wO)(a:l.length<n)(b:l.length<=ea):∃q,vV n l name=some q/\decide (q<0)=!(l.any λ x=>x.1==name):=by
 have:=iy (n:=n) (body:=xO n) (ks:=(λ(_)=>some ((-1:Int)),λ(c,_)=>some (c),())) l (λ i=>(l,(λ(d:Vs)=>some (d.1==name)),((b2 l:Nat):Int),(i:Int),()))
  (λ i r=>some (match r.findIdx? λ x=>x.1==name with|some k=>((i+k:Nat):Int)|none=> -1)) b ?_ ?_ a
 ·refine⟨match l.findIdx? λ x=>x.1==name with|some k=>((0+k:Nat))|none=> -1,?_,?_⟩
  ·simp_all[vV,IH,Jr]
  grind
 all_goals grind[h1,h2,h5,h6,xO]
theorem V1{n:Nat}(l:List (Int×Int))(v:Int×Int)(a:l.length<n)(b:l.length<=ea):∃q,yf n l v=some q/\(decide (q>=0))=decide (v∈l):=by
 unfold yf;have:=iy (n:=n) (body:=yp n) (ks:=(λ(_)=>some ((-1:Int)),λ(c,_)=>some (c),())) l (λ i=>(l,((b2 l:Nat):Int),(i:Int),v.1,v.2,()))
  (λ i r=>some (match r.findIdx? λ e=>e==v with|some k=>((i+k:Nat):Int)|none=> -1)) b ?_ ?_ a
 all_goals grind[h1,h2,h5,h6,yp]
theorem afi{n:Nat}(l:List (Int×Int))(v:Int×Int)(a:l.length<n)(b:l.length<=ea):BY n l v=some (decide (v∈l)):=by
 obtain⟨q,c,d⟩:=V1 l v a b;grind[BY]
end
end
section
local instance:Dr:= ⟨false⟩
def wi(pre:List Vs)(v:Vs):Int:=jh [ia (rQ v.1) 4,ia (!(pre.any λ x=>x.1==v.1)) 5,ia (cy v.2 1 50) 2]
def ix:Nat->List Vs->List Vs->Int×Int
 |_,_,[]=>(0,0)
 |i,pre,v::r=>bif wi pre v==0 then ix (i+1) (pre++ [v]) r else((i:Int),wi pre v)
def sx(m:Int)(pre:List (Int×Int))(h:Int×Int):Int:=jh [ia (cy h.1 0 (m- 1)&&cy h.2 0 (m- 1)) 6,ia (h.1 !=h.2) 11,ia (!(decide (h∈pre))) 26]
def iq(m:Int):Nat->List (Int×Int)->List (Int×Int)->Int×Int
 |_,_,[]=>(0,0)
 |i,pre,h::r=>bif sx m pre h==0 then iq m (i+1) (pre++ [h]) r else((i:Int),sx m pre h)
def mQ(p:Pl):Int×Int:=
 bif decide (p.1.length=0)then(0,10)else bif decide (6<p.1.length)then(0,8)else
  bif (ix 0 [] p.1).2==0 then(bif decide (30<p.2.length)then(0,8)else iq p.1.length 0 [] p.2)else ix 0 [] p.1
structure jg(p:Pl):Prop where
 v:p.1.length<=8
 h:p.2.length<=32
 n:∀v∈p.1,v.1.length<=20
theorem Tg(a b c:Int):jh [a,b,c]=bif a !=0 then a else bif b !=0 then b else c:=by
 grind[jh]
theorem Jo(a b:Int):jh [a,b]=bif a !=0 then a else b:=by
 grind[jh]
theorem an0:(l:List Vs)->(i:Nat)->(pre:List Vs)->((ix i pre l).2==0)=true->ix i pre l=(0,0)
 | [],_,_,_=>rfl
 |v::r,i,pre,h=>by
  simp only[ix]at h⊢;cases a:(wi pre v==0)
  ·grind
  ·rw[a]at h;exact an0 r _ _ h
theorem Hh(m:Int):(l:List (Int×Int))->(i:Nat)->(pre:List (Int×Int))->((iq m i pre l).2==0)=true->iq m i pre l=(0,0)
 | [],_,_,_=>rfl
 |v::r,i,pre,h=>by
  simp only[iq]at h⊢;cases a:(sx m pre v==0)
  ·grind
  ·rw[a]at h;exact Hh m r _ _ h
theorem BD{α:Type}{l:List α}{i:Nat}{x:α}(h:l[i]?=some x):l.take (i+1)=l.take i++ [x]:=by grind[List.take_add_one]
theorem SF{α:Type}{l:List α}(h:l.length<=1000):cr .i64 (((b2 l:Nat):Int)- 1)=(l.length:Int)- 1:=by rw[nu]<;>omega
theorem aoz{m:Nat}(h:m<=1000):cr .i64 ((m:Int)- 1)=(m:Int)- 1:=by rw[nu]<;>omega
theorem i2(a b:Int):aG [a,b] 0=some a/\aG [a,b] 1=some b:= ⟨rfl,rfl⟩
theorem r2:cQ (0:Int) 2=some ()/\cQ (1:Int) 2=some ():= ⟨rfl,rfl⟩
theorem aiO{n:Nat}(e:1000<=n){p:Pl}(hp:jg p)(k0:List Vs×List (Int×Int)×Unit->Option (Int×Int))(k1:Int×Int×Unit->Option (Int×Int)):
 cq (Au n) n (p.1,((b2 p.1:Nat):Int),(0:Int),p.1,p.2,()) (k0,k1,())=bif (ix 0 [] p.1).2==0 then k0 (p.1,p.2,())else k1 ((ix 0 [] p.1).1,(ix 0 [] p.1).2,()):=by
 have k:=hp.v;refine iy _ (λ i=>(p.1,((b2 _):Int),(i:Int),p.1,p.2,())) (λ i r=>bif (ix i (p.1.take i) r).2==0 then k0 _ else k1 ((ix i (p.1.take i) r).1,(ix i (p.1.take i) r).2,())) (by unfold ea;omega) ?_ ?_ (by omega)
 ·intro i x r h a j b c d again m;have l:=hp.n x (dr a);obtain⟨q,f,g⟩:=ahd (n:=n) (p.1.take i) x.1 (by grind) (by simp[ea];omega);simp only[Au,c,cond_true,b,df,d,xV p.1 i (by omega),acJ (n:=n) x.1 (by omega) (by unfold ea;omega),tP,f,g,afC,QD e];grind[wi,ix]
 grind[Au,ix]
theorem ab7{n:Nat}(e:1000<=n){p:Pl}(hp:jg p)(k0:Unit->Option (Int×Int))(k1:Int×Int×Unit->Option (Int×Int)):
 cq (Ag n) n (p,(λ f=>vO n f p),p.2,((b2 p.2:Nat):Int),(0:Int),()) (k0,k1,())=bif (iq p.1.length 0 [] p.2).2==0 then k0 ()else k1 ((iq p.1.length 0 [] p.2).1,(iq p.1.length 0 [] p.2).2,()):=by
 have k:=hp.h;have l:=hp.v;have a:∀z,vO n z p=some (cy z 0 ((p.1.length:Int)- 1)):=λ z=>by
  show(H2 n z 0 (cr _ (((b2 p.1))- 1))).bind _=_;rw[SF (by omega)];rfl
 rw[(funext a)];refine iy _ (λ i=>(p,(λ z=>some (cy z 0 _)),p.2,((b2 _):Int),(i:Int),())) (λ i r=>bif (iq _ i (p.2.take i) r).2==0 then k0 _ else k1 ((iq _ i (p.2.take i) r).1,(iq _ i (p.2.take i) r).2,())) (by unfold ea;omega) ?_ ?_ (by omega)
 ·intro i x r g h j b c d again m;simp only[Ag,c,cond_true,b,df,d,r2.1,r2.2,(i2 x.1 x.2).1,(i2 x.1 x.2).2,jv,tP,xV p.2 i (by omega),afi (n:=n) (p.2.take i) x (by grind) (by simp[ea];omega),QD e];grind[sx,iq]
 grind[Ag,iq]
theorem gt0(m:Nat):decide ((m:Int)>(0:Int))=!decide (m=0):=by
 grind
theorem YO(m k:Nat):decide ((m:Int)<=(k:Int))=!decide (k<m):=by
 grind
theorem Ig(m k:Nat):decide ((m:Int)>(k:Int))=decide (k<m):=by
 simp
theorem Ym{n:Nat}(a:1000<=n){p:Pl}(hp:jg p):xg n p=some (mQ p):=by
 unfold xg mQ;rw[tP,df,tP,df,BO a,df,gt0,show decide (p.1.length<=(6:Int))=!decide _ from YO _ 6];cases h0:decide (p.1.length=0)with
 |true=>
  rfl
 |false=>
  cases b:decide (6<p.1.length)with
  |true=>rfl
  |false=>
   simp only[ee,ia,cond_true,cond_false];grind[jh,bne_self_eq_false,aiO,ix,decide,b2,Ig,FF,ab7,iq,Hh]
theorem aoB{α:Type}{l:List α}{k:Nat}{x:α}(h:l[k]?=some x)(f:α->Bool):(l.take (k+1)).any f=((l.take k).any f||f x):=by
 simp_all[BD]
theorem Km{D a R:Type}{body:D->(D->Option R)->a->Option R}{ks:a}{α:Type}{n:Nat}(l:List α)(i:Nat)(c:i<=l.length)(f:α->Bool)(F:Nat->D)(yes no:Option R)(d:i<=ea)(g:i<n)
 (h:∀k x,k<i->l[k]?=some x->decide ((k:Int)< (i:Int))=true->cr .i64 ((k:Int)+1)=((k+1:Nat):Int)->aG l (k:Int)=some x->∀again,body (F k) again ks=bif f x then yes else again (F (k+1)))
 (b:decide ((i:Int)< (i:Int))=false->∀again,body (F i) again ks=no):cq body n (F 0) ks=bif (l.take i).any f then yes else no:=by
 have e:(l.take i).length=i:=by grind
 have:=iy (n:=n) (body:=body) (ks:=ks) (l.take i) F (λ _ r=>bif r.any f then yes else no) (by omega) ?_ ?_ (by omega)
 all_goals grind[h1,h2,h5,h6,oR]
theorem air{n:Nat}(e:1000<=n){p:Pl}(hp:jg p)(k0:List Vs×List (Int×Int)×Unit->Option (Int×Int))(k1:Int×Int×Unit->Option (Int×Int)):
 cq (yU n) n ((0:Int),p.1,p.2,()) (k0,k1,())=bif (ix 0 [] p.1).2==0 then k0 (p.1,p.2,())else k1 ((ix 0 [] p.1).1,(ix 0 [] p.1).2,()):=by
 have u:=hp.v;refine iy _ (λ i=>((i:Int),p.1,p.2,())) (λ i r=>bif (ix i (p.1.take i) r).2==0 then k0 _ else k1 ((ix i (p.1.take i) r).1,(ix i (p.1.take i) r).2,())) (by unfold ea;omega) ?_ ?_ (by omega)
 ·intro i x r m o q c d s again v;simp only[yU,d,cond_true,c,df,VF e];simp only[ix];have a:wi (p.1.take i) x=bif !rQ x.1 then 4 else bif (p.1.take i).any λ y=>y.1==x.1 then 5 else bif !cy x.2 1 50 then 2 else 0:=by
   unfold wi;cases rQ x.1<;>cases(p.1.take i).any (λ y=>y.1==x.1)<;>cases cy x.2 1 50<;>rfl
  rw[a];cases t:rQ _ with
  |false=>rfl
  |true=>
   simp only[dk,cond_false];refine(Km (n:=n) (body:=Ak n) p.1 i (by omega) (λ y=>y.1==x.1) (λ k=>(i,k,p.1,p.2,())) (k1 (i,5,())) (bif !cy x.2 1 50 then k1 (i,2,())else again (((i+1:Nat)),p.1,p.2,())) (by unfold ea;omega) (by omega)
    (λ k y f g h j l again=>by grind[Ak]) (λ b again=>by grind[Ak,EO])).trans ?_
   grind
 grind[yU,ix]
theorem adi{n:Nat}(B:1000<=n){p:Pl}(hp:jg p)(k0:Unit->Option (Int×Int))(k1:Int×Int×Unit->Option (Int×Int)):
 cq (zm n) n ((0:Int),p.1,p.2,()) (k0,k1,())=bif (iq p.1.length 0 [] p.2).2==0 then k0 ()else k1 ((iq p.1.length 0 [] p.2).1,(iq p.1.length 0 [] p.2).2,()):=by
 have w:=hp.h;have C:=hp.v;refine iy _ (λ i=>((i:Int),p.1,p.2,())) (λ i r=>bif (iq _ i (p.2.take i) r).2==0 then k0 _ else k1 ((iq _ i (p.2.take i) r).1,(iq _ i (p.2.take i) r).2,())) (by unfold ea;omega) ?_ ?_ (by omega)
 ·intro i x r q s t e f u again D;have c:∀z,zF n p z=some (cy z 0 ((p.1.length:Int)- 1)):=λ z=>by
   show(qg n z 0 (cr _ (((b2 p.1))- 1))).bind _=_;rw[SF (by omega)];rfl
  simp only[zm,f,cond_true,e,df,r2.1,r2.2,(i2 x.1 x.2).1,(i2 x.1 x.2).2,c,jv];simp only[iq];have g:((p.2.take i).any λ y=>y.1==x.1&&y.2==x.2)=decide (x∈p.2.take i):=by
   grind
  have d:sx p.1.length (p.2.take i) x=bif !(cy x.1 0 ((p.1.length:Int)- 1))||!(cy x.2 0 ((p.1.length:Int)- 1))then 6 else bif x.1==x.2 then 11 else bif (p.2.take i).any λ y=>y.1==x.1&&y.2==x.2 then 26 else 0:=by
   unfold sx;rw[Tg,g];simp only[bne];cases cy x.1 0 ((p.1.length:Int)- 1)<;>cases cy x.2 0 ((p.1.length:Int)- 1)<;>cases(x.1==x.2)<;>cases decide (x∈p.2.take i)<;>rfl
  rw[d];have a:((!(cy x.1 0 ((p.1.length:Int)- 1)))||!(bif !(!(cy x.1 0 ((p.1.length:Int)- 1)))then cy (bif !(!(cy x.1 0 ((p.1.length:Int)- 1)))then x.2 else 0) 0 ((p.1.length:Int)- 1)else false))=(!(cy x.1 0 ((p.1.length:Int)- 1))||!(cy x.2 0 ((p.1.length:Int)- 1))):=by
   grind
  rw[a];cases A:(!(cy _ 0 _)||!(cy _ 0 _))with
  |true=>rfl
  |false=>
   simp only[cond_false];cases v:(x.1==x.2)with
   |true=>rfl
   |false=>
    simp only[cond_false];refine(Km (n:=n) (body:=yj n) p.2 i (by omega) (λ y=>y.1==x.1&&y.2==x.2) (λ k=>(i,k,p.1,p.2,x.1,x.2,())) (k1 (i,26,())) (again (((i+1:Nat)),p.1,p.2,())) (by unfold ea;omega) (by omega)
     (λ k y h j l m o again=>by grind[yj]) (λ b again=>by grind[yj])).trans ?_
    grind
 grind[zm,iq]
theorem v46{n:Nat}(a:1000<=n){p:Pl}(hp:jg p):xy n p=some (mQ p):=by
 unfold xy mQ;grind[FK,decide,b2,Ig,h0,h6,air,ix,FF,adi,iq,Hh]
theorem v87{n:Nat}(a:1000<=n){p:Pl}(hp:jg p):tx n p=some (p,(mQ p).2):=by
 grind[tx,Ym]
end
section
local instance:Dr:= ⟨false⟩
theorem yG(a b:Nat):((a:Int) !=(b:Int))=!decide (a=b):=by
 grind
theorem LY(a b:Nat):((a:Int)==(b:Int))=decide (a=b):=by
 grind
theorem kG{α:Type}{s:List α}{i:Nat}(h:i<s.length):∃c,aG s (i:Int)=some c/\s.drop i=c::s.drop (i+1)/\s[i]?=some c:= ⟨s[i],by rw[oR,fu h],by simp_all,by grind⟩
def qV(z c w:Int):Int:=jh [ia (cy c 0 z&&cy w 0 3) 2,ia ((c==0)==(w==0)) 13]
def xr:List Vs->List Int->List Int->Int
 |v::vs,c::cs,w::ws=>bif qV v.2 c w==0 then xr vs cs ws else qV v.2 c w
 |_,_,_=>0
def j5(p:Pl)(s:St):Int:=bif decide (s.1.length=p.1.length)&&decide (s.2.length=p.1.length)then xr p.1 s.1 s.2 else 10
theorem Sr(v:Vs)(vs:List Vs)(c w:Int)(cs a:List Int):xr (v::vs) (c::cs) (w::a)=bif qV v.2 c w==0 then xr vs cs a else qV v.2 c w:=rfl
theorem SZ{n:Nat}(j:1000<=n){p:Pl}(hp:jg p)(s:St):px n p s=some (j5 p s):=by
 have u:=hp.v;unfold px j5;rw[show IY n _=some ((b2 p.1):Int)from rfl];simp only[df,jv,yG];cases f:decide (s.1.length=p.1.length)with
 |false=>rfl
 |true=>
  simp only[dk,ee,cond_true,gE,Bool.true_and,yG];cases g:decide (s.2.length=p.1.length)with
  |false=>rfl
  |true=>
   simp only[dk,cond_false,cond_true];have q:=of_decide_eq_true f;have t:=of_decide_eq_true g;refine iy _ (λ i=>(p.1,((b2 p.1):Int),(i:Int),s.1,s.2,())) (λ i r=>some (xr r (s.1.drop i) (s.2.drop i))) (by unfold ea;omega) ?_ ?_ (by omega)
   ·intro i x r l m o a b d again k;obtain⟨c,e,c2,_⟩:=kG (s:=s.1) (i:=i) (by omega);obtain⟨w,w1,w2,_⟩:=kG (s:=s.2) (i:=i) (by omega);simp only[Co,b,cond_true,a,e,w1,df,d,Ra,Pt,jv,tP,BO j,k,c2,w2,Sr];grind[qV]
   ·intro h again;simp only[Co,h,cond_false];rfl
theorem Mc{n:Nat}(u:1000<=n){p:Pl}(hp:jg p)(s:St):sM n p s=some (j5 p s):=by
 have v:=hp.v;unfold sM j5;simp only[yG];cases f:decide (s.1.length=p.1.length)with
 |false=>rfl
 |true=>
  cases g:decide (s.2.length=p.1.length)with
  |false=>rfl
  |true=>
   simp only[dk,ep,cond_false,et,cond_true];have o:=of_decide_eq_true f;have q:=of_decide_eq_true g;refine iy _ (λ i=>((i:Int),p.1,p.2,s.1,s.2,())) (λ i r=>some (xr r (s.1.drop i) (s.2.drop i))) (by unfold ea;omega) ?_ ?_ (by omega)
   ·intro i x r k l m a b d again j;obtain⟨c,e,c2,_⟩:=kG (s:=s.1) (i:=i) (by omega);obtain⟨w,w1,w2,_⟩:=kG (s:=s.2) (i:=i) (by omega);simp only[DI,b,cond_true,a,e,w1,df,d,EO,jv,j,c2,w2,Sr];have t:qV x.2 c w=bif !(cy c 0 x.2)||!(cy w 0 3)then 2 else bif !((w==0)==(c==0))then 13 else 0:=by
     unfold qV;cases cy c 0 x.2<;>cases cy w 0 3<;>cases(c==0)<;>cases(w==0)<;>rfl
    grind
   ·intro h again;simp only[DI,h,cond_false];rfl
def qK(z c w:Int):Int:=jh [ia (((c== -1)||cy c 0 z)&&cy w 0 3) 2,ia ((w==0)|| (c !=0)) 13]
def wz:List Vs->List Int->List Int->Int
 |v::vs,c::cs,w::ws=>bif qK v.2 c w==0 then wz vs cs ws else qK v.2 c w
 |_,_,_=>0
theorem NV(v:Vs)(vs:List Vs)(c w:Int)(cs a:List Int):wz (v::vs) (c::cs) (w::a)=bif qK v.2 c w==0 then wz vs cs a else qK v.2 c w:=rfl
def rZ(p:Pl)(t:Tk):Int:=bif j5 p t.1==0 then(bif decide (t.2.1.length=p.1.length)&&decide (t.2.2.length=p.1.length)then wz p.1 t.2.1 t.2.2 else 10)else j5 p t.1
theorem ZJ{n:Nat}(a:1000<=n){p:Pl}(hp:jg p)(t:Tk):v7 n p t=some (rZ p t):=by
 have v:=hp.v;unfold v7 rZ;rw[show px n _ _=px n p t.1 from rfl,SZ a hp,show IY n _=some ((b2 p.1):Int)from rfl];simp only[df,jv,tP,BO a,LY];rw[Jo];cases h0:(j5 p _==0)with
 |false=>grind
 |true=>
  simp only[bne,h0,dk,cond_false,cond_true];cases g:decide (t.2.1.length=p.1.length)with
  |false=>rfl
  |true=>
   simp only[cond_true,Bool.true_and,LY];cases h:decide (t.2.2.length=p.1.length)with
   |false=>rfl
   |true=>
    simp only[ia,cond_true,show((0:Int)==0)=true from rfl,dk,cond_false];have q:=of_decide_eq_true g;have u:=of_decide_eq_true h;refine iy _ (λ i=>(p.1,((b2 p.1):Int),(i:Int),t.1.1,t.1.2,t.2.1,t.2.2,())) (λ i r=>some (wz r (t.2.1.drop i) (t.2.2.drop i))) (by unfold ea;omega) ?_ ?_ (by omega)
    ·intro i x r l m o b d e again k;obtain⟨c,f,c2,_⟩:=kG (s:=t.2.1) (i:=i) (by omega);obtain⟨w,w1,w2,_⟩:=kG (s:=t.2.2) (i:=i) (by omega);simp only[Em,d,cond_true,b,f,w1,df,e,Ra,Pt,jv,tP,BO a,k,c2,w2,NV];grind[qK]
    ·intro j again;simp only[Em,j,cond_false];rfl
theorem YE{n:Nat}(l:1000<=n){p:Pl}(hp:jg p)(t:Tk):wy n p t=some (rZ p t):=by
 have A:=hp.v;unfold wy rZ;rw[show sM n _ _=sM n p t.1 from rfl,Mc l hp,df];simp only[bne];cases h0:(j5 p _==0)with
 |false=>rfl
 |true=>
  simp only[dk,cond_false,cond_true];have a:=yG t.2.1.length p.1.length;have b:=yG t.2.2.length p.1.length;simp only[bne]at a b;rw[a,b];cases h:decide (t.2.1.length=p.1.length)with
  |false=>rfl
  |true=>
   cases j:decide (t.2.2.length=p.1.length)with
   |false=>rfl
   |true=>
    simp only[dk,ep,cond_false,et,cond_true];have v:=of_decide_eq_true h;have y:=of_decide_eq_true j;refine iy _ (λ i=>((i:Int),p.1,p.2,t.1.1,t.1.2,t.2.1,t.2.2,())) (λ i r=>some (wz r (t.2.1.drop i) (t.2.2.drop i))) (by unfold ea;omega) ?_ ?_ (by omega)
    ·intro i x r o q u d e f again m;obtain⟨c,g,c2,_⟩:=kG (s:=t.2.1) (i:=i) (by omega);obtain⟨w,w1,w2,_⟩:=kG (s:=t.2.2) (i:=i) (by omega);simp only[Ez,e,cond_true,d,g,w1,df,f,EO,jv,m,c2,w2,NV];have z:qK x.2 c w=bif ((c != -1)&&!(cy c 0 x.2))||!(cy w 0 3)then 2 else bif (w !=0)&& (c==0)then 13 else 0:=by
      unfold qK;rw[Jo];simp only[bne];cases(c== -1)<;>cases cy c 0 x.2<;>cases cy w 0 3<;>cases(c==0)<;>cases(w==0)<;>rfl
     grind
    ·intro k again;simp only[Ez,k,cond_false];rfl
def bh(p:Pl)(s:St):Int:=bif (mQ p).2==0 then j5 p s else(mQ p).2
def kX(p:Pl)(t:Tk):Int:=bif (mQ p).2==0 then rZ p t else(mQ p).2
theorem Wa{n:Nat}(a:1000<=n){p:Pl}(hp:jg p)(t:Tk):AT n p t=some (kX p t):=by
 grind[AT,kX,v46,YE]
theorem S5{n:Nat}(a:1000<=n){p:Pl}(hp:jg p)(t:Tk):ux n p t=some (kX p t):=by
 grind[ux,kX,v87,ZJ]
abbrev I6:=Int×Int×Int×Int×Int×Int
def i6(l:List Int):I6:=(l[0]?.getD 0,l[1]?.getD 0,l[2]?.getD 0,l[3]?.getD 0,l[4]?.getD 0,l[5]?.getD 0)
def l6(x:I6):List Int:= [x.1,x.2.1,x.2.2.1,x.2.2.2.1,x.2.2.2.2.1,x.2.2.2.2.2]
def nd(s:St):I6×I6:=(i6 s.1,i6 s.2)
theorem v93(n:Nat)(s:St):tj n s=some (nd s):=rfl
theorem g6(l:List Int){i:Nat}(a:i<6):aG (l6 (i6 l)) (i:Int)=some (l[i]?.getD 0):=by
 rw[oR];have:i=0\/i=1\/i=2\/i=3\/i=4\/i=5:=by omega
 rcases this with rfl|rfl|rfl|rfl|rfl|rfl<;>rfl
theorem r6{i:Nat}(a:i<6):cQ (i:Int) 6=some ():=by
 grind[cQ]
def xl:List Int->List Int->List Int->List Int->Bool
 |a::tcs,tw::tws,c::cs,w::ws=>((a== -1)|| (a==c))&& ((tw==0)|| (tw==w))&&xl tcs tws cs ws
 |_,_,_,_=>true
def xN(t:Tk)(s:St):Bool:=xl t.2.1 t.2.2 s.1 s.2
theorem LK(a b c d:Int)(e f g h:List Int):xl (a::e) (b::f) (c::g) (d::h)=(((a== -1)|| (a==c))&& ((b==0)|| (b==d))&&xl e f g h):=rfl
structure uv(p:Pl)(s:St):Prop where
 c:s.1.length=p.1.length
 w:s.2.length=p.1.length
theorem v28{n:Nat}(A:1000<=n){p:Pl}(hp:jg p){t:Tk}{s:St}(b:uv p t.2)(a:uv p s):wS n t s=some (xN t s):=by
 have B:=hp.v;have o:=b.c;have q:=b.w;have u:=a.c;have v:=a.w;refine iy _ (λ i=>((i:Int),t.1.1,t.1.2,t.2.1,t.2.2,s.1,s.2,())) (λ i r=>some (xl (t.2.1.drop i) (t.2.2.drop i) r (s.2.drop i))) (by unfold ea;omega) ?_ ?_ (by omega)
 ·intro i x r j k m c d e again h;obtain⟨C,f,c2,_⟩:=kG (s:=t.2.1) (i:=i) (by omega);obtain⟨D,d1,d2,_⟩:=kG (s:=t.2.2) (i:=i) (by omega);obtain⟨w,w1,w2,_⟩:=kG (s:=s.2) (i:=i) (by omega);simp only[EX,d,cond_true,c,f,d1,w1,df,e,jv,h,c2,d2,w2,LK,bne];grind
 ·intro g again;simp only[EX,g,cond_false];have z:∀l:List Int,l.length=s.1.length->l.drop s.1.length= []:=λ l y=>fz (by omega);rw[z _ (by omega),z _ (by omega),z _ (by omega)];rfl
end
section
local instance:Dr:= ⟨false⟩
abbrev aeu:=Pl×Tk×I6×I6
theorem aos:(vs:List Vs)->(cs a:List Int)->True:=λ _ _ _=>trivial
theorem F1{p:Pl}{s:St}(h:j5 p s=0):uv p s:=by
 unfold j5 at h;cases a:decide (s.1.length=p.1.length)with
 |false=>grind
 |true=>
  cases b:decide (s.2.length=p.1.length)with
  |false=>grind
  |true=>exact⟨by grind,by grind⟩
theorem RJ{p:Pl}{t:Tk}(h:rZ p t=0):uv p t.1/\uv p t.2:=by
 unfold rZ at h;cases h0:(j5 p t.1==0)with
 |false=>grind
 |true=>
  refine⟨F1 (by grind),?_⟩;rw[h0]at h;simp only[cond_true]at h;cases a:decide (t.2.1.length=p.1.length)with
  |false=>rw[a]at h;exact absurd (show(10:Int)=0 from h) (by decide)
  |true=>
   cases b:decide (t.2.2.length=p.1.length)with
   |false=>rw[a,b]at h;exact absurd (show(10:Int)=0 from h) (by decide)
   |true=>exact⟨by grind,by grind⟩
theorem L6{p:Pl}{t:Tk}(h:kX p t=0):(mQ p).2=0/\rZ p t=0:=by
 grind[kX]
theorem nY{p:Pl}{s:St}(h:bh p s=0):(mQ p).2=0/\j5 p s=0:=by
 grind[bh]
theorem aaK{p:Pl}(h:(mQ p).2=0):1<=p.1.length/\p.1.length<=6/\p.2.length<=30:=by
 grind[mQ]
def GC(p:Pl)(t:Tk):aeu:=(p,t,nd t.1)
theorem v90{n:Nat}(a:1000<=n){p:Pl}(hp:jg p)(t:Tk):vm n p t=some (bif kX p t==0 then(some (GC p t),0)else(none,kX p t)):=by
 unfold vm;rw[show ux n _ _=ux n p t from rfl,S5 a hp,df];simp only[bne];cases h:(kX p t==0)with
 |false=>rfl
 |true=>rfl
theorem v92{n:Nat}(I:1000<=n){p:Pl}(hp:jg p)(h6:p.1.length<=6){t:Tk}{s:St}(d:uv p t.2)(b:uv p s)(z:I6×I6):ud n (some (p,t,z)) (nd s)=some (xN t s):=by
 have J:=hp.v;have j:=d.c;have k:=d.w;have m:=b.c;have o:=b.w;refine iy p.1 (λ i=>(some (p,t,z),((b2 p.1):Int),(i:Int),(nd s).1.1,(nd s).1.2.1,(nd s).1.2.2.1,(nd s).1.2.2.2.1,(nd s).1.2.2.2.2.1,(nd s).1.2.2.2.2.2,(nd s).2.1,(nd s).2.2.1,(nd s).2.2.2.1,(nd s).2.2.2.2.1,(nd s).2.2.2.2.2.1,(nd s).2.2.2.2.2.2,()))
  (λ i r=>some (xl (t.2.1.drop i) (t.2.2.drop i) (s.1.drop i) (s.2.drop i))) (by unfold ea;omega) ?_ ?_ (by omega)
 ·intro i x r C D E F e f again v;obtain⟨B,g,c2,_⟩:=kG (s:=t.2.1) (i:=i) (by omega);obtain⟨K,d1,d2,_⟩:=kG (s:=t.2.2) (i:=i) (by omega);obtain⟨c,k1,y,A⟩:=kG (s:=s.1) (i:=i) (by omega);obtain⟨w,w1,w2,w3⟩:=kG (s:=s.2) (i:=i) (by omega);have a:i<6:=by omega
  have gc:aG [(nd s).1.1,(nd s).1.2.1,(nd s).1.2.2.1,(nd s).1.2.2.2.1,(nd s).1.2.2.2.2.1,(nd s).1.2.2.2.2.2] (i:Int)=some c:=by
   have:=g6 s.1 a;rw[A]at this;trivial
  have h:aG [(nd s).2.1,(nd s).2.2.1,(nd s).2.2.2.1,(nd s).2.2.2.2.1,(nd s).2.2.2.2.2.1,(nd s).2.2.2.2.2.2] (i:Int)=some w:=by
   have:=g6 s.2 a;rw[w3]at this;trivial
  simp only[B4,e,cond_true,g,gc,h,r6 a,df,f,jv,v,c2,d2,y,w2,LK,bne];cases G:(B== -1)with
  |true=>
   grind[dk,ee,jv,yR]
  |false=>
   grind[dk,ee,jv,e2,yR]
 ·intro u again;simp only[B4,u,cond_false];have q:∀l:List Int,l.length=p.1.length->l.drop p.1.length= []:=λ l H=>fz (by omega);rw[q _ j,q _ k,q _ m,q _ o];rfl
theorem v22(n:Nat){p:Pl}(hp:jg p):wL n p=some p:=by
 unfold wL;have:=hp.v;have:=hp.h;grind[zG]
theorem Df(n:Nat)(l:List Int)(h:l.length<=1000):uV n l=some l:=by
 grind[uV,zG]
theorem MK(n:Nat)(s:St)(h1:s.1.length<=1000)(h2:s.2.length<=1000):th n s=some s:=by
 grind[th,Df]
theorem v23(n:Nat)(t:Tk)(h1:t.1.1.length<=1000)(h2:t.1.2.length<=1000)(h3:t.2.1.length<=1000)(h4:t.2.2.length<=1000):xf n t=some t:=by
 grind[xf,MK,Df]
theorem v18{n:Nat}(j:1000<=n)(p:Pl):∃b,xB n p=some b/\(b=true->jg p):=by
 unfold xB;generalize f:(((((decide (((b2 p.1:Nat):Int)>(4:Int)))&& (decide (((b2 p.1:Nat):Int)<=(6:Int))))|| (decide (((b2 p.1:Nat):Int)>(8:Int))))|| ((decide (((b2 p.2:Nat):Int)>(14:Int)))&& (decide (((b2 p.2:Nat):Int)<=(30:Int)))))|| (decide (((b2 p.2:Nat):Int)>(32:Int))))=a;cases a with
 |true=>simp
 |false=>
  simp only[cond_false];have d:p.1.length<=8:=by
   grind
  have c:p.2.length<=32:=by
   grind
  have:=iy (n:=n) (body:=yJ n) (ks:=(λ(_)=>some (true),λ(e,_)=>some (e),())) p.1 (λ i=>((i:Int),p.1,p.2,())) (λ i r=>some (r.all λ v=>decide (v.1.length<=20)&&!(cy v.2 11 50))) (by unfold ea;omega) ?_ ?_ (by omega)
  ·refine⟨_,this,λ h=> ⟨d,c,λ v g=>?_⟩⟩;grind
  all_goals grind[yJ,EO,jv]
theorem v20(n:Nat)(s:St):∃b,wX n s=some b/\(b=true->s.1.length<=10/\s.2.length<=10):=by
 refine⟨_,rfl,λ h=>?_⟩;grind
theorem v19(n:Nat)(t:Tk):∃b,zS n t=some b/\(b=true->t.1.1.length<=10/\t.1.2.length<=10/\t.2.1.length<=10/\t.2.2.length<=10):=by
 refine⟨_,rfl,λ h=>?_⟩;grind
end
section
local instance:Dr:= ⟨false⟩
def z6:I6:=(0,0,0,0,0,0)
theorem v95{n:Nat}(a:1000<=n){p:Pl}(hp:jg p)(s:St):Ij n p s=some (p,bif bh p s==0 then nd s else(z6,z6),bh p s):=by
 unfold Ij bh;rw[show tx n _=tx n p from rfl,v87 a hp,df];simp only[bne];cases h:((mQ p).2==0)with
 |true=>
  simp only[cond_true];rw[show px n _ _=px n p s from rfl,SZ a hp,df];cases b:(j5 p s==0)with
  |true=>
   have e:j5 p s=0:=by grind
   rw[e];rfl
  |false=>rfl
 |false=>
  simp only[cond_false,ee,cond_true,h];rfl
def tG(b:Int):Int->List Int->List Int->Int
 |a,c::cs,w::ws=>tG b (bif w==b then cr .i64 (a+c)else a) cs ws
 |a,_,_=>a
theorem amS(b a c w:Int)(cs d:List Int):tG b a (c::cs) (w::d)=tG b (bif w==b then cr .i64 (a+c)else a) cs d:=rfl
theorem alF{b:Int}(h:(0==b)=false):(k:Nat)->(a:Int)->(cs:List Int)->tG b a cs (ef k 0)=a
 |0,a,[]=>rfl
 |0,a,_::_=>rfl
 |k+1,a,[]=>rfl
 |k+1,a,c::cs=>by
  rw[List.replicate_succ,amS,h,cond_false,alF h k]
theorem amy{d:Int}(h:(0==d)=false)(k:Nat):(cs b:List Int)->cs.length=b.length->(a:Int)->(e:List Int)->tG d a (cs++e) (b++ef k 0)=tG d a cs b
 | [],[],_,a,e=>by
  rw[gk,gk,alF h];rfl
 |c::cs,w::b,hl,a,e=>by
  exact amy h k _ b (by simpa using hl) _ e
theorem anA:(l:List Int)->l.length<=6->l6 (i6 l)=l++ef (6- l.length) 0
 | [],_=>rfl
 | [_],_=>rfl
 | [_,_],_=>rfl
 | [_,_,_],_=>rfl
 | [_,_,_,_],_=>rfl
 | [_,_,_,_,_],_=>rfl
 | [_,_,_,_,_,_],_=>rfl
 |_::_::_::_::_::_::_::_,h=>by trivial
end
end Go.Abs.R
namespace Go.Abs
section
variable[Dr]
theorem alo{α:Type}{l:List α}{i:Int}(h0:0<=i)(h1:i< (l.length:Int)):aG l i=some (l[i.toNat]'(by omega)):=by
 grind[aG,fu]
theorem anX{α:Type}(l:List α)(i:Nat)(x:α)(h:i<l.length):tD l (i:Int) x=some (l.set i x):=by
 grind[tD]
section
variable{D Ks R:Type}{body:D->(D->Option R)->Ks->Option R}{ks:Ks}
theorem adL{A:Type}{n:Nat}(len:Nat)(F:Nat->A->D)(G:Nat->A->Option R)(b:Nat->A->Prop)(e:len<=ea)
 (g:∀i a,i<len->decide ((i:Int)< (len:Int))=true->cr .i64 ((i:Int)+1)=((i+1:Nat):Int)->b i a->
  ∀again,(∀c,b (i+1) c->again (F (i+1) c)=G (i+1) c)->body (F i a) again ks=G i a)
 (d:∀a,decide ((len:Int)< (len:Int))=false->b len a->∀again,body (F len a) again ks=G len a)
 (a:A) (h0:b 0 a) (f:len<n):cq body n (F 0 a) ks=G 0 a:=by
 have key:∀(m i:Nat)(a:A),i<=len->b i a->len- i<m->cq body m (F i a) ks=G i a:=by
  intro m
  induction m with
  |zero=>omega
  |succ m h=>
   grind[cq,nu,ea]
 grind
end
end
end Go.Abs
namespace Go.Abs.R
open Go.Abs Go.Proofs.Tryz
open Go.Abs.N(IY H2 zQ vk yf BY C5 En Gt tN Hv yp tR xA)
section
local instance:Dr:= ⟨false⟩
theorem al4{n:Nat}{p:Pl}(hp:jg p)(x:Int):zQ n x p=some (cy x 0 ((p.1.length:Int)- 1)):=by
 have:=hp.v;grind[zQ,IY,SF,Ra]
theorem v80{n:Nat}{p:Pl}(hp:jg p)(x:Int):zF n p x=some (cy x 0 ((p.1.length:Int)- 1)):=by
 have:=hp.v;grind[zF,SF,EO]
theorem amo{n:Nat}(a:1000<=n){p:Pl}(hp:jg p)(m:Int×Int):aic n p m=some (decide (m∈p.2)):=by
 have:=hp.h;refine iy _ (λ i=>((i:Int),p.1,p.2,m.1,m.2,())) (λ i r=>some (decide (m∈r))) (by unfold ea;omega) ?_ ?_ (by omega)
 all_goals grind[akG,e1,e2,Prod.ext]
def n4(p:Pl)(m:Int×Int):Bool:=cy m.1 0 ((p.1.length:Int)- 1)&&cy m.2 0 ((p.1.length:Int)- 1)
def aY(l:List Int)(a:Int):Int:=l[a.toNat]?.getD 0
def zu(p:Pl)(a:Int):Int:=(p.1[a.toNat]?.map (·.2)).getD 0
def mv(p:Pl)(s:St)(m:Int×Int):Int:=
 bif !n4 p m then 6 else bif !decide (m∈p.2)then 18 else bif aY s.1 m.1==0 then 12 else bif aY s.1 m.2==zu p m.2 then 16 else bif (aY s.2 m.2 !=0)&& (aY s.2 m.2 !=aY s.2 m.1)then 13 else 0
theorem oL{l:List Int}{a:Int}(h0:0<=a)(h1:a<l.length):aG l a=some (aY l a):=by
 grind[alo,aY]
theorem akv{p:Pl}{a:Int}(h0:0<=a)(h1:a<p.1.length):∃v,aG p.1 a=some v/\v.2=zu p a:=by
 simp_all[alo,zu]
theorem x7{p:Pl}{m:Int×Int}(h:n4 p m=true):(0<=m.1/\m.1<p.1.length)/\0<=m.2/\m.2<p.1.length:=by
 grind[n4,cy]
theorem v40{n:Nat}(f:1000<=n){p:Pl}(hp:jg p){s:St}(d:uv p s)(m:Int×Int):o5 n p s m=some (mv p s m):=by
 have k1:=d.c;have i:=d.w;unfold o5 mv;rw[v80 hp,df,v80 hp,jv,df];cases a:n4 p m with
 |false=>
  grind[n4]
 |true=>
  obtain⟨⟨c,g⟩,b,e⟩:=x7 a;unfold n4 at a;rw[en]at a;obtain⟨v,v1,v2⟩:=akv (p:=p) b e;simp only[a.1,a.2,dk,ee,cond_true,ep,cond_false,amo f hp,df];cases h:decide (m∈p.2)with
  |false=>rfl
  |true=>
   simp only[dk,cond_false,oL (l:=s.1) c (by omega),oL (l:=s.1) b (by omega),oL (l:=s.2) b (by omega),oL (l:=s.2) c (by omega),v1,v2,df,jv];grind
def n5(x:I6)(m X:Int):I6:=(bif decide (m=0)then X else x.1,bif decide (m=1)then X else x.2.1,bif decide (m=2)then X else x.2.2.1,bif decide (m=3)then X else x.2.2.2.1,bif decide (m=4)then X else x.2.2.2.2.1,bif decide (m=5)then X else x.2.2.2.2.2)
theorem ane{l:List Int}{i:Nat}(h:i<l.length)(h6:l.length<=6)(X:Int):n5 (i6 l) (i:Int) X=i6 (l.set i X):=by
 have:i=0\/i=1\/i=2\/i=3\/i=4\/i=5:=by omega
 rcases this with rfl|rfl|rfl|rfl|rfl|rfl<;>simp[n5,i6,h]
theorem anu{l:List Int}{a:Int}(h0:0<=a)(h:a<l.length)(h6:l.length<=6)(X:Int):n5 (i6 l) a X=i6 (l.set a.toNat X):=by
 grind[ane]
theorem aaO{l:List Int}{a:Int}(h0:0<=a)(h:a<6):aG (l6 (i6 l)) a=some (aY l a):=by
 have:=g6 l (i:=a.toNat) (by omega)
 rwa [Int.toNat_of_nonneg h0]at this
theorem ak8{a:Int}(h0:0<=a)(h:a<6):cQ a 6=some ():=by
 grind[cQ]
theorem akW:(vs:List Vs)->(cs b:List Int)->xr vs cs b=0->cs.length=vs.length->b.length=vs.length->(i:Nat)->i<vs.length->0<=cs[i]?.getD 0/\cs[i]?.getD 0<=(vs[i]?.map (·.2)).getD 0
 | [],_,_,_,_,_,i,d=>by simp at d
 |v::vs,c::cs,w::b,h,h1,h2,i,d=>by
  rw[Sr]at h;cases e:(qV v.2 c w==0)with
  |false=>rw[e,cond_false]at h;rw[h]at e;cases e
  |true=>
   rw[e,cond_true]at h;cases i with
   |succ i=>exact akW vs _ _ h (by grind) (by grind) i (by grind)
   |zero=>
    have a:qV v.2 c w=0:=by grind
    unfold qV at a;cases g:(cy c 0 v.2&&cy w 0 3)with
    |false=>rw[g]at a;cases a
    |true=>
     grind[cy]
theorem x4{p:Pl}{s:St}(h:j5 p s=0){a:Int}(h0:0<=a)(h1:a<p.1.length):0<=aY s.1 a/\aY s.1 a<=zu p a:=by
 have b:=F1 h;have k1:=b.c;have c:=b.w;unfold j5 at h;rw[decide_eq_true k1,decide_eq_true c]at h;exact akW _ _ _ h k1 c _ (by omega)
theorem alS:(l:List Vs)->(i:Nat)->(pre:List Vs)->(ix i pre l).2=0->(k:Nat)->k<l.length->1<=(l[k]?.map (·.2)).getD 0/\(l[k]?.map (·.2)).getD 0<=50
 | [],_,_,_,k,b=>by simp at b
 |v::l,i,pre,h,k,b=>by
  unfold ix at h;cases e:(wi pre v==0)with
  |false=>grind
  |true=>
   rw[e,cond_true]at h;cases k with
   |succ k=>exact alS l _ _ h k (by grind)
   |zero=>
    have a:wi pre v=0:=by grind
    unfold wi at a;cases g:cy v.2 1 50 with
    |false=>
     rw[g]at a;exfalso;revert a;cases rQ v.1<;>cases(pre.any λ x=>x.1==v.1)<;>decide
    |true=>
     grind[cy]
theorem alv(k:Int):(l:List (Int×Int))->(i:Nat)->(pre:List (Int×Int))->(iq k i pre l).2=0->∀h∈l,h.1≠h.2
 | [],_,_,_,_,c=>by trivial
 |v::l,i,pre,h,m,b=>by
  unfold iq at h;cases e:(sx k pre v==0)with
  |false=>rw[e,cond_false]at h;rw[show sx k pre v=0 from h]at e;cases e
  |true=>
   rw[e,cond_true]at h;rcases fv.1 b with rfl|b
   ·have a:sx k pre m=0:=by simpa using e
    unfold sx at a;rw[Tg]at a;intro g;rw[show(m.1 !=m.2)=false by simp[g]]at a;revert a;cases(cy m.1 0 (k- 1)&&cy m.2 0 (k- 1))<;>cases decide (m∈pre)<;>decide
   ·exact alv k l _ _ h m b
theorem aaE{p:Pl}(h:(mQ p).2=0):(∀a:Int,0<=a->a<p.1.length->1<=zu p a/\zu p a<=50)/\∀m∈p.2,m.1≠m.2:=by
 unfold mQ at h;cases h0:decide (p.1.length=0)with
 |true=>rw[h0]at h;exact absurd (show(10:Int)=0 from h) (by decide)
 |false=>
  cases d:decide (6<p.1.length)with
  |true=>grind
  |false=>
   rw[h0,d]at h;cases b:((ix 0 [] p.1).2==0)with
   |false=>rw[b]at h;simp only[cond_false]at h;simp[h]at b
   |true=>
    rw[b]at h;simp only[cond_true]at h;cases c:decide (30<p.2.length)with
    |true=>rw[c]at h;exact absurd (show(8:Int)=0 from h) (by decide)
    |false=>
     rw[c]at h;exact⟨λ a e f=>alS p.1 0 [] (by simpa using b) _ (by omega),alv _ _ 0 _ h⟩
def mq(s:St)(a b q:Int):St:=
 let l:=(s.1.set a.toNat (cr .i64 (aY s.1 a- q))).set b.toNat (cr .i64 (aY s.1 b+q))
 let w:=s.2.set b.toNat (aY s.2 a)
 (l,bif aY l a==0 then w.set a.toNat 0 else w)
def ap(p:Pl)(s:St)(m:Int×Int):St:=mq s m.1 m.2 (bu (aY s.1 m.1) (cr .i64 (zu p m.2- aY s.1 m.2)))
theorem alh{p:Pl}{s:St}(c:uv p s)(a b q:Int):uv p (mq s a b q):=by
 have k1:=c.c;have d:=c.w;refine⟨by simp[mq,k1],?_⟩;grind[mq]
theorem aow{p:Pl}{s:St}(a:uv p s)(m:Int×Int):uv p (ap p s m):=alh a _ _ _
theorem aiL{l:List Int}{a b:Int}(h0:0<=a)(h1:0<=b)(h:a≠b)(X:Int):aY (l.set a.toNat X) b=aY l b:=by
 grind[aY]
theorem ae4{l:List Int}{a:Int}(h0:0<=a)(h1:a<l.length)(X:Int):tD l a X=some (l.set a.toNat X):=by
 grind[anX]
theorem v42{n:Nat}{p:Pl}{s:St}(c:uv p s)(h6:p.1.length<=6){m:Int×Int}(e:n4 p m=true)(g:m.1≠m.2):u9 n p s m=some (ap p s m):=by
 have k1:=c.c;have h:=c.w;obtain⟨⟨b,f⟩,a,d⟩:=x7 e;obtain⟨v,v1,v2⟩:=akv (p:=p) a d;unfold u9 ap;rw[(MK n s (by omega) (by omega))];simp only[df,oL (l:=s.1) b (by omega),oL (l:=s.1) a (by omega),v1,v2];generalize bu (aY s.1 m.1) (cr .i64 (zu p m.2- aY s.1 m.2))=q;unfold mq;simp only[df,oL (l:=s.2) b (by omega),oL (l:=s.2) a (by omega),
  ae4 (l:=s.1) b (by omega),oL (l:=s.1.set _ _) a (by simp;omega),ae4 (l:=s.1.set _ _) a (by simp;omega),ae4 (l:=s.2) a (by omega),oL (l:=(s.1.set _ _).set _ _) b (by simp;omega)]
 grind[oL,ae4]
theorem am3{p:Pl}{s:St}(c:uv p s)(h6:p.1.length<=6){a b:Int}(d:0<=a)(e:a<p.1.length)(f:0<=b)(g:b<p.1.length)(h:a≠b)(q:Int){R:Type}(K:I6×I6->Option R):
 ((
  aG (l6 (n5 (i6 s.1) a (cr .i64 (aY s.1 a- q)))) b).bind λ x=>(aG (l6 (n5 (n5 (i6 s.1) a (cr .i64 (aY s.1 a- q))) b (cr .i64 (x+q)))) a).bind λ y=>
  bif y==0 then K (n5 (n5 (i6 s.1) a (cr .i64 (aY s.1 a- q))) b (cr .i64 (x+q)),n5 (n5 (i6 s.2) b (aY s.2 a)) a 0)
  else K (n5 (n5 (i6 s.1) a (cr .i64 (aY s.1 a- q))) b (cr .i64 (x+q)),n5 (i6 s.2) b (aY s.2 a)))=K (nd (mq s a b q)):=by
 have k1:=c.c;have i:=c.w;grind[aiL,mq,nd,anu,aaO]
theorem akU{n:Nat}(k:1000<=n){p:Pl}(hp:jg p){s:St}(B:bh p s=0)(m:Int×Int):En n p (nd s) m=some (bif mv p s m==0 then nd (ap p s m)else(z6,z6),mv p s m):=by
 obtain⟨o,i⟩:=nY B;have f:=F1 i;have x:=(aaK o).2.1;have L:=hp.v;have K:=hp.h;have k1:=f.c;have M:=f.w;obtain⟨E,D⟩:=aaE o;unfold En;rw[show(λ F=>zQ n _ _) _=zQ n _ _ from rfl,show(λ F=>zQ n _ _) _=zQ n _ _ from rfl,al4 hp,al4 hp,df,jv,df,tP,df,afi p.2 m (by omega) (by unfold ea;omega),df,tP,df,BO k,Jo,df];cases h:n4 p m with
 |false=>
  have e:mv p s m=6:=by unfold mv;grind
  unfold n4 at h;have:(bif cy m.1 0 ((p.1.length:Int)- 1)then cy m.2 0 ((p.1.length:Int)- 1)else false)=false:=by
   grind
  rw[e,this,Bool.and_false];rfl
 |true=>
  obtain⟨⟨b,j⟩,a,c⟩:=x7 h;have d:=h;unfold n4 at d;rw[en]at d;rw[d.1,d.2];cases z:decide (m∈p.2)with
  |false=>
   have e:mv p s m=18:=by grind[mv]
   rw[e];rfl
  |true=>
   have A:=D m (of_decide_eq_true z);obtain⟨v,v1,v2⟩:=akv (p:=p) a c;obtain⟨G,c2⟩:=x4 i b j;obtain⟨d1,d2⟩:=x4 i a c;obtain⟨N,O⟩:=E m.2 a c;have r:aG [(nd s).1.1,(nd s).1.2.1,(nd s).1.2.2.1,(nd s).1.2.2.2.1,(nd s).1.2.2.2.2.1,(nd s).1.2.2.2.2.2] m.1=some (aY s.1 m.1):=aaO (l:=s.1) b (by omega);have t:aG [(nd s).1.1,(nd s).1.2.1,(nd s).1.2.2.1,(nd s).1.2.2.2.1,(nd s).1.2.2.2.2.1,(nd s).1.2.2.2.2.2] m.2=some (aY s.1 m.2):=aaO (l:=s.1) a (by omega);have u:aG [(nd s).2.1,(nd s).2.2.1,(nd s).2.2.2.1,(nd s).2.2.2.2.1,(nd s).2.2.2.2.2.1,(nd s).2.2.2.2.2.2] m.1=some (aY s.2 m.1):=aaO (l:=s.2) b (by omega);have w:aG [(nd s).2.1,(nd s).2.2.1,(nd s).2.2.2.1,(nd s).2.2.2.2.1,(nd s).2.2.2.2.2.1,(nd s).2.2.2.2.2.2] m.2=some (aY s.2 m.2):=aaO (l:=s.2) a (by omega);have w1:cr .i64 (zu p m.2- aY s.1 m.2)=zu p m.2- aY s.1 m.2:=nu (by omega) (by omega);simp only[ia,cond_true,ak8 b (show m.1<6 by omega),ak8 a (show m.2<6 by omega),r,t,u,w,v1,v2,w1,df,tP,jv,QD k,Tg];have e:mv p s m=bif aY s.1 m.1==0 then 12 else bif aY s.1 m.2==zu p m.2 then 16 else bif (aY s.2 m.2 !=0)&& (aY s.2 m.2 !=aY s.2 m.1)then 13 else 0:=by grind[mv]
   rw[e];cases H:(aY s.1 _==0)with
   |true=>
    have g:aY s.1 m.1=0:=by grind
    rw[g];rfl
   |false=>
    have g:¬aY s.1 m.1=0:=by grind
    rw[(decide_eq_true (by omega))];simp only[cond_false,cond_true,bne_self_eq_false];cases I:(aY _ _==zu p _)with
    |true=>
     have q:aY s.1 m.2=zu p m.2:=by grind
     rw[(decide_eq_false (by omega))];rfl
    |false=>
     have q:¬aY s.1 m.2=zu p m.2:=by grind
     rw[(decide_eq_true (by omega))];simp only[cond_false,cond_true,bne_self_eq_false];have C:((aY s.2 m.2==0)|| ((bif !(aY s.2 m.2==0)then aY s.2 m.2 else 0)==aY s.2 m.1))=!((aY s.2 m.2 !=0)&& (aY s.2 m.2 !=aY s.2 m.1)):=by
      grind
     rw[C];cases J:((aY _ _ !=0)&& (aY _ _ !=aY _ _))with
     |true=>rfl
     |false=>
      simp only[ee,cond_true,cond_false,bne_self_eq_false,beq_self_eq_true];have:=am3 f x b j a c A (bu (aY s.1 m.1) (zu p m.2- aY s.1 m.2)) λ y=>some (y,(0:Int));refine hg this ?_;unfold ap;rw[w1]
end
section
local instance:Dr:= ⟨false⟩
def o8(p:Pl)(s:St)(i j:Nat):List (Int×Int):=bif mv p s ((i:Int),(j:Int))==0 then[((i:Int),(j:Int))]else[]
def u4(p:Pl)(s:St)(i:Nat):List (Int×Int):=(eg 0 p.1.length).flatMap (o8 p s i)
def fV(p:Pl)(s:St):List (Int×Int):=(eg 0 p.1.length).flatMap (u4 p s)
theorem akB{α β:Type}(f:α->List β)(c:Nat)(h:∀a,(f a).length<=c):(l:List α)->(l.flatMap f).length<=c*l.length
 | []=>by simp
 |a::l=>by
  have b:=h a;have d:=akB f c h l;grind[List.length_append,List.length_cons,Nat.mul_succ]
theorem anv(p:Pl)(s:St)(i j:Nat):(o8 p s i j).length<=1:=by
 grind[o8,mv]
theorem ak4(p:Pl)(s:St)(i:Nat):(u4 p s i).length<=p.1.length:=by
 have:=akB (o8 p s i) 1 (anv p s i) (eg 0 p.1.length);rw[fR,Nat.one_mul]at this;trivial
theorem ami(p:Pl)(s:St):(fV p s).length<=p.1.length*p.1.length:=by
 have:=akB (u4 p s) p.1.length (ak4 p s) (eg 0 p.1.length)
 rwa [fR]at this
theorem adp{i k:Nat}(h:i<k):eg i (k- i)=i::eg (i+1) (k- (i+1)):=by
 rw[show k- i=(k- (i+1))+1 by omega,List.range'_succ]
theorem ant{n:Nat}(g:1000<=n){p:Pl}(hp:jg p){s:St}(f:uv p s)(h6:p.1.length<=6)(i:Nat)(K)(b:List (Int×Int))(h:b.length<=6*i)(k:i<=6):
 cq (y8 n) n ((i:Int),(0:Int),p.1,p.2,s.1,s.2,b,()) (K,())=K ((i:Int),p.1,p.2,s.1,s.2,b++u4 p s i,()):=by
 have:=adL (n:=n) (body:=y8 n) (ks:=(K,())) p.1.length (λ j b=>((i:Int),(j:Int),p.1,p.2,s.1,s.2,b,())) (λ j b=>K ((i:Int),p.1,p.2,s.1,s.2,b++ (eg j (p.1.length- j)).flatMap (o8 p s i),()))
  (λ j b=>b.length<=6*i+j) (by unfold ea;omega) (λ j a h1 c d e again l=>?_) (λ a h1 e again=>?_) b (by omega) (by omega)
 ·trivial
 ·simp only[y8,c,cond_true,d];rw[show o5 n _ _ _=o5 n p s _ from rfl,v40 g hp f,df,adp h1,ei];grind[o8,mv,zG,eL]
 grind[y8,h1]
theorem v39{n:Nat}(h:1000<=n){p:Pl}(hp:jg p){s:St}(g:uv p s)(h6:p.1.length<=6):zY n p s=some (fV p s):=by
 unfold zY;have:=adL (n:=n) (body:=K7 n) (ks:=(λ x=>match x with| (k,_)=>some k,())) p.1.length (λ i b=>((i:Int),p.1,p.2,s.1,s.2,b,())) (λ i b=>some (b++ (eg i (p.1.length- i)).flatMap (u4 p s)))
  (λ i b=>b.length<=6*i) (by unfold ea;omega) (λ i a c e f d again j=>?_) (λ a c d again=>?_) [] (by simp) (by omega)
 ·trivial
 ·simp only[K7,e,cond_true];rw[ant h hp g h6 i _ a d (by omega)];have:=ak4 p s i;simp only[f];rw[j _ (by simp;omega),adp c,ei,eL]
 ·simp only[K7,c,cond_false];rw[hh];simp
abbrev MvN:=(Int×Int)×(I6×I6)
def to2(p:Pl)(s:St)(m:Int×Int):MvN:=(m,nd (ap p s m))
theorem anB{n:Nat}(g:1000<=n){p:Pl}(hp:jg p){s:St}(h:bh p s=0)(i:Nat)(K)(l:i<6):
 cq (xA n) n (p,nd s,(i:Int),(p.1.length:Int),(i:Int),(p.1.length:Int),(0:Int),()) (K,λ _=>some [],())=(K (p,nd s,(p.1.length:Int),(i:Int),())).bind λ r=>some ((u4 p s i).map (to2 p s)++r):=by
 have m:=hp.v;have:=adL (n:=n) (body:=xA n) (ks:=(K,λ _=>some [],())) p.1.length (λ j(_:Unit)=>(p,nd s,(i:Int),(p.1.length:Int),(i:Int),(p.1.length:Int),(j:Int),()))
  (λ j _=>(K (p,nd s,(p.1.length:Int),(i:Int),())).bind λ r=>some (((eg j (p.1.length- j)).flatMap (o8 p s i)).map (to2 p s)++r))
  (λ _ _=>True) (by unfold ea;omega) (λ j a b c d f again k=>?_) (λ a b f again=>?_) () trivial (by omega)
 ·trivial
 ·simp only[xA,c,cond_true,d];rw[akU g hp h,df,adp b,ei,k () trivial];unfold o8;cases e:(mv p s _==0)with
  |true=>
   cases K (p,nd s,(p.1.length:Int),(i:Int),())<;>rfl
  |false=>
   rfl
 simp_all[xA,b,cond_false,hh,nd]
theorem amG{n:Nat}(f:1000<=n){p:Pl}(hp:jg p){s:St}(b:bh p s=0):Gt n p (nd s)=some ((fV p s).map (to2 p s)):=by
 have h:=hp.v;have g:=(aaK (nY b).1).2.1;unfold Gt;have:=adL (n:=n) (body:=tR n) (ks:=(λ _=>some [],λ _=>some [],())) p.1.length (λ i(_:Unit)=>(p,nd s,(p.1.length:Int),(i:Int),())) (λ i _=>some (((eg i (p.1.length- i)).flatMap (u4 p s)).map (to2 p s)))
  (λ _ _=>True) (by unfold ea;omega) (λ i a h1 c d e again j=>?_) (λ a h1 e again=>?_) () trivial (by omega)
 ·trivial
 ·simp only[tR,c,cond_true];rw[anB f hp b i _ (by omega)];simp_all[d,trivial,df,adp,h1,ei,gl]
 grind[tR,h1]
theorem v38{n:Nat}(a:List (Int×Int))(h:a.length<n)(b:a.length<=ea):RH n a a=some true:=by
 unfold RH;rw[bne_self_eq_false,cond_false];refine iy a (λ i=>(a,a,(i:Int),())) (λ _ _=>some _) b ?_ ?_ h
 all_goals grind[Sk,et,dk]
theorem v82{n:Nat}(a:List Int)(h:a.length<n)(b:a.length<=ea):zL n a a=some true:=by
 unfold zL;rw[bne_self_eq_false,cond_false];refine iy a (λ i=>(a,a,(i:Int),())) (λ _ _=>some _) b ?_ ?_ h
 all_goals grind[Pu,bne_self_eq_false]
theorem v41{n:Nat}(a:1000<=n)(s:St)(h1:s.1.length<=900)(h2:s.2.length<=900):Mn n s s=some true:=by
 unfold Mn;rw[v82 _ (by omega) (by unfold ea;omega),df,v82 _ (by omega) (by unfold ea;omega)];rfl
end
section
local instance:Dr:= ⟨false⟩
theorem ann(z c w:Int):qV z c w=0↔(0<=c/\c<=z/\0<=w/\w<=3/\(c=0↔w=0)):=by
 unfold qV;rw[Jo];by_cases a:0<=c/\c<=z/\0<=w/\w<=3
 ·rw[show(cy c 0 z&&cy w 0 3)=true by simp[cy];omega];by_cases b:(c=0↔w=0)
  ·rw[show((c==0)==(w==0))=true by grind];exact⟨by omega,λ _=>rfl⟩
  ·rw[show((c==0)==(w==0))=false by grind];exact⟨λ h=>absurd h (by decide),by omega⟩
 ·rw[show(cy c 0 z&&cy w 0 3)=false by
   grind[cy]]
  exact⟨λ h=>absurd h (by cases((c==0)==(w==0))<;>decide),by omega⟩
theorem akC:(vs:List Vs)->(cs a:List Int)->cs.length=vs.length->a.length=vs.length->(xr vs cs a=0↔∀i,i<vs.length->qV ((vs[i]?.map (·.2)).getD 0) (cs[i]?.getD 0) (a[i]?.getD 0)=0)
 | [],_,_,_,_=> ⟨λ _ i b=>by trivial,λ _=>by rfl⟩
 |v::vs,c::cs,w::a,h1,h2=>by
  have d:=akC vs cs a (by grind) (by grind);rw[Sr];cases e:(qV _ c w==0)with
  |true=>
   rw[cond_true,d];constructor
   ·grind
   ·intro h i b;exact h (i+1) (by grind)
  |false=>
   rw[cond_false];constructor
   ·grind
   ·intro h;exact h 0 (by simp)
theorem al8(p:Pl)(s:St):j5 p s=0↔uv p s/\∀a:Int,0<=a->a<p.1.length->qV (zu p a) (aY s.1 a) (aY s.2 a)=0:=by
 constructor
 ·intro h;have b:=F1 h;refine⟨b,λ a h0 c=>?_⟩;unfold j5 at h;rw[decide_eq_true b.c,decide_eq_true b.w]at h;exact(akC _ _ _ b.c b.w).1 h _ (by omega)
 ·intro⟨b,h⟩;unfold j5;rw[decide_eq_true b.c,decide_eq_true b.w];exact(akC _ _ _ b.c b.w).2 λ i d=>h i (by omega) (by omega)
theorem al2{l:List Int}{a:Int}(h0:0<=a)(h:a<l.length)(X:Int):aY (l.set a.toNat X) a=X:=by
 grind[aY]
theorem akA{p:Pl}{s:St}(n:bh p s=0){m:Int×Int}(h:mv p s m=0):
 n4 p m=true/\m.1≠m.2/\0<aY s.1 m.1/\aY s.1 m.2<zu p m.2/\(aY s.2 m.2=0\/aY s.2 m.2=aY s.2 m.1):=by
 obtain⟨o,g⟩:=nY n;unfold mv at h;cases a:n4 p m with
 |false=>rw[a]at h;cases h
 |true=>
  obtain⟨⟨i,j⟩,k,l⟩:=x7 a;obtain⟨q,c2⟩:=x4 g i j;obtain⟨d1,d2⟩:=x4 g k l;cases d:decide (m∈p.2)with
  |false=>rw[a,d]at h;cases h
  |true=>
   rw[a,d]at h;simp only[dk,cond_false]at h;cases b:(aY s.1 m.1==0)with
   |true=>rw[b]at h;cases h
   |false=>
    rw[b,cond_false]at h;cases c:(aY s.1 m.2==zu p m.2)with
    |true=>rw[c]at h;cases h
    |false=>
     rw[c,cond_false]at h;simp at b c;refine⟨rfl,(aaE o).2 m (of_decide_eq_true d),by omega,by omega,?_⟩;by_cases e:aY s.2 m.2=0
     ·exact .inl e
     ·by_cases f:aY s.2 m.2=aY s.2 m.1
      ·exact .inr f
      ·rw[show((aY s.2 m.2 !=0)&& (aY s.2 m.2 !=aY s.2 m.1))=true by simp[e,f]]at h;cases h
structure akl(p:Pl)(s t:St)(a b q:Int):Prop where
 o:0<=a
 j:a<p.1.length
 e:0<=b
 g:b<p.1.length
 d:a≠b
 n:1<=q
 r:q<=aY s.1 a
 m:q<=zu p b- aY s.1 b
 w:aY s.2 b=0\/aY s.2 b=aY s.2 a
 l:uv p t
 h:aY t.1 a=aY s.1 a- q
 f:aY t.1 b=aY s.1 b+q
 c:aY t.2 a=bif aY s.1 a==q then 0 else aY s.2 a
 k:aY t.2 b=aY s.2 a
 i:∀x:Int,0<=x->x≠a->x≠b->aY t.1 x=aY s.1 x/\aY t.2 x=aY s.2 x
theorem anm{p:Pl}{s:St}(k:bh p s=0){a b q:Int}(c:0<=a)(d:a<p.1.length)(f:0<=b)(g:b<p.1.length)(ne:a≠b)(l:1<=q)(m:q<=aY s.1 a)(n:q<=zu p b- aY s.1 b)
 (w:aY s.2 b=0\/aY s.2 b=aY s.2 a):akl p s (mq s a b q) a b q:=by
 obtain⟨j,p2⟩:=nY k;have h:=F1 p2;have k1:=h.c;have r:=h.w;obtain⟨o,c2⟩:=x4 p2 c d;obtain⟨d1,d2⟩:=x4 p2 f g;obtain⟨v,x⟩:=(aaE j).1 b f g;obtain⟨t,u⟩:=(aaE j).1 a c d;have w2:cr .i64 (aY s.1 a- q)=aY s.1 a- q:=nu (by omega) (by omega);have w3:cr .i64 (aY s.1 b+q)=aY s.1 b+q:=nu (by omega) (by omega);have i:=alh h a b q;have e:mq s a b q=((s.1.set a.toNat (aY s.1 a- q)).set b.toNat (aY s.1 b+q),bif aY s.1 a==q then(s.2.set b.toNat (aY s.2 a)).set a.toNat 0 else s.2.set b.toNat (aY s.2 a)):=by
  grind[mq,aiL,al2]
 rw[e]at i⊢;refine⟨c,d,f,g,ne,l,m,n,w,i,?_,?_,?_,?_,?_⟩
 all_goals grind[al2,aY,aiL,trans,h0]
theorem aop{p:Pl}{s:St}(c:bh p s=0){m:Int×Int}(h:mv p s m=0):∃q,akl p s (ap p s m) m.1 m.2 q:=by
 obtain⟨j,k⟩:=nY c;obtain⟨g,f,m1,m2,i⟩:=akA c h;obtain⟨⟨d,e⟩,a,b⟩:=x7 g;obtain⟨d1,d2⟩:=x4 k a b;obtain⟨l,n⟩:=(aaE j).1 m.2 a b;refine⟨_,anm c d e a b f ?_ ?_ ?_ i⟩<;>rw[nu (by omega) (by omega)]<;>unfold bu<;>split<;>omega
theorem amM{p:Pl}{s t:St}{a b q:Int}(c:bh p s=0)(M:akl p s t a b q):bh p t=0:=by
 obtain⟨o,d⟩:=nY c;obtain⟨l,k⟩:=(al8 p s).1 d;obtain⟨e,f,g,h,ne,r,u,v,n,m,e1,e2,i,j,e5⟩:=M;grind[bh,al8,h0,h1,ann,e1,e2,e5]
theorem aaY{p:Pl}{s:St}(a:bh p s=0){m:Int×Int}(h:mv p s m=0):bh p (ap p s m)=0:=by
 grind[aop,amM]
def rn(p:Pl):Nat->St->List (Int×Int)->St×Int×Int
 |_,s,[]=>(s,0,0)
 |i,s,m::r=>bif mv p s m==0 then rn p (i+1) (ap p s m) r else(([],[]),(i:Int),mv p s m)
def b7(p:Pl)(s:St)(l:List (Int×Int)):St×Int×Int:=bif decide (500<l.length)then(([],[]),0,8)else rn p 0 s l
theorem K3(p:Pl)(i:Nat)(s:St)(m:Int×Int)(r:List (Int×Int)):rn p i s (m::r)=bif mv p s m==0 then rn p (i+1) (ap p s m) r else(([],[]),(i:Int),mv p s m):=rfl
theorem alI{p:Pl}:(r:List (Int×Int))->(i:Nat)->(s:St)->bh p s=0->(rn p i s r).2.2=0->bh p (rn p i s r).1=0
 | [],_,_,h,_=>h
 |m::r,i,s,h,g=>by
  rw[K3]at g⊢;cases e:(mv p s m==0)with
  |true=>
   rw[e,cond_true]at g;exact alI r _ _ (aaY h (by grind)) g
  |false=>
   grind
def ndE(x:St×Int×Int):(I6×I6)×Int×Int:=bif x.2.2==0 then(nd x.1,0,0)else((z6,z6),x.2)
theorem aoe{n:Nat}(e:1000<=n){p:Pl}(hp:jg p){s:St}(b:bh p s=0)(l:List (Int×Int)):K2 n p (nd s) l=some (ndE (b7 p s l)):=by
 unfold K2 b7;rw[show decide (((b2 l))>(500:Int))=decide _ from Ig _ 500];cases a:decide (500<l.length)with
 |true=>rfl
 |false=>
  have d:=of_decide_eq_false a;refine abv (n:=n) l (λ i s=>(l,((b2 l):Int),(i:Int),p.1,p.2,(nd s).1.1,(nd s).1.2.1,(nd s).1.2.2.1,(nd s).1.2.2.2.1,(nd s).1.2.2.2.2.1,(nd s).1.2.2.2.2.2,(nd s).2.1,(nd s).2.2.1,(nd s).2.2.2.1,(nd s).2.2.2.2.1,(nd s).2.2.2.2.2.1,(nd s).2.2.2.2.2.2,0,0,0,0,0,0,0,0,0,0,0,0,()))
   (λ i s r=>some (ndE (rn p i s r))) (λ _ s=>bh p s=0) (by unfold ea;omega) ?_ ?_ s b (by omega)
  ·grind[ahB,akU,K3,bne,mv,ap,aaY,ndE,z6]
  ·intro s h c again;simp only[ahB,h,cond_false];rfl
theorem alw(p:Pl):(r:List (Int×Int))->(i:Nat)->(s:St)->((rn p i s r).2.2==0)=false->(rn p i s r).1=([],[])
 | [],_,_,h=>by cases h
 |m::r,i,s,h=>by
  rw[K3]at h⊢;cases e:(mv p s m==0)with
  |true=>
   rw[e,cond_true]at h;exact alw p r _ _ h
  |false=>rfl
theorem alT(p:Pl):(r:List (Int×Int))->(i:Nat)->(s:St)->((rn p i s r).2.2==0)=true->(rn p i s r).2=(0,0)
 | [],_,_,h=>rfl
 |m::r,i,s,h=>by
  rw[K3]at h⊢;cases e:(mv p s m==0)with
  |true=>
   rw[e,cond_true]at h;exact alT p r _ _ h
  |false=>
   grind
theorem aoy{p:Pl}{s:St}{l:List (Int×Int)}(h:((b7 p s l).2.2==0)=false):(b7 p s l).1=([],[]):=by
 grind[b7,alw]
theorem aor{p:Pl}{s:St}{l:List (Int×Int)}(h:((b7 p s l).2.2==0)=true):(b7 p s l).2=(0,0):=by
 grind[b7,alT]
theorem akO{p:Pl}{s:St}{l:List (Int×Int)}(a:bh p s=0)(h:((b7 p s l).2.2==0)=true):bh p (b7 p s l).1=0:=by
 grind[b7,alI]
theorem v51{n:Nat}(m:1000<=n){p:Pl}(hp:jg p){s:St}(c:bh p s=0)(l:List (Int×Int)):K4 n p s l=some (b7 p s l):=by
 have w:=(aaK (nY c).1).2.1;unfold K4 b7;rw[show decide (((b2 l))>(500:Int))=decide _ from Ig _ 500];cases k:decide (500<l.length)with
 |true=>rfl
 |false=>
  have y:=of_decide_eq_false k;refine abv (n:=n) l (λ i s=>(l,(i:Int),p.1,p.2,s.1,s.2,())) (λ i s r=>some (rn p i s r)) (λ _ s=>bh p s=0) (by unfold ea;omega) ?_ ?_ s c (by omega)
  ·intro i s x r o q t d f g a again B;have b:=F1 (nY a).2;simp only[ahM,f,cond_true,d,df,g];rw[show o5 n _ _ x=o5 n p s x from rfl,v40 m hp b,df,K3];simp only[bne];cases e:(mv p s x==0)with
   |true=>
    have j:mv p s x=0:=by grind
    obtain⟨A,z,_⟩:=akA a j;grind[v42,aaY]
   |false=>rfl
  ·intro s h a again;have b:=F1 (nY a).2;have u:=b.c;have v:=b.w;simp only[ahM,h,cond_false];rw[(MK n s (by omega) (by omega))];rfl
theorem v50(n:Nat)(l:List (Int×Int))(h:l.length<=1000):s50 n l=some l:=by
 grind[s50,zG]
theorem v48(n:Nat)(l:List (Int×Int)):∃b,s48 n l=some b/\(b=true->l.length<=502):=by
 refine⟨_,by unfold s48;rw[EO,jv,df],λ h=>?_⟩;grind[cy]
end
section
local instance:Dr:= ⟨false⟩
theorem ani{α:Type}{f g:α->Bool}:(l:List α)->(∀x∈l,f x=g x)->l.all f=l.all g
 | [],_=>rfl
 |x::r,h=>by grind
theorem al6{n:Nat}(p:1000<=n)(a b:List Int)(h:a.length<=900):zL n a b=some (decide (a=b)):=by
 unfold zL;rw[yG];by_cases e:a.length=b.length
 ·rw[decide_eq_true e];simp only[dk,cond_false];refine iy a (λ i=>(a,b,(i:Int),())) (λ i r=>some (decide (r=b.drop i))) (by unfold ea;omega) ?_ ?_ (by omega)
  ·intro i x r l m o d f g again k;obtain⟨c,j,c2,_⟩:=kG (s:=b) (i:=i) (by omega);simp only[Pu,f,cond_true,d,j,df,g,k,c2];by_cases q:x=c
   ·simp_all
   ·rw[show(x !=c)=true by grind];simp[q]
  grind[Pu]
 ·rw[decide_eq_false e];have:a≠b:=λ h=>e (h▸rfl);grind
theorem amm{n:Nat}(c:1000<=n)(a b:St)(h1:a.1.length<=900)(h2:a.2.length<=900):Mn n a b=some (decide (a=b)):=by
 unfold Mn;rw[al6 c _ _ h1,al6 c _ _ h2,df,jv,df];obtain⟨d,e⟩:=a;obtain⟨f,g⟩:=b;simp
theorem alO{n:Nat}(k:1000<=n)(l:List St)(s:St)(j:l.length<=900)(h:∀e∈l,e.1.length<=900/\e.2.length<=900):TV n l s=some (decide (s∈l)):=by
 refine iy l (λ i=>(l,(i:Int),s.1,s.2,())) (λ i r=>some (decide (s∈r))) (by unfold ea;omega) ?_ ?_ (by omega)
 ·intro i x r a b c d f g again m;grind[agp,amm]
 grind[agp]
theorem amn{p:Pl}{s:St}{m:Int×Int}(h:mv p s m=0):n4 p m=true:=by
 grind[mv]
theorem aiT{p:Pl}{s:St}{m:Int×Int}:m∈fV p s↔mv p s m=0:=by
 unfold fV u4 o8;simp only[List.mem_flatMap,List.mem_range'_1];constructor
 ·grind
 ·intro h;obtain⟨⟨a,b⟩,c,d⟩:=x7 (amn h);refine⟨m.1.toNat,by omega,m.2.toNat,by omega,?_⟩;grind
theorem anr{n:Nat}(f:1000<=n){p:Pl}(hp:jg p){s:St}(b:bh p s=0)(l:List St)(q:l.length<=900)(h:∀e∈l,uv p e):TH n p s l=some ((fV p s).all λ m=>decide (ap p s m∈l)):=by
 have a:=(aaK (nY b).1).2.1;have c:=F1 (nY b).2;unfold TH;rw[show zY n _ _=zY n p s from rfl,v39 f hp c a,df];have z:=ami p s;have:p.1.length*p.1.length<=6*6:=Nat.mul_le_mul a a;refine iy _ (λ i=>(l,fV p s,(i:Int),p.1,p.2,s.1,s.2,())) (λ i r=>some (r.all _)) (by unfold ea;omega) ?_ ?_ (by omega)
 ·intro i x r w g y j k o again v;obtain⟨u,t,_⟩:=akA b (aiT.1 (dr g));simp only[acw,k,cond_true,j,df];rw[show u9 n _ _ x=u9 n p s x from rfl,v42 c a u t,df,
   alO f l _ q λ e d=>by have:=(h e d).c;have:=(h e d).w;omega,df,o,v,ej]
  grind
 grind[acw]
def lE(p:Pl):List St->Int
 | []=>0
 |s::r=>bif j5 p s==0 then lE p r else j5 p s
def fH(p:Pl):List (List St)->Int
 | []=>0
 |l::r=>bif lE p l==0 then fH p r else lE p l
theorem ak0{p:Pl}:{l:List St}->lE p l=0->∀s∈l,j5 p s=0
 | [],_,s,h=>by cases h
 |x::r,h,s,hs=>by
  unfold lE at h;cases e:(j5 p x==0)with
  |false=>rw[e,cond_false]at h;rw[h]at e;cases e
  |true=>
   rw[e,cond_true]at h;rcases fv.1 hs with rfl|a
   ·simpa using e
   ·exact ak0 h s a
theorem akH{p:Pl}:{l:List (List St)}->fH p l=0->∀c∈l,∀s∈c,j5 p s=0
 | [],_,s,h=>by cases h
 |x::r,h,s,hs=>by
  unfold fH at h;cases e:(lE p x==0)with
  |false=>rw[e,cond_false]at h;rw[h]at e;cases e
  |true=>
   rw[e,cond_true]at h;rcases fv.1 hs with rfl|a
   ·exact ak0 (by simpa using e)
   ·exact akH h s a
theorem anH{n:Nat}(b:1000<=n){p:Pl}(hp:jg p)(l:List St)(a:l.length<=60):abJ n p l=some (lE p l):=by
 refine iy l (λ i=>(l,(i:Int),p.1,p.2,())) (λ i r=>some (lE p r)) (by unfold ea;omega) ?_ ?_ (by omega)
 all_goals grind[aku,sM,Mc,lE,bne,j5]
def ov(p:Pl)(t:Tk):List St->List (List St)->Bool
 |_,[]=>true
 |_,[c]=>c.all λ s=>!xN t s
 |k,c::x::r=>(c.all λ s=>!xN t s&& (fV p s).all λ m=>decide (ap p s m∈k++x))&&ov p t (k++x) (x::r)
def u7(p:Pl)(t:Tk):List (List St)->Bool
 | []=>false
 |c::r=>decide (t.1∈c)&&ov p t c (c::r)
def o7(p:Pl)(t:Tk)(l:List (List St)):Int:=bif fH p l==0 then(bif u7 p t l then 0 else 20)else fH p l
theorem alx{n:Nat}(a:1000<=n){p:Pl}(hp:jg p)(H:(mQ p).2=0){t:Tk}(A:uv p t.2)(l:List (List St))(i:Nat)(c:List St)(q:aG l (i:Int)=some c)(G:c.length<=60)
 (y:∀s∈c,j5 p s=0) (k:List St) (u:k.length<=900) (v:∀e∈k,uv p e) (b:Bool) (w:decide (cr .i64 ((i:Int)+1)< (b2 l:Int))=b) (K0 K1):
 cq (K6 n) n (l,(i:Int),0,p.1,p.2,t.1.1,t.1.2,t.2.1,t.2.2,k,()) (K0,K1,())=
  bif c.all (λ s=>!xN t s&& (!b|| (fV p s).all λ m=>decide (ap p s m∈k)))then K0 (l,(i:Int),p.1,p.2,t.1.1,t.1.2,t.2.1,t.2.2,k,())else K1 (20,()):=by
 refine iy (n:=n) c (λ j=>(l,(i:Int),(j:Int),p.1,p.2,t.1.1,t.1.2,t.2.1,t.2.2,k,()))
  (λ j r=>bif r.all _ then K0 _ else K1 _) (by unfold ea;omega) ?_ ?_ (by omega)
 ·intro j x r D f E g h o again C;have B:=y x (dr f);have z:bh p x=0:=by grind[bh]
  have d:wS n t x=some (xN t x):=v28 a hp A (F1 B);have F:TH n p x k=_:=anr a hp z k u v;simp only[K6,q,df,h,cond_true,g,w,d,jv,o,C,ej];grind[jv,yR]
 grind[K6]
theorem nxt{α:Type}{l:List α}{i:Nat}{x y:α}{r:List α}(h:l.drop i=x::y::r):aG l ((i+1:Nat):Int)=some y/\i+1<l.length:=by
 have a:l.drop (i+1)=y::r:=by rw[<-List.drop_drop,h];rfl
 have e:l[i+1]?=some y:=by
  have:=congrArg (λ q=>q[0]?) a;grind
 exact⟨by trivial,by grind⟩
theorem lst{α:Type}{l:List α}{i:Nat}{x:α}(h:l.drop i= [x]):i+1=l.length:=by
 have:=congrArg b2 h;grind
theorem amJ{n:Nat}(m:1000<=n){p:Pl}(hp:jg p)(o:(mQ p).2=0){t:Tk}(q:uv p t.2)(l:List (List St))(I:l.length<=12)(d:∀c∈l,c.length<=60)(f:∀c∈l,∀s∈c,j5 p s=0)
 (k:List St) (D:k.length<=60) (a:∀e∈k,uv p e):
 cq (K8 n) n (l,0,p.1,p.2,t.1.1,t.1.2,t.2.1,t.2.2,k,()) (λ _=>some 0,λ(F,_)=>some F,())=some (bif ov p t k l then 0 else 20):=by
 refine abv (n:=n) l (λ i k=>(l,(i:Int),p.1,p.2,t.1.1,t.1.2,t.2.1,t.2.2,k,())) (λ i k r=>some (bif ov p t k r then 0 else 20))
  (λ i k=>k.length<=60+60*i/\∀e∈k,uv p e) (by unfold ea;omega) ?_ ?_ k ⟨by omega,a⟩ (by omega)
 ·intro i k x r G v w g z A j again J;obtain⟨D,a⟩:=j;have b:=dr v;simp only[K8,z,cond_true];cases r with
  |nil=>
   have e:decide (cr .i64 ((i:Int)+1)< (b2 l:Int))=false:=by
    grind[lst]
   rw[e,cond_false,alx m hp o q l i x g (d x b) (f x b) k (by omega) a _ e];grind[ov]
  |cons y r=>
   obtain⟨B,H⟩:=nxt w;have e:decide (cr .i64 ((i:Int)+1)< (b2 l:Int))=true:=by
    grind
   have u:y∈l:=dr (by trivial);have:=d y u;have E:∀e∈k++y,uv p e:=λ e C=>(gu.1 C).elim (a e) λ h=>F1 (f y u e h);rw[e,cond_true,A,B,df,zG (by omega),df,
    alx m hp o q l i x g (d x b) (f x b) _ (by grind) E _ e]
   grind[ov]
 ·intro k h j again;simp only[K8,h,cond_false];rfl
theorem aml{n:Nat}(d:1000<=n){p:Pl}(hp:jg p)(t:Tk)(l:List (List St))(b:l.length<=12)(a:∀c∈l,c.length<=60)(K0 K1):
 cq (agV n) n (l,0,p.1,p.2,t.1.1,t.1.2,t.2.1,t.2.2,()) (K0,K1,())=bif fH p l==0 then K0 (l,p.1,p.2,t.1.1,t.1.2,t.2.1,t.2.2,())else K1 (fH p l,()):=by
 refine iy (n:=n) l (λ i=>(l,(i:Int),p.1,p.2,t.1.1,t.1.2,t.2.1,t.2.2,())) (λ i r=>bif fH p r==0 then K0 _ else K1 (fH p r,()))
  (by unfold ea;omega) ?_ ?_ (by omega)
 all_goals grind[agV,abJ,anH,dr,fH,bne,lE,ee]
theorem aoq{n:Nat}(e:1000<=n)(p:Pl)(t:Tk)(l:List (List St))(d:l.length<=12)(b:∀c∈l,c.length<=60)(K X)(hK:∀all:Int,all<=900->K (l,all,p.1,p.2,t.1.1,t.1.2,t.2.1,t.2.2,())=X):
 cq (agG n) n (l,(b2 l:Int),0,p.1,p.2,t.1.1,t.1.2,t.2.1,t.2.2,()) (K,())=X:=by
 refine abv (n:=n) l (λ i(a:Int)=>(l,a,(i:Int),p.1,p.2,t.1.1,t.1.2,t.2.1,t.2.2,())) (λ i k r=>X)
  (λ i a=>0<=a/\a<=12+60*i) (by unfold ea;omega) ?_ ?_ _ (by omega) (by omega)
 all_goals grind[dr,agG,nu]
theorem v66{n:Nat}(d:1000<=n){p:Pl}(hp:jg p){t:Tk}(hT:kX p t=0)(l:List (List St))(g:l.length<=12)(a:∀c∈l,c.length<=60):s66 n p t l=some (o7 p t l):=by
 obtain⟨o,i⟩:=L6 hT;obtain⟨q,s⟩:=RJ i;unfold s66;refine aoq d p t l g a _ _ λ all k=>?_;dsimp only;rw[(decide_eq_false (by omega)),cond_false,aml d hp t l g a];unfold o7;cases hE:(fH p l==0)with
 |false=>rfl
 |true=>
  have h:=akH (show fH p l=0 by grind);simp only[cond_true];cases l with
  |nil=>rfl
  |cons c r=>
   have b:c∈c::r:=by simp
   have m:=a c b;rw[show(((b2 _):Int)==0)=false by rfl,show aG _ 0=some c from rfl];have j:TV n c t.1=_:=alO d c t.1 (by omega) λ e f=>by
    have:=(F1 (h c b e f)).c;have:=(F1 (h c b e f)).w;have:=hp.v;omega
   grind[ee,jv,u7,decide,dk,zG,amJ,F1]
end
section
local instance:Dr:= ⟨false⟩
abbrev ND:=I6×I6
instance aox:DecidableEq ND:=instDecidableEqProd
theorem alQ{a b:List Int}(h:i6 a=i6 b)(c:a.length=b.length)(h6:a.length<=6):a=b:=by
 grind[l6,anA,List.append_inj]
theorem amr{p:Pl}(h6:p.1.length<=6){a b:St}(c:uv p a)(d:uv p b)(h:nd a=nd b):a=b:=by
 have:=c.c;have:=c.w;have:=d.c;have:=d.w;exact Prod.ext (alQ (congrArg Prod.fst h) (by omega) (by omega)) (alQ (congrArg Prod.snd h) (by omega) (by omega))
theorem alZ{p:Pl}(h6:p.1.length<=6){a:St}(b:uv p a){k:List St}(c:∀e∈k,uv p e):decide (nd a∈k.map nd)=decide (a∈k):=by
 grind[amr]
theorem ald(a b:ND):Ty.f dy a b=true↔a=b:=by
 grind[Ty.f]
theorem amb(e:ND)(z:ND):(l:List ((ND)×Bool))->(j4 (Ty.f dy) (lz (Ty.f dy) l e true) z).getD false=(decide (z=e)|| (j4 (Ty.f dy) l z).getD false)
 | []=>by
  grind[lz,j4,Ty.f,ald]
 |x::r=>by
  unfold lz;cases h:Ty.f dy _ e with
  |true=>
   grind[ald,j4,Ty.f]
  |false=>
   simp only[cond_false];unfold j4;cases a:Ty.f dy _ z with
   |true=>
    grind
   |false=>
    exact amb e z r
def NI(m:List ((ND)×Bool))(k:List (ND)):Prop:=∀z,(j4 (Ty.f dy) m z).getD false=decide (z∈k)
theorem aok{m k}(h:NI m k)(e:ND):NI (lz (Ty.f dy) m e true) (k++ [e]):=λ z=>by
 rw[amb,h z];grind
theorem anO{n:Nat}(h:1000<=n)(s:List (ND))(v:ND)(g:s.length<=900):afQ n s v=some (decide (v∈s)):=by
 have:=iy (n:=n) (body:=aaw n) (ks:=(λ(_)=>some ((-1:Int)),λ(d,_)=>some (d),())) s
  (λ i=>(s,((b2 s:Nat):Int),(i:Int),v.1.1,v.1.2.1,v.1.2.2.1,v.1.2.2.2.1,v.1.2.2.2.2.1,v.1.2.2.2.2.2,v.2.1,v.2.2.1,v.2.2.2.1,v.2.2.2.2.1,v.2.2.2.2.2.1,v.2.2.2.2.2.2,()))
  (λ i r=>some (match r.findIdx? λ e=>decide (e=v)with|some k=>((i+k:Nat):Int)|none=> -1)) (by unfold ea;omega) ?_ ?_ (by omega)
 ·show(agA n s v).bind _=_;grind[agA,decide,fl,h1,h2,eH,gf]
 ·intro i x r h1 h2 f a b c again j;simp only[aaw,b,a,c,df,cond_true];have e:(((v.1.1==x.1.1)&& ((v.1.2.1==x.1.2.1)&& ((v.1.2.2.1==x.1.2.2.1)&& ((v.1.2.2.2.1==x.1.2.2.2.1)&& ((v.1.2.2.2.2.1==x.1.2.2.2.2.1)&& (v.1.2.2.2.2.2==x.1.2.2.2.2.2))))))&& ((v.2.1==x.2.1)&& ((v.2.2.1==x.2.2.1)&& ((v.2.2.2.1==x.2.2.2.1)&& ((v.2.2.2.2.1==x.2.2.2.2.1)&& ((v.2.2.2.2.2.1==x.2.2.2.2.2.1)&& (v.2.2.2.2.2.2==x.2.2.2.2.2.2)))))))=decide (x=v):=by
   grind
  grind
 grind[aaw]
theorem anD{n:Nat}(v:1000<=n)(s:List (ND))(f:ND->Option Bool)(g:ND->Bool)(u:s.length<=900)(o:∀e∈s,f e=some (g e)):abY n s f=some (s.any g):=by
 have:=iy (n:=n) (body:=N8 n) (ks:=(λ(_)=>some ((-1:Int)),λ(q,_)=>some (q),())) s
  (λ i=>(s,f,((b2 s:Nat):Int),(i:Int),()))
  (λ i r=>some (match r.findIdx? g with|some k=>((i+k:Nat):Int)|none=> -1)) (by unfold ea;omega) ?_ ?_ (by omega)
 ·show(Pg n s f).bind (λ x=>some (decide (x>=0)))=_;rw[show Pg n s f=_ from this,df]
  congr 1
  cases c:s.findIdx? g with
  |none=>
   have:s.any g=false:=by
    rw[Bool.eq_false_iff];intro h;obtain⟨x,b,a⟩:=gb.1 h;have:=fl.1 c x b;rw[this]at a;cases a
   rw[this];rfl
  |some k=>
   obtain⟨b,a,_⟩:=eH.1 c;rw[gb.2 ⟨_,gf b,a⟩];simp
 ·intro i x r b a t j l m again p;simp only[N8,l,j,m,df,cond_true,o x (dr a)];cases d:g x with
  |true=>simp[ew,d]
  |false=>
   simp only[cond_false];rw[p,ew,d];cases r.findIdx? g with
   |none=>rfl
   |some k=>simp;omega
 ·intro h again;simp only[N8,h,cond_false];rfl
theorem an6{n:Nat}(a:1000<=n){p:Pl}(hp:jg p)(h6:p.1.length<=6){t:Tk}(f:uv p t.2)(c:List St)(h:c.length<=60)(b:∀e∈c,uv p e):
 abY n (c.map nd) (λ g=>ud n (some (GC p t)) g)=some (c.any (xN t)):=by
 have e:∀s∈c,ud n (some (GC p t)) (nd s)=some (xN t s):=λ s d=>v92 a hp h6 f (b s d) _;rw[anD a (c.map _) _ (λ z=>(ud n (some (GC p t)) z).getD false) (by grind) _]
 all_goals grind
theorem akq{α β:Type}(f:α->β)(l:List α)(i:Nat):aG (l.map f) (i:Int)=(aG l (i:Int)).map f:=by
 grind[oR]
end
section
local instance:Dr:= ⟨false⟩
abbrev Nr:=List (ND×Bool)
theorem aoh:NI [] []:=λ z=>rfl
theorem alA{m:Nr}{k r:List ND}{i:Nat}{x:ND}(h:NI m (k++r.take i))(a:r[i]?=some x):NI (lz (Ty.f dy) m x true) (k++r.take (i+1)):=by
 rw[BD a,<-eL];exact aok h x
theorem am5{n:Nat}(a:1000<=n)(l:List (List ND))(t:Option aeu)(r:List ND)(c:r.length<=60)(b:Bool)(K X)(hK:∀m:Nr,NI m r->K (l,t,b,m,())=X):
 cq (aaZ n) n (l,t,r,(b2 r:Int),0,b,[],()) (K,())=X:=by
 refine abv (n:=n) r (λ i(m:Nr)=>(l,t,r,(b2 r:Int),(i:Int),b,m,())) (λ i m r=>X) (λ i m=>NI m ([]++r.take i)) (by unfold ea;omega) ?_ ?_ _ (by simpa using aoh) (by omega)
 all_goals grind[aaZ,alA]
theorem amF{n:Nat}(d:1000<=n)(l:List (List ND))(t:Option aeu)(c:List ND)(y:List (List ND))(u v:Int)(r:List ND)(e:r.length<=60)(b:Bool)(k:List ND)(a:Nr)(h0:NI a k)(K X)
 (hK:∀m:Nr,NI m (k++r)->K (l,t,c,y,u,v,b,m,())=X):
 cq (abr n) n (l,t,c,y,u,v,r,(b2 r:Int),0,b,a,()) (K,())=X:=by
 refine abv (n:=n) r (λ i(m:Nr)=>(l,t,c,y,u,v,r,(b2 r:Int),(i:Int),b,m,())) (λ i m r=>X) (λ i m=>NI m (k++r.take i)) (by unfold ea;omega) ?_ ?_ _ (by grind) (by omega)
 all_goals grind[abr,alA]
theorem alB(n:Nat)(l:List (List ND))(t:Option aeu)(y:List (List ND))(u v:Int)(c:List ND)(w z:Int)(q:List MvN)(b:Bool)(m:Nr)(K done):(r:List MvN)->
 la (x5 n) (K,()) done r (l,t,y,u,v,c,w,z,q,b,m,())=bif r.all (λ y=>(j4 (Ty.f dy) m y.2).getD false)then done (l,t,y,u,v,c,w,z,q,b,m,())else K (false,())
 | []=>rfl
 |x::r=>by
  rw[la];simp only[x5,ej];rw[alB n l t y u v c w z q b m K _ r];grind
theorem amE{n:Nat}(w:1000<=n){p:Pl}(hp:jg p)(A:(mQ p).2=0)(t:Tk)(l y:List (List ND))(u v:Int)(c:List St)(F:c.length<=60)(z:∀s∈c,j5 p s=0)(b:Bool)
 (k:List St) (i:∀e∈k,uv p e) (m:Nr) (o:NI m (k.map nd)) (K0 K1):
 cq (y7 n) n (l,some (GC p t),y,u,v,c.map nd,(b2 (c.map nd):Int),0,b,m,()) (K0,K1,())=
  bif c.all (λ s=>(fV p s).all λ m=>decide (ap p s m∈k))then K0 (l,some (GC p t),y,u,v,b,m,())else K1 (false,()):=by
 rw[eV];refine iy (n:=n) c (λ j=>(l,some (GC p t),y,u,v,c.map nd,(b2 c:Int),(j:Int),b,m,()))
  (λ j r=>bif r.all _ then K0 _ else K1 _) (by unfold ea;omega) ?_ ?_ (by omega)
 ·intro j x r C d D f g E again H;have G:=z x (dr d);have a:bh p x=0:=by grind[bh]
  have h:=(aaK A).2.1;simp only[y7,g,cond_true,akq,f,eQ,df];rw[show tN n (GC p t).1 _=(Gt n p _).bind _ from rfl,
   amG w hp a,df,df,alB,List.all_map]
  rw[show((fV p x).all _)=(fV p x).all λ m=>decide (ap p x m∈k)from ani _ λ q B=>by
   show(j4 (Ty.f dy) m (nd _)).getD _=_;rw[o,alZ h (F1 (nY (aaY a (aiT.1 B))).2) i]]
  grind
 grind[y7]
theorem ank{n:Nat}(o:1000<=n){p:Pl}(hp:jg p)(B:(mQ p).2=0){t:Tk}(K:uv p t.2)(l:List (List St))(R:l.length<=12)(w:∀c∈l,c.length<=60)(q:∀c∈l,∀s∈c,j5 p s=0)
 (k:List St) (f:∀e∈k,uv p e) (m:Nr) (g:NI m (k.map nd)) (b:Bool):
 cq (z7 n) n (l.map (·.map nd),some (GC p t),l.map (·.map nd),(b2 (l.map (·.map nd)):Int),0,b,m,()) (λ _=>some true,λ(O,_)=>some O,())=some (ov p t k l):=by
 have H:=(aaK B).2.1;rw[eV];refine abv (n:=n) l (λ i A=>(l.map (·.map nd),some (GC p t),l.map (·.map nd),(b2 l:Int),(i:Int),b,A.2,())) (λ i A r=>some (ov p t A.1 r))
  (λ i A=>(∀e∈A.1,uv p e)/\NI A.2 (A.1.map nd)) (by unfold ea;omega) ?_ ?_ (k,m) ⟨f,g⟩ (by omega)
 ·intro i A x r P C D E F u v again N;obtain⟨k,m⟩:=A;obtain⟨f,g⟩:=v;have a:=dr C;have L:∀e∈x,uv p e:=λ e d=>F1 (q x a e d);simp only[z7,F,cond_true,akq,E,eQ,df,an6 o hp H K x (w x a) L,eV,SF (show l.length<=1000 by omega)];have I:(x.any (xN t))=!(x.all λ s=>!xN t s):=by
   grind
  rw[I];cases r with
  |nil=>
   grind[lst,ov]
  |cons y r=>
   obtain⟨G,Q⟩:=nxt D;have M:y∈l:=dr (by trivial);have z:∀e∈k++y,uv p e:=λ e d=>(gu.1 d).elim (f e) λ h=>F1 (q y M e h);rw[show((i:Int)==l.length- 1)=false by grind];simp only[cond_false,u,akq,G,eQ,df,ov];have J:(x.all λ s=>!xN t s&& (fV p s).all λ m=>decide (ap p s m∈k++y))=((x.all λ s=>!xN t s)&&x.all λ s=>(fV p s).all λ m=>decide (ap p s m∈k++y)):=by
    grind
   rw[J];cases(x.all _)with
   |false=>rfl
   |true=>
    simp only[dk,cond_false,Bool.true_and];refine amF o _ _ _ _ _ _ (y.map nd) (by grind) b (k.map nd) m g _ _ λ m' j=>?_;dsimp only;rw[<-gl]at j;rw[amE o hp B t _ _ _ _ x (w x a) (q x a) b _ z _ j];dsimp only;rw[u,N (k++y,m') ⟨z,j⟩];grind
 ·intro A h v again;simp only[z7,h,cond_false];rfl
theorem anE{n:Nat}(b:1000<=n){p:Pl}(hp:jg p){t:Tk}(hT:kX p t=0)(l:List (List St))(v:l.length<=12)(g:∀c∈l,c.length<=60)(j:∀c∈l,∀s∈c,j5 p s=0):
 afY n (l.map (·.map nd)) (some (GC p t))=some (u7 p t l):=by
 obtain⟨k,o⟩:=L6 hT;obtain⟨q,x⟩:=RJ o;have f:=(aaK k).2.1;unfold afY;cases l with
 |nil=>rfl
 |cons c r=>
  have a:c∈c::r:=by simp
  have u:=g c a;have h:∀e∈c,uv p e:=λ e i=>F1 (j c a e i);have d:afQ n (c.map nd) (GC p t).2.2=some (decide (t.1∈c)):=by
   rw[<-alZ f q h];exact anO b _ _ (by grind)
  rw[show(((b2 _):Int)==0)=false by rfl,show aG _ 0=some (c.map nd)from rfl];simp only[ee,jv,cond_true,df,d,u7,gE];cases decide (t.1∈c)with
  |false=>rfl
  |true=>
   simp only[dk,cond_false,Bool.true_and];refine am5 b _ _ (c.map nd) (by grind) false _ _ λ m w=>?_;grind[ank]
end
section
local instance:Dr:= ⟨false⟩
theorem amu{n:Nat}(e:1000<=n)(l:List (List St))(t:Option aeu)(d:l.length<=12)(b:∀c∈l,c.length<=60)(K X)(hK:∀a:Int,a<=900->K (l,t,a,())=X):
 cq (agU n) n (l,t,(b2 l:Int),l,(b2 l:Int),0,()) (K,())=X:=by
 refine abv (n:=n) l (λ i(a:Int)=>(l,t,a,l,(b2 l:Int),(i:Int),())) (λ i k r=>X)
  (λ i a=>0<=a/\a<=12+60*i) (by unfold ea;omega) ?_ ?_ _ (by omega) (by omega)
 all_goals grind[dr,agU,nu]
theorem ams{n:Nat}(h:1000<=n){p:Pl}(hp:jg p)(t:Tk)(l y:List (List St))(u v:Int)(c:List St)(w:c.length<=60)(o:List (List ND))(K0 K1):
 cq (K9 n) n (l,some (GC p t),y,u,v,c,(b2 c:Int),0,o,[],()) (K0,K1,())=bif lE p c==0 then K0 (l,some (GC p t),y,u,v,o,c.map nd,())else K1 (0,lE p c,()):=by
 refine abv (n:=n) c (λ i(a:List ND)=>(l,some (GC p t),y,u,v,c,(b2 c:Int),(i:Int),o,a,())) (λ i a r=>bif lE p r==0 then K0 (l,some _,y,u,v,o,a++r.map nd,())else K1 (0,lE p r,()))
  (λ i a=>a.length<=i) (by unfold ea;omega) ?_ ?_ _ (by simp) (by omega)
 ·intro i a x r k m q b d f s again j;have g:px n (GC p t).1 x=some (j5 p x):=SZ h hp x;simp only[K9,d,cond_true,b,df,g,lE];simp only[bne];cases e:(j5 p x==0)with
  |false=>grind
  |true=>
   simp only[dk,cond_false,cond_true];rw[show tj n _=some (nd x)from rfl,df,zG (by grind),df,f,j (a++ [nd x]) (by grind)];simp
 grind[K9,lE]
theorem anj{n:Nat}(e:1000<=n){p:Pl}(hp:jg p)(t:Tk)(l:List (List St))(d:l.length<=12)(b:∀c∈l,c.length<=60)(K0 K1):
 cq (ack n) n (l,some (GC p t),l,(b2 l:Int),0,[],()) (K0,K1,())=bif fH p l==0 then K0 (l,some (GC p t),l.map (·.map nd),())else K1 (0,fH p l,()):=by
 refine abv (n:=n) l (λ i(a:List (List ND))=>(l,some (GC p t),l,(b2 l:Int),(i:Int),a,())) (λ i a r=>bif fH p r==0 then K0 (l,some _,a++r.map (·.map nd),())else K1 (0,fH p r,()))
  (λ i a=>a.length<=i) (by unfold ea;omega) ?_ ?_ _ (by simp) (by omega)
 all_goals grind[ack,ams,dr,fH,lE,zG,nd]
def lyE(p:Pl)(t:Tk)(l:List (List St)):Int:=bif kX p t==0 then o7 p t l else kX p t
def z8(e:Int)(m:Nat):Int×Int:=bif e==0 then((m:Int),0)else(0,e)
theorem v63{n:Nat}(b:1000<=n){p:Pl}(hp:jg p)(t:Tk)(l:List (List St))(e:l.length<=12)(d:∀c∈l,c.length<=60):s63 n p t l=some (z8 (lyE p t l) l.length):=by
 unfold s63;rw[show vm n _ _=vm n p t from rfl,v90 b hp,df];unfold lyE z8;cases h:(kX p t==0)with
 |false=>grind
 |true=>
  simp only[cond_true,bne,beq_self_eq_true,dk,cond_false];refine amu b l _ e d _ _ λ a f=>?_;dsimp only;rw[(decide_eq_false (by omega)),cond_false,anj b hp t l e d];grind[o7,fH,anE,kX,akH,akf,tP,ia,u7]
def z0(p:Pl):St:=(ef p.1.length 0,ef p.1.length 0)
theorem amH{p:Pl}:nd (z0 p)=(z6,z6):=by
 grind[nd,z0,i6,z6]
def r8(p:Pl)(t:Tk)(l:List (Int×Int)):Int:=bif (b7 p t.1 l).2.2==0 then(bif xN t (b7 p t.1 l).1 then 0 else 20)else(b7 p t.1 l).2.2
def mE(p:Pl)(t:Tk)(l:List (Int×Int)):Int:=bif kX p t==0 then r8 p t l else kX p t
theorem v62{n:Nat}(a:1000<=n){p:Pl}(hp:jg p)(t:Tk)(l:List (Int×Int)):s62 n p t l=some (z8 (mE p t l) l.length):=by
 unfold s62;rw[show vm n _ _=vm n p t from rfl,v90 a hp,df];unfold mE z8;cases h:(kX p t==0)with
 |false=>grind
 |true=>
  obtain⟨g,i⟩:=L6 (show kX p t=0 by grind);obtain⟨o,j⟩:=RJ i;have d:=(aaK g).2.1;have b:bh p t.1=0:=by
   grind[bh,rZ]
  simp only[cond_true,bne,beq_self_eq_true,dk,cond_false,df];rw[show K2 n (GC p t).1 (GC p t).2.2 l=K2 n p (nd _) l from rfl,aoe a hp b,df];have c (s:St) (f:uv p s):ud n (some (GC p t)) (nd s)=some (xN t s):=v92 a hp d j f _;unfold r8 ndE;cases e:((b7 p _ l).2.2==0)with
  |false=>
   have:=c (z0 p) ⟨by simp[z0],by simp[z0]⟩;grind[amH,tP,BO,Jo]
  |true=>
   obtain⟨k,m⟩:=nY (akO b e);grind[F1,ud,GC,tP,BO,Jo,bne,ia,xN,b7]
theorem v65{n:Nat}(a:1000<=n){p:Pl}(hp:jg p){t:Tk}(hT:kX p t=0)(l:List (Int×Int)):s65 n p t l=some (r8 p t l):=by
 obtain⟨d,c⟩:=L6 hT;obtain⟨e,f⟩:=RJ c;have b:bh p t.1=0:=by
  grind[bh,rZ]
 unfold s65 r8;rw[show K4 n _ _ l=K4 n p _ l from rfl,v51 a hp b,df];grind[bne,b7,Rq,wS,xN,v28,F1,nY,akO,dk]
end
section
local instance:Dr:= ⟨false⟩
def u6(s:St):Bool:=decide (s.1.length<=10)&&decide (s.2.length<=10)
def u5(l:List (List St)):Bool:=l.all λ c=>decide (c.length<=60)&&c.all u6
theorem amX(n:Nat)(s:St):wX n s=some (u6 s):=by
 grind[wX,u6]
theorem v61{n:Nat}(p:1000<=n)(l:List (List St)):s61 n l=some (decide (l.length<=12)&&u5 l):=by
 unfold s61;rw[show decide (((b2 l))>(12:Int))=decide _ from Ig _ 12];by_cases h:l.length<=12
 ·rw[decide_eq_true h,decide_eq_false (by omega),cond_false,Bool.true_and];refine iy (n:=n) l (λ i=>(l,(i:Int),())) (λ i r=>some (u5 r)) (by unfold ea;omega) ?_ ?_ (by omega)
  ·intro i x r g k m a b o again t;simp only[ag1,b,cond_true,a,df];rw[show decide (((b2 x))>(60:Int))=decide _ from Ig _ 60];by_cases s:x.length<=60
   ·rw[decide_eq_false (by omega),cond_false];have:=iy (n:=n) (body:=agM n) (ks:=(λ(e,d,_)=>again (e,cr .i64 (d+1),()),λ(f,_)=>some f,())) x (λ j=>(l,(i:Int),(j:Int),())) (λ j q=>some (q.all u6&&u5 r)) (by unfold ea;omega) ?_ ?_ (by omega)
    all_goals grind[u5,agM,amX,u6]
   grind[u5]
  ·intro c again;simp only[ag1,c,cond_false];rfl
 grind
theorem v71{n:Nat}(k:1000<=n)(l:List St)(j:l.length<=60)(h:∀s∈l,u6 s=true):s71 n l=some l:=by
 refine hg (abv (n:=n) l (λ i o=>(l,(i:Int),o,())) (λ i o r=>some (o++r)) (λ i o=>o.length<=i) (by unfold ea;omega) ?_ ?_ _ (by simp) (by omega)) rfl
 ·intro i o x r b a c d e f g again p;have m:=h x (dr a);grind[u6,aeO,MK,zG]
 grind[aeO]
theorem v64{n:Nat}(k:1000<=n)(l:List (List St))(j:l.length<=12)(h:u5 l=true):s64 n l=some l:=by
 refine hg (abv (n:=n) l (λ i o=>(l,(i:Int),o,())) (λ i o r=>some (o++r)) (λ i o=>o.length<=i) (by unfold ea;omega) ?_ ?_ _ (by simp) (by omega)) rfl
 ·intro i o x r b a c d e f g again p;have m:=eo.1 h x (dr a);grind[afc,v71,zG]
 grind[afc]
theorem far{p:Pl}{t:Tk}:(r:List (List St))->(k c:List St)->(i:Nat)->(s:St)->(l:List (Int×Int))->ov p t k (c::r)=true->
 (∀a∈k,a∈c\/((∀m∈fV p a,ap p a m∈k)/\xN t a=false))->s∈k->bh p s=0->(rn p i s l).2.2=0->xN t (rn p i s l).1=true->r.length+1<=l.length:=by
 intro r
 induction r with
 |nil=>
  intro k c i s l d e f hp g b;cases l with
  |nil=>
   exfalso;have b:xN t s=true:=b;rcases e s f with h| ⟨_,h⟩
   ·have:=eo.1 d s h;grind
   grind
  |cons m l=>simp
 |cons x r j=>
  intro k c i s l d e f hp g b;simp only[ov,en,eo]at d;obtain⟨o,q⟩:=d;have key:∀a∈k,(∀m∈fV p a,ap p a m∈k++x)/\xN t a=false:=λ a n=>by
   grind
  cases l with
  |nil=>
   exfalso;have b:xN t s=true:=b;grind
  |cons m l=>
   grind[K3,aiT,aaY]
theorem am0{p:Pl}{t:Tk}{l:List (Int×Int)}{w:List (List St)}(hT:kX p t=0)(h1:r8 p t l=0)(h2:o7 p t w=0):w.length<=l.length:=by
 obtain⟨g,d⟩:=L6 hT;have h:bh p t.1=0:=by
  unfold bh;rw[g];unfold rZ at d;cases e:(j5 p t.1==0)with
  |true=>simpa using e
  |false=>rw[e,cond_false]at d;exact d
 unfold r8 at h1;cases e:((b7 p t.1 l).2.2==0)with
 |false=>rw[e,cond_false]at h1;rw[h1]at e;cases e
 |true=>
  rw[e,cond_true]at h1;cases a:xN t (b7 p t.1 l).1 with
  |false=>rw[a]at h1;cases h1
  |true=>
   unfold o7 at h2;cases i:(fH p w==0)with
   |false=>grind
   |true=>
    cases b:u7 p t w with
    |false=>grind
    |true=>
     cases w with
     |nil=>simp
     |cons c r=>
      simp only[u7,en,decide_eq_true_eq]at b;unfold b7 at e a;cases f:decide (500<l.length)with
      |true=>grind
      |false=>
       rw[f,cond_false]at e a;exact far r c c 0 _ l b.2 (by grind) b.1 h (by grind) a
theorem anJ(k:Nat)(p:Pl)(t:Tk)(x:List (Int×Int)×List (List St)):s11 (k+2000) p t x=some true:=by
 generalize y:k+2000=n;have a:1000<=n:=by omega
 unfold s11;obtain⟨b,r,w⟩:=v18 a p;obtain⟨l,s,A⟩:=v19 n t;obtain⟨m,u,z⟩:=v48 n x.1;rw[show FJ n=some _ from y▸acS k,df,r,s,u,v61 a];simp only[jv,df];cases b with
 |false=>rfl
 |true=>
  cases l with
  |false=>rfl
  |true=>
   cases m with
   |false=>rfl
   |true=>
    by_cases d:x.2.length<=12
    ·cases f:u5 _ with
     |false=>simp
     |true=>
      have hp:=w rfl;obtain⟨D,E,F,G⟩:=A rfl;have B:=z rfl;have e:∀c∈x.2,c.length<=60:=λ c v=>by
       have:=eo.1 f c v;grind
      rw[decide_eq_true d];simp only[dk,ep,cond_false,ee,et,cond_true];have o:wL n p=some p:=v22 n hp;have g:xf n t=some t:=v23 n t (by omega) (by omega) (by omega) (by omega);have j:AT n p t=some (kX p t):=Wa a hp t;simp only[o,g,v50 n x.1 (by omega),v62 a hp t,v64 a x.2 d f,v63 a hp t x.2 d e,j,df,mE,lyE];cases h:(kX p t==0)with
      |false=>simp[z8,h,bne]
      |true=>
       have hT:kX p t=0:=by grind
       have i:s65 n p t x.1=some (r8 p t x.1):=v65 a hp hT x.1;have q:s66 n p t x.2=some (o7 p t x.2):=v66 a hp hT x.2 d e;simp only[cond_true,bne,h,dk,cond_false,i,q,df];have C:r8 p t x.1=0->o7 p t x.2=0->x.2.length<=x.1.length:=am0 hT;grind[r8,o7,z8]
    grind
end
end Go.Abs.R
namespace Go.Rs
open Go.ChangeShapes Go.Conc Go.Proofs
theorem acj:ownKnob Tryz.prog.godebug=none:=by kernel_rfl
theorem RY:laidOutB Tryz.prog=true:=by kernel_rfl
theorem Gv:TP.globals.size=3:=by kernel_rfl
theorem VJ(g:Nat)(h:g<3):(((begin TP (λ _ _=>0) default).world.heap[g]?).bind Obj.row?).isSome=true:=by
 match g,h with
 |0,_=>exact(by kernel_rfl:(((begin TP (λ _ _=>0) default).world.heap[0]?).bind Obj.row?).isSome=true)
 |1,_=>exact(by kernel_rfl:(((begin TP (λ _ _=>0) default).world.heap[1]?).bind Obj.row?).isSome=true)
 |2,_=>exact(by kernel_rfl:(((begin TP (λ _ _=>0) default).world.heap[2]?).bind Obj.row?).isSome=true)
theorem V2(w:World)(c:w.ShapedOpen TP):TP.globals.size<=w.heap.size/\vx w:=by
 have key:∀g,g<3->∃cs t,w.heap[g]?=some (.cells cs t):=λ g a=>by
  obtain⟨⟨z,t⟩,d⟩:=Option.isSome_iff_exists.1 (VJ g a);obtain⟨cs,b,_⟩:=c.1 g z t (by rw[Gv];exact a) d;exact⟨cs,t,b⟩
 refine⟨?_,λ g a=>?_⟩
 ·obtain⟨cs,t,h⟩:=key 2 (by omega);have:=(Array.getElem?_eq_some_iff.1 h).1;rw[Gv];omega
 ·have a:Nat.blt g TP.globals.size=true:=a;rw[Gv]at a;obtain⟨cs,t,h⟩:=key g (by simpa using a);exact S8 h
end Go.Rs
namespace Go
theorem Rs.ajf(d:Looks){p:Pinned}{s:OpenSpec}{c:OpenClaim}(kinds:List LaidKind)(e:Bool)(a:Bool×String)(b g:Bool)
 (l:c.holds p s) (w:c.wfByText s=true)
 (v:c.laidByTextAt d p kinds e)
 (u:c.start= .entering) (r:c.noBlocks=false/\c.again=false) (o:p.checked.prog.mainIs=some (a.1,a.2.toList)) (q:(!a.1&&a.2.isEmpty&&!b)=false)
 (n:∀f fn,p.checked.prog.funcNamed c.func=some f->p.checked.prog.funcs[f]?=some fn->b=p.checked.prog.looks []/\∀(j:Nat)t,fn.params[j]?=some t->p.checked.prog.wantsStandIn t=false)
 (m:g=c.goesBy p.checked.prog):
 Claim7.holds p (.plain s) {stood:={row:=c,standIns:= [],harness:=a,looks:=b},kinds:= [],alts:= [],goes:=g,laidByText:=true,laidKinds:=kinds,laidTests:=e,laidLooks:=d}:=by
 have i:gg {stood:={row:=c,standIns:= [],harness:=a,looks:=b},kinds:= []}=false:=by simpa[gg]using q
 have key:=Claim7.tied_new_at d kinds e (Claim7.new_of_sixth l a b u r o i n) w;refine⟨?_,(λ D k=>by cases k),v,(λ h=>by cases h),m⟩;exact key
end Go
