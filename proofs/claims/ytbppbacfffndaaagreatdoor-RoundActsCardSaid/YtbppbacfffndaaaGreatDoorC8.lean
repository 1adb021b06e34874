/- Part of a proof that the statement holds. No conditions. -/
import Derived.SevenTiedAt
import Derived.Test.YtbppbacfffndaaaGreatDoorB7
set_option linter.all false
set_option maxRecDepth 100000
open Go.IntKind renaming wrap->wy
open List renaming length->wS,find?_cons->EX,getElem?_eq_getElem->Ls,findIdx?_cons->L3,findIdx?_eq_some_iff_getElem->N4,take->N5,any_eq_true->N6,replicate->PH,findIdx?_eq_none_iff->P9,drop_eq_nil_of_le->R1,getElem_mem->Sh,length_cons->SA
open Option renaming bind_some->xf
open Bool renaming not_true->zS,not_false->BP,eq_iff_iff->Ez,and_eq_true->Lt,false_or->L1,or_self->L2,and_self->N2,false_and->P8
open UInt8 renaming toNat->AT
open Go renaming maxLen->C8
open Int renaming toNat->N1,toNat_of_nonneg->N3
open Go.Claim7 renaming isSixth->S1
open Go.Proofs.Tryz renaming f156->S2
namespace Go.Abs.R
open Go.Abs Go.Proofs.Tryz
section
local instance:Dr:= ⟨false⟩
abbrev Lp1(D A R:Type):=D->(D->Option R)->(A->Option R)×Unit->Option R
abbrev Lp2(D A B R:Type):=D->(D->Option R)->(A->Option R)×(B->Option R)×Unit->Option R
abbrev akl(D Y A R:Type):=D->Y->(D->Option R)->(A->Option R)×Unit->Option R
variable(n:Nat)
abbrev Z0:Ty:=.ay .i64
abbrev Z1:=Int×Int×Int×Int×Int×Int
abbrev Z2:=Z1×Int×Int×Int×Int×Int×Int
abbrev Z3:Ty:=.aF Z0 Z0
abbrev Z4:Ty:=.aF Z0 Z3
abbrev Z5:Ty:=.aF Z0 Z4
abbrev Z6:Ty:=.aF Z0 Z5
abbrev Z7:Ty:=.aF Z0 Z6
abbrev Z8:Ty:=.aH Z0
abbrev Z9:=List Int
abbrev dy:=Int×Int
abbrev gH:Ty:=.aF .aJ Z0
abbrev BW:=List UInt8
abbrev eB:Ty:=.aF Z7 Z7
abbrev fh:Ty:=.aF Z8 Z8
abbrev dK:Ty:=.aH Z3
abbrev gv:Ty:=.aH gH
abbrev qG:=BW×Int
abbrev cN:Ty:=.aF gv dK
abbrev Z19:=List dy
abbrev bZ:=Int×Z2×Int×Int
abbrev cn:=List qG
abbrev gS:Ty:=.aF fh fh
abbrev nk:=List Z2
abbrev QG:=Z2×bZ
abbrev Yl:Ty:=.aF eB Z3
abbrev uy:Ty:=.aF Z0 Yl
abbrev kj:=Int×Int×Int
abbrev qZ:=Z9×Z9
abbrev EM:=qZ×Z9×Z9
abbrev qm:=List nk
abbrev uf:Ty:=.aH eB
abbrev EC:=List QG
abbrev um:=EC×qm
abbrev pR:=Option um
abbrev EF:=cn×Z19
abbrev Lb:=EF×EM×Z1×Int×Int×Int×Int×Int×Int
abbrev JO:Ty:=.cO eB uy
abbrev xh:Ty:=.aH uf
abbrev qL:Ty:=.aF JO xh
abbrev Z40:=EM×Int
abbrev QQ:=pR×Bool
abbrev qE:Ty:=.aH Z4
abbrev Ah:Ty:=.aF gS eB
abbrev qJ:Ty:=.aF cN Ah
abbrev Cu:=List BW
abbrev tZ:=pR×Z2×Int
abbrev AU:=List BW
abbrev zp:Ty:=.ec qL
abbrev xR:=Option Lb
abbrev LJ:Ty:=.ec qJ
abbrev Bu:=Z2×Int×Z2×Int×Int
abbrev Fp:=List kj
abbrev Jz:=Z19×Int
abbrev Iq:Ty:=.dP eB .aO
abbrev Fc:Ty:=.dP gH .aO
abbrev Z56:Ty:=.aF eB uy
abbrev Z57:Ty:=.aH .aJ
def OZ(n:Nat)(b:eU)(a:List bS)(num:Int):Option (List bA):=Rs.CG b a num
def MS:fc:= ⟨wM,[],[.aH bq],λ x _=>OZ n x.1 x.2.1 x.2.2,true⟩
theorem aaP:jf Rs.FM.Q 147 (MS n):=Rs.Ww
def KJ(n:Nat)(s:BW):Option dy:=none
def M6:fc:= ⟨[.aJ],[],[.ay .i32,.ay .i64],λ x y=>KJ n x,false⟩
theorem aeb(n:Nat):jf Rs.FM.Q 157 (M6 n):=by
 refine⟨⟨_,Rs.iC func157 (by kernel_rfl) (by decide),by kernel_rfl,by kernel_rfl⟩,?_⟩;intro w ok vs cs x y r b c a;cases a
def gT:List (Nat×eZ):= [(3,⟨Z0,0,false⟩),(4,⟨.aO,0,false⟩),(5,⟨(.ay .u8),0,false⟩),(9,⟨.aJ,0,false⟩),(21,⟨(.ay .i32),0,false⟩),(22,⟨gv,0,false⟩),(23,⟨dK,0,false⟩),(25,⟨cN,2,false⟩),(26,⟨Z8,0,false⟩),(28,⟨fh,2,false⟩),(30,⟨gS,3,false⟩),(35,⟨Z0,0,false⟩),(46,⟨qE,0,false⟩),(56,⟨Z3,2,false⟩),(59,⟨dK,0,false⟩),(134,⟨Z4,3,false⟩),(136,⟨gH,2,false⟩),(138,⟨cN,1,false⟩),(143,⟨LJ,1,false⟩),(147,⟨Z7,6,true⟩),(149,⟨eB,2,false⟩),(151,⟨qJ,3,false⟩),(152,⟨Iq,0,false⟩),(168,⟨Z3,2,true⟩),(173,⟨zp,1,false⟩),(177,⟨uy,3,false⟩),(178,⟨JO,0,false⟩),(179,⟨xh,0,false⟩),(181,⟨qL,2,false⟩),(182,⟨Z57,0,false⟩),(191,⟨uf,0,false⟩),(205,⟨Z8,0,false⟩),(207,⟨(.aH (.ay .u8)),0,false⟩),(209,⟨Fc,0,false⟩),(228,⟨(.aH Z56),0,false⟩),(231,⟨Z56,2,false⟩)]
def gQ:List (Nat×Ty):= [(56,Z3),(168,Z3)]
theorem q56:zP Rs.FM.Q 56 Z3:=JF (d:=40) (by decide) (by kernel_rfl) rfl (by kernel_rfl)
theorem XI:zP Rs.FM.Q 168 Z3:=JF (d:=40) (by decide) (by kernel_rfl) rfl (by kernel_rfl)
def e0(n:Nat):aq:= ⟨gT,[],gQ,[],[]⟩
theorem h0:al Rs.FM.Q (e0 n):=GI (GI (IN (by kernel_rfl)) XI) q56
def zC(n:Nat):Option EF:=some (([([97],8),([98],5),([99],3)]:List qG),([(0,1),(0,2),(1,0),(1,2),(2,0),(2,1)]:List dy))
def e1:aq:=(e0 n).a 84 ⟨[],[],[cN],λ x y=>zC n,false⟩
theorem h1:al Rs.FM.Q (e1 n):=dw Rs.FM (h0 n) func84
def DU(n:Nat):Option qZ:=some (([8,0,0]:List Int),([1,0,0]:List Int))
def e2:aq:=(e1 n).a 85 ⟨[],[],[fh],λ x y=>DU n,false⟩
theorem h2:al Rs.FM.Q (e2 n):=dw Rs.FM (h1 n) func85
def gk(n:Nat)(a:Bool)(e:Int):Option Int:=bif a then some 0 else some e
def e3:aq:=(e2 n).a 97 ⟨[.aO,Z0],[],[Z0],λ x y=>gk n x.1 x.2,false⟩
theorem h3:al Rs.FM.Q (e3 n):=dw Rs.FM (h2 n) func97
def Cv(n:Nat):Lp2 (Z9×Int×Int×Unit) Unit (Int×Unit) Int:=λ(b,c,a,_) again (k0,k1,_)=>bif decide (a<c)then(aG b a).bind λ e=>bif e !=0 then k1 (e,())else again (b,c,(wy .i64 (a+1)),())else k0 ()
def ko(l:List Int):Option Int:=cq (Cv n) n (l,(wS l:Int),0,()) (λ(_)=>some 0,λ(a,_)=>some a,())
def e4:aq:=(e3 n).a 96 ⟨[Z8],[],[Z0],λ x y=>ko n x,false⟩
theorem h4:al Rs.FM.Q (e4 n):=gD Rs.FM (h3 n) func96 (O:= [_]) ⟨gh n (h3 n) (eN 15 [aT 5 Z8,aT 6 Z0,aT 7 Z0] []) [fq 0 15 [] [],fw 15 [aT 2 Z0] []] (Cv n),trivial⟩
def yM(n:Nat):Lp2 (BW×Z9×Int×Int×Unit) (BW×Unit) (Bool×Unit) Bool:=λ(s,b,c,a,_) again (k0,k1,_)=>bif decide (a<c)then(aG b a).bind λ e=>bif (!(((decide (e>=97))&& (decide (e<=122)))|| ((decide (e>=65))&& (decide (e<=90)))))&& ((a==0)|| ((e !=45)&& ((decide (e<48))|| (decide (e>57)))))then k1 (false,())else again (s,b,c,(wy .i64 (a+1)),())else k0 (s,())
def B9(s:BW):Option Bool:=cq (yM n) n (s,(kv s),((wS (kv s):Nat):Int),0,()) (λ(a,_)=>some ((a != [])&& (decide ((wS a:Int)<=12))),λ(b,_)=>some b,())
def e5:aq:=(e4 n).a 106 ⟨[.aJ],[],[.aO],λ x y=>B9 n x,false⟩
theorem h5:al Rs.FM.Q (e5 n):=gD Rs.FM (h4 n) func106 (O:= [_]) ⟨gh n (h4 n) (eN 54 [aT 0 .aJ,aT 7 (.aH (.ay .u8)),aT 8 Z0,aT 9 Z0] []) [fq 0 54 [aT 0 .aJ] [],fw 54 [aT 2 .aO] []] (yM n),trivial⟩
def Jr(n:Nat)(v:BW×Int)(a:BW):Option Bool:=some (v.1==a)
def e6:aq:=(e5 n).a 137 ⟨[gH],[.aJ],[.aO],λ x y=>Jr n x y,false⟩
theorem h6:al Rs.FM.Q (e6 n):=dw Rs.FM (h5 n) func137
def xO(n:Nat):Lp2 (cn×(qG->Option Bool)×Int×Int×Unit) Unit (Int×Unit) Int:=λ(s,f,b,a,_) again (k0,k1,_)=>bif decide (a<b)then(aG s a).bind λ e=>(f e).bind λ x=>bif x then k1 (a,())else again (s,f,b,(wy .i64 (a+1)),())else k0 ()
def IH(s:List qG)(f:qG->Option Bool):Option Int:=cq (xO n) n (s,f,(wS s:Int),0,()) (λ(_)=>some (-1),λ(a,_)=>some a,())
def e7:aq:=(e6 n).a 136 ⟨[gv,Fc],[],[Z0],λ x y=>IH n x.1 x.2,false⟩
theorem h7:al Rs.FM.Q (e7 n):=gD Rs.FM (h6 n) func136 (O:= [_]) ⟨gh n (h6 n) (eN 19 [aT 0 gv,aT 1 Fc,aT 7 Z0,aT 8 Z0] []) [fq 0 19 [] [],fw 19 [aT 4 Z0] []] (xO n),trivial⟩
def vV(l:List qG)(name:BW):Option Int:=(IH n l (λ a=>Jr n a name)).bind λ x=>some x
def e8:aq:=(e7 n).a 107 ⟨[gv,.aJ],[],[Z0],λ x y=>vV n x.1 x.2,false⟩
theorem h8:al Rs.FM.Q (e8 n):=dw Rs.FM (h7 n) func107
def pX(n:Nat)(a lo b:Int):Option Bool:=some ((decide (lo<=a))&& (decide (a<=b)))
def e9:aq:=(e8 n).a 99 ⟨[Z0,Z0,Z0],[],[.aO],λ x y=>pX n x.1 x.2.1 x.2.2,false⟩
theorem h9:al Rs.FM.Q (e9 n):=dw Rs.FM (h8 n) func99
def EJ(a:Int):Option Bool:=(pX n a 1 50).bind λ x=>some x
def Lr:aq:=(e9 n).a 101 ⟨[Z0],[],[.aO],λ x y=>EJ n x,false⟩
theorem h10:al Rs.FM.Q (Lr n):=dw Rs.FM (h9 n) func101
def vO(b:Int)(a:cn×Z19):Option Bool:=(pX n b 0 (wy .i64 ((wS a.1:Int)- 1))).bind λ x=>some x
def OO:aq:=(Lr n).a 108 ⟨[Z0],[cN],[.aO],λ x y=>vO n x y,false⟩
theorem Sp:al Rs.FM.Q (OO n):=dw Rs.FM (h10 n) func108
def AI(n:Nat):Lp2 (Z19×Int×Int×Int×Int×Unit) Unit (Int×Unit) Int:=λ(s,b,a,v,c,_) again (k0,k1,_)=>bif decide (a<b)then(aG s a).bind λ e=>bif (v==e.1)&& (c==e.2)then k1 (a,())else again (s,b,(wy .i64 (a+1)),v,c,())else k0 ()
def ym(s:List dy)(v:Int×Int):Option Int:=cq (AI n) n (s,(wS s:Int),0,v.1,v.2,()) (λ(_)=>some (-1),λ(a,_)=>some a,())
def SL:aq:=(OO n).a 138 ⟨[dK,Z3],[],[Z0],λ x y=>ym n x.1 x.2,false⟩
theorem h12:al Rs.FM.Q (SL n):=gD Rs.FM (Sp n) func138 (O:= [_]) ⟨gh n (Sp n) (eN 19 [aT 0 dK,(3,.v (.cu 19 0)),aT 7 Z0,aT 8 Z0] [(19,.cp Z3 [.aj Z0,.aj Z0])]) [fq 0 19 [] [],fw 19 [aT 4 Z0] []] (AI n),trivial⟩
def za(s:List dy)(v:Int×Int):Option Bool:=(ym n s (v.1,v.2)).bind λ x=>some (decide (x>=0))
def PK:aq:=(SL n).a 109 ⟨[dK,Z3],[],[.aO],λ x y=>za n x.1 x.2,false⟩
theorem Gw:al Rs.FM.Q (PK n):=dw Rs.FM (h12 n) func109
def Au:Lp2 (cn×Int×Int×cn×Z19×Unit) (cn×Z19×Unit) (Int×Int×Unit) dy:=λ(c,d,a,p,b,_) again (k0,k1,_)=>bif decide (a<d)then(aG c a).bind λ e=>(B9 n e.1).bind λ x=>(gk n x 4).bind λ g=>(iB p 0 a).bind λ h=>(vV n h e.1).bind λ i=>(gk n (decide (i<0)) 5).bind λ j=>(EJ n e.2).bind λ k=>(gk n k 2).bind λ l=>(ko n ([g,j,l]:List Int)).bind λ f=>bif f !=0 then k1 (a,f,())else again (c,d,(wy .i64 (a+1)),p,b,())else k0 (p,b,())
def Ag:Lp2 (EF×(Int->Option Bool)×Z19×Int×Int×Unit) Unit (Int×Int×Unit) dy:=λ(p,c,d,f,a,_) again (k0,k1,_)=>bif decide (a<f)then(aG d a).bind λ e=>(cQ 0 2).bind λ u=>(aG [e.1,e.2] 0).bind λ x=>(c x).bind λ b=>(bI b (cQ 1 2) ()).bind λ s=>(bI b (aG [e.1,e.2] 1) 0).bind λ i=>(bI b (c i) false).bind λ j=>(gk n (b&&j) 6).bind λ k=>(cQ 0 2).bind λ t=>(aG [e.1,e.2] 0).bind λ l=>(cQ 1 2).bind λ v=>(aG [e.1,e.2] 1).bind λ m=>(gk n (l !=m) 11).bind λ o=>(iB p.2 0 a).bind λ q=>(za n q (e.1,e.2)).bind λ r=>(gk n (!r) 26).bind λ h=>(ko n ([k,o,h]:List Int)).bind λ g=>bif g !=0 then k1 (a,g,())else again (p,c,d,f,(wy .i64 (a+1)),())else k0 ()
def xg(p:cn×Z19):Option dy:=(gk n (decide ((wS p.1:Int)>0)) 10).bind λ x=>(gk n (decide ((wS p.1:Int)<=6)) 8).bind λ h=>(ko n ([x,h]:List Int)).bind λ c=>bif c !=0 then some (0,c)else cq (Au n) n (p.1,(wS p.1:Int),0,p.1,p.2,()) (λ(b,a,_)=>bif decide ((wS a:Int)>30)then some (0,8)else cq (Ag n) n ((b,a),(λ i=>vO n i (b,a)),a,(wS a:Int),0,()) (λ(_)=>some (0,0),λ(d,f,_)=>some (d,f),()),λ(e,g,_)=>some (e,g),())
def QX:aq:=(PK n).a 43 ⟨[cN],[],[Z0,Z0],λ x y=>xg n x,false⟩
theorem h14:al Rs.FM.Q (QX n):=gD Rs.FM (Gw n) func43 (O:= [_,_]) ⟨gh n (Gw n) (eN 104 [(1,.v (.cu 104 0)),aT 28 gv,aT 29 Z0,aT 30 Z0] [(104,.cp cN [.aj gv,.aj dK])]) [fq 0 104 [(1,.v (.cu 104 0))] [(104,.cp cN [.aj gv,.aj dK])],fw 104 [aT 2 Z0,aT 3 Z0] []] (Au n),gh n (Gw n) (eN 104 [(1,.v (.pp cN)),aT 8 (.dP Z0 .aO),aT 65 dK,aT 66 Z0,aT 67 Z0] []) [fq 2 104 [] [],fw 104 [aT 2 Z0,aT 3 Z0] []] (Ag n),trivial⟩
def tx(p:cn×Z19):Option (EF×Int):=(xg n (p.1,p.2)).bind λ x=>some ((p.1,p.2),x.2)
def Rf:aq:=(QX n).a 87 ⟨[cN],[],[cN,Z0],λ x y=>tx n x,false⟩
theorem Vw:al Rs.FM.Q (Rf n):=dw Rs.FM (h14 n) func87
def mZ(n:Nat)(p:cn×Z19):Option Int:=some (wS p.1:Int)
def R0:aq:=(Rf n).a 100 ⟨[cN],[],[Z0],λ x y=>mZ n x,false⟩
theorem h16:al Rs.FM.Q (R0 n):=dw Rs.FM (Vw n) func100
def Dy(a:Int):Option Bool:=(pX n a 0 3).bind λ x=>some x
def NZ:aq:=(R0 n).a 132 ⟨[Z0],[],[.aO],λ x y=>Dy n x,false⟩
theorem NP:al Rs.FM.Q (NZ n):=dw Rs.FM (h16 n) func132
def Co:Lp2 (cn×Int×Int×Z9×Z9×Unit) Unit (Int×Unit) Int:=λ(f,g,a,s,d,_) again (k0,k1,_)=>bif decide (a<g)then(aG f a).bind λ e=>(aG s a).bind λ b=>(aG d a).bind λ c=>(pX n b 0 e.2).bind λ x=>(bI x (Dy n c) false).bind λ i=>(gk n (x&&i) 2).bind λ j=>(gk n ((b==0)==(c==0)) 13).bind λ k=>(ko n ([j,k]:List Int)).bind λ h=>bif h !=0 then k1 (h,())else again (f,g,(wy .i64 (a+1)),s,d,())else k0 ()
def px(p:cn×Z19)(s:Z9×Z9):Option Int:=(mZ n (p.1,p.2)).bind λ x=>(bI (!((wS s.1:Int) !=x)) (mZ n (p.1,p.2)) 0).bind λ b=>bif ((wS s.1:Int) !=x)|| ((wS s.2:Int) !=b)then some 10 else cq (Co n) n (p.1,(wS p.1:Int),0,s.1,s.2,()) (λ(_)=>some 0,λ(a,_)=>some a,())
def JC:aq:=(NZ n).a 91 ⟨[cN,fh],[],[Z0],λ x y=>px n x.1 x.2,false⟩
theorem NC:al Rs.FM.Q (JC n):=gD Rs.FM (NP n) func91 (O:= [_]) ⟨gh n (NP n) (eN 64 [(3,.v (.cu 64 0)),aT 26 gv,aT 27 Z0,aT 28 Z0] [(64,.cp fh [.aj Z8,.aj Z8])]) [fq 0 64 [] [],fw 64 [aT 4 Z0] []] (Co n),trivial⟩
def tj(n:Nat)(s:Z9×Z9):Option Z2:=(kZ 6 6).bind λ u=>(kZ 6 6).bind λ a=>some (((bif decide (0<6)then(s.1[0]?).getD 0 else 0),((bif decide (1<6)then(s.1[1]?).getD 0 else 0),((bif decide (2<6)then(s.1[2]?).getD 0 else 0),((bif decide (3<6)then(s.1[3]?).getD 0 else 0),((bif decide (4<6)then(s.1[4]?).getD 0 else 0),(bif decide (5<6)then(s.1[5]?).getD 0 else 0)))))),((bif decide (0<6)then(s.2[0]?).getD 0 else 0),((bif decide (1<6)then(s.2[1]?).getD 0 else 0),((bif decide (2<6)then(s.2[2]?).getD 0 else 0),((bif decide (3<6)then(s.2[3]?).getD 0 else 0),((bif decide (4<6)then(s.2[4]?).getD 0 else 0),(bif decide (5<6)then(s.2[5]?).getD 0 else 0)))))))
def Oo:aq:=(JC n).n [5,10]
theorem agq:al Rs.FM.Q (Oo n):=IV (NC n) _
def HC:fc:= ⟨[fh],[],[eB],λ x y=>tj n x,false⟩
theorem aax(x:ax [fh])(y:ax []):oI (Oo n) f93 [fh] [] [eB] false [] x y=(HC n).g x y:=by kernel_rfl
theorem XG:jf Rs.FM.Q 93 (HC n):=xz (agq n) Rs.FM.b (Rs.FM.a func93 (by kernel_rfl) (by decide)) (by kernel_rfl) (by kernel_rfl) (O:= []) trivial (aax n)
def KA:aq:=(JC n).a 93 (HC n)
theorem h19:al Rs.FM.Q (KA n):=mN (NC n) (XG n)
def Ij(p:cn×Z19)(s:Z9×Z9):Option (EF×Z2×Int):=(tx n (p.1,p.2)).bind λ x=>bif x.2==0 then(px n (x.1.1,x.1.2) (s.1,s.2)).bind λ c=>bif c !=0 then some ((x.1.1,x.1.2),((0,(0,(0,(0,(0,0))))),(0,(0,(0,(0,(0,0)))))),c)else(tj n (s.1,s.2)).bind λ a=>some ((x.1.1,x.1.2),((a.1.1,(a.1.2.1,(a.1.2.2.1,(a.1.2.2.2.1,(a.1.2.2.2.2.1,a.1.2.2.2.2.2))))),(a.2.1,(a.2.2.1,(a.2.2.2.1,(a.2.2.2.2.1,(a.2.2.2.2.2.1,a.2.2.2.2.2.2)))))),0)else bif x.2 !=0 then some ((x.1.1,x.1.2),((0,(0,(0,(0,(0,0))))),(0,(0,(0,(0,(0,0)))))),x.2)else(tj n (s.1,s.2)).bind λ b=>some ((x.1.1,x.1.2),((b.1.1,(b.1.2.1,(b.1.2.2.1,(b.1.2.2.2.1,(b.1.2.2.2.2.1,b.1.2.2.2.2.2))))),(b.2.1,(b.2.2.1,(b.2.2.2.1,(b.2.2.2.2.1,(b.2.2.2.2.2.1,b.2.2.2.2.2.2)))))),0)
def OA:aq:=(KA n).a 95 ⟨[cN,fh],[],[cN,eB,Z0],λ x y=>Ij n x.1 x.2,false⟩
theorem VP:al Rs.FM.Q (OA n):=dw Rs.FM (h19 n) func95
def JZ(b:Int)(a:cn×Z19):Option Bool:=(mZ n a).bind λ x=>(pX n b 0 (wy .i64 (x- 1))).bind λ c=>some c
def NT:aq:=(OA n).a 134 ⟨[Z0],[cN],[.aO],λ x y=>JZ n x y,false⟩
theorem ZE:al Rs.FM.Q (NT n):=dw Rs.FM (VP n) func134
def Ov(p:cn×Z19)(a:Z1×Int×Int×Int×Int×Int×Int)(m:Int×Int):Option (Z2×Int):=((λ i=>JZ n i (p.1,p.2)) m.1).bind λ x=>(bI x ((λ i=>JZ n i (p.1,p.2)) m.2) false).bind λ l=>(gk n (x&&l) 6).bind λ t=>(za n p.2 (m.1,m.2)).bind λ v=>(gk n v 18).bind λ w=>(ko n ([t,w]:List Int)).bind λ k=>bif k !=0 then some (((0,(0,(0,(0,(0,0))))),(0,(0,(0,(0,(0,0)))))),k)else(cQ m.1 6).bind λ u=>(aG [a.1.1,a.1.2.1,a.1.2.2.1,a.1.2.2.2.1,a.1.2.2.2.2.1,a.1.2.2.2.2.2] m.1).bind λ b=>(aG p.1 m.2).bind λ e=>(cQ m.2 6).bind λ z=>(aG [a.1.1,a.1.2.1,a.1.2.2.1,a.1.2.2.2.1,a.1.2.2.2.2.1,a.1.2.2.2.2.2] m.2).bind λ c=>(cQ m.1 6).bind λ C=>(aG [a.2.1,a.2.2.1,a.2.2.2.1,a.2.2.2.2.1,a.2.2.2.2.2.1,a.2.2.2.2.2.2] m.1).bind λ g=>(gk n (decide (b>0)) 12).bind λ y=>(gk n (decide ((wy .i64 (e.2- c))>0)) 16).bind λ o=>(cQ m.2 6).bind λ D=>(aG [a.2.1,a.2.2.1,a.2.2.2.1,a.2.2.2.2.1,a.2.2.2.2.2.1,a.2.2.2.2.2.2] m.2).bind λ h=>(bI (!(h==0)) (cQ m.2 6) ()).bind λ E=>(bI (!(h==0)) (aG [a.2.1,a.2.2.1,a.2.2.2.1,a.2.2.2.2.1,a.2.2.2.2.2.1,a.2.2.2.2.2.2] m.2) 0).bind λ q=>(gk n ((h==0)|| (q==g)) 13).bind λ r=>(ko n ([y,o,r]:List Int)).bind λ j=>bif j !=0 then some (((0,(0,(0,(0,(0,0))))),(0,(0,(0,(0,(0,0)))))),j)else(cQ m.1 6).bind λ F=>(aG [a.1.1,a.1.2.1,a.1.2.2.1,a.1.2.2.2.1,a.1.2.2.2.2.1,a.1.2.2.2.2.2] m.1).bind λ d=>(cQ m.1 6).bind λ G=>(cQ m.2 6).bind λ H=>(aG [(bif decide (m.1=0)then(wy .i64 (d- (bu b (wy .i64 (e.2- c)))))else a.1.1),(bif decide (m.1=1)then(wy .i64 (d- (bu b (wy .i64 (e.2- c)))))else a.1.2.1),(bif decide (m.1=2)then(wy .i64 (d- (bu b (wy .i64 (e.2- c)))))else a.1.2.2.1),(bif decide (m.1=3)then(wy .i64 (d- (bu b (wy .i64 (e.2- c)))))else a.1.2.2.2.1),(bif decide (m.1=4)then(wy .i64 (d- (bu b (wy .i64 (e.2- c)))))else a.1.2.2.2.2.1),(bif decide (m.1=5)then(wy .i64 (d- (bu b (wy .i64 (e.2- c)))))else a.1.2.2.2.2.2)] m.2).bind λ f=>(cQ m.2 6).bind λ I=>(cQ m.2 6).bind λ J=>(cQ m.1 6).bind λ A=>(aG [(bif decide (m.2=0)then(wy .i64 (f+ (bu b (wy .i64 (e.2- c)))))else(bif decide (m.1=0)then(wy .i64 (d- (bu b (wy .i64 (e.2- c)))))else a.1.1)),(bif decide (m.2=1)then(wy .i64 (f+ (bu b (wy .i64 (e.2- c)))))else(bif decide (m.1=1)then(wy .i64 (d- (bu b (wy .i64 (e.2- c)))))else a.1.2.1)),(bif decide (m.2=2)then(wy .i64 (f+ (bu b (wy .i64 (e.2- c)))))else(bif decide (m.1=2)then(wy .i64 (d- (bu b (wy .i64 (e.2- c)))))else a.1.2.2.1)),(bif decide (m.2=3)then(wy .i64 (f+ (bu b (wy .i64 (e.2- c)))))else(bif decide (m.1=3)then(wy .i64 (d- (bu b (wy .i64 (e.2- c)))))else a.1.2.2.2.1)),(bif decide (m.2=4)then(wy .i64 (f+ (bu b (wy .i64 (e.2- c)))))else(bif decide (m.1=4)then(wy .i64 (d- (bu b (wy .i64 (e.2- c)))))else a.1.2.2.2.2.1)),(bif decide (m.2=5)then(wy .i64 (f+ (bu b (wy .i64 (e.2- c)))))else(bif decide (m.1=5)then(wy .i64 (d- (bu b (wy .i64 (e.2- c)))))else a.1.2.2.2.2.2))] m.1).bind λ s=>bif s==0 then(cQ m.1 6).bind λ B=>some ((((bif decide (m.2=0)then(wy .i64 (f+ (bu b (wy .i64 (e.2- c)))))else(bif decide (m.1=0)then(wy .i64 (d- (bu b (wy .i64 (e.2- c)))))else a.1.1)),((bif decide (m.2=1)then(wy .i64 (f+ (bu b (wy .i64 (e.2- c)))))else(bif decide (m.1=1)then(wy .i64 (d- (bu b (wy .i64 (e.2- c)))))else a.1.2.1)),((bif decide (m.2=2)then(wy .i64 (f+ (bu b (wy .i64 (e.2- c)))))else(bif decide (m.1=2)then(wy .i64 (d- (bu b (wy .i64 (e.2- c)))))else a.1.2.2.1)),((bif decide (m.2=3)then(wy .i64 (f+ (bu b (wy .i64 (e.2- c)))))else(bif decide (m.1=3)then(wy .i64 (d- (bu b (wy .i64 (e.2- c)))))else a.1.2.2.2.1)),((bif decide (m.2=4)then(wy .i64 (f+ (bu b (wy .i64 (e.2- c)))))else(bif decide (m.1=4)then(wy .i64 (d- (bu b (wy .i64 (e.2- c)))))else a.1.2.2.2.2.1)),(bif decide (m.2=5)then(wy .i64 (f+ (bu b (wy .i64 (e.2- c)))))else(bif decide (m.1=5)then(wy .i64 (d- (bu b (wy .i64 (e.2- c)))))else a.1.2.2.2.2.2))))))),((bif decide (m.1=0)then 0 else(bif decide (m.2=0)then g else a.2.1)),((bif decide (m.1=1)then 0 else(bif decide (m.2=1)then g else a.2.2.1)),((bif decide (m.1=2)then 0 else(bif decide (m.2=2)then g else a.2.2.2.1)),((bif decide (m.1=3)then 0 else(bif decide (m.2=3)then g else a.2.2.2.2.1)),((bif decide (m.1=4)then 0 else(bif decide (m.2=4)then g else a.2.2.2.2.2.1)),(bif decide (m.1=5)then 0 else(bif decide (m.2=5)then g else a.2.2.2.2.2.2)))))))),0)else some ((((bif decide (m.2=0)then(wy .i64 (f+ (bu b (wy .i64 (e.2- c)))))else(bif decide (m.1=0)then(wy .i64 (d- (bu b (wy .i64 (e.2- c)))))else a.1.1)),((bif decide (m.2=1)then(wy .i64 (f+ (bu b (wy .i64 (e.2- c)))))else(bif decide (m.1=1)then(wy .i64 (d- (bu b (wy .i64 (e.2- c)))))else a.1.2.1)),((bif decide (m.2=2)then(wy .i64 (f+ (bu b (wy .i64 (e.2- c)))))else(bif decide (m.1=2)then(wy .i64 (d- (bu b (wy .i64 (e.2- c)))))else a.1.2.2.1)),((bif decide (m.2=3)then(wy .i64 (f+ (bu b (wy .i64 (e.2- c)))))else(bif decide (m.1=3)then(wy .i64 (d- (bu b (wy .i64 (e.2- c)))))else a.1.2.2.2.1)),((bif decide (m.2=4)then(wy .i64 (f+ (bu b (wy .i64 (e.2- c)))))else(bif decide (m.1=4)then(wy .i64 (d- (bu b (wy .i64 (e.2- c)))))else a.1.2.2.2.2.1)),(bif decide (m.2=5)then(wy .i64 (f+ (bu b (wy .i64 (e.2- c)))))else(bif decide (m.1=5)then(wy .i64 (d- (bu b (wy .i64 (e.2- c)))))else a.1.2.2.2.2.2))))))),((bif decide (m.2=0)then g else a.2.1),((bif decide (m.2=1)then g else a.2.2.1),((bif decide (m.2=2)then g else a.2.2.2.1),((bif decide (m.2=3)then g else a.2.2.2.2.1),((bif decide (m.2=4)then g else a.2.2.2.2.2.1),(bif decide (m.2=5)then g else a.2.2.2.2.2.2))))))),0)
def Oc:aq:=(NT n).a 103 ⟨[cN,eB,Z3],[],[eB,Z0],λ x y=>Ov n x.1 x.2.1 x.2.2,false⟩
theorem Us:al Rs.FM.Q (Oc n):=dw Rs.FM (ZE n) func103
def IF:aq:=(Oc n).a 133 (PJ n)
theorem PM:al Rs.FM.Q (IF n):=mN (Us n) (ac3 n)
def yw(a:Z1×Int×Int×Int×Int×Int×Int)(b:Int):Option qZ:=(kZ b 6).bind λ u=>(Gu n (N5 (N1 b) [a.1.1,a.1.2.1,a.1.2.2.1,a.1.2.2.2.1,a.1.2.2.2.2.1,a.1.2.2.2.2.2])).bind λ x=>(kZ b 6).bind λ d=>(Gu n (N5 (N1 b) [a.2.1,a.2.2.1,a.2.2.2.1,a.2.2.2.2.1,a.2.2.2.2.2.1,a.2.2.2.2.2.2])).bind λ c=>some (x,c)
def R2:aq:=(IF n).n [1000002]
theorem aiK:al Rs.FM.Q (R2 n):=IV (PM n) _
def JH:fc:= ⟨[eB,Z0],[],[fh],λ x y=>yw n x.1 x.2,false⟩
theorem YX(x:ax [eB,Z0])(y:ax []):oI (R2 n) f102 [eB,Z0] [] [fh] false [] x y=(JH n).g x y:=by kernel_rfl
theorem aiN:jf Rs.FM.Q 102 (JH n):=xz (aiK n) Rs.FM.b (Rs.FM.a func102 (by kernel_rfl) (by decide)) (by kernel_rfl) (by kernel_rfl) (O:= []) trivial (YX n)
def Mp:aq:=(IF n).a 102 (JH n)
theorem h24:al Rs.FM.Q (Mp n):=mN (PM n) (aiN n)
def Na(p:cn×Z19)(s:Z9×Z9)(m:Int×Int):Option (qZ×Int):=(Ij n (p.1,p.2) (s.1,s.2)).bind λ x=>bif x.2.2==0 then(Ov n (x.1.1,x.1.2) ((x.2.1.1.1,(x.2.1.1.2.1,(x.2.1.1.2.2.1,(x.2.1.1.2.2.2.1,(x.2.1.1.2.2.2.2.1,x.2.1.1.2.2.2.2.2))))),(x.2.1.2.1,(x.2.1.2.2.1,(x.2.1.2.2.2.1,(x.2.1.2.2.2.2.1,(x.2.1.2.2.2.2.2.1,x.2.1.2.2.2.2.2.2)))))) (m.1,m.2)).bind λ a=>bif a.2 !=0 then some ((([]:List Int),([]:List Int)),a.2)else(mZ n (x.1.1,x.1.2)).bind λ d=>(yw n ((a.1.1.1,(a.1.1.2.1,(a.1.1.2.2.1,(a.1.1.2.2.2.1,(a.1.1.2.2.2.2.1,a.1.1.2.2.2.2.2))))),(a.1.2.1,(a.1.2.2.1,(a.1.2.2.2.1,(a.1.2.2.2.2.1,(a.1.2.2.2.2.2.1,a.1.2.2.2.2.2.2)))))) d).bind λ b=>some ((b.1,b.2),0)else bif x.2.2 !=0 then some ((([]:List Int),([]:List Int)),x.2.2)else(mZ n (x.1.1,x.1.2)).bind λ e=>(yw n ((x.2.1.1.1,(x.2.1.1.2.1,(x.2.1.1.2.2.1,(x.2.1.1.2.2.2.1,(x.2.1.1.2.2.2.2.1,x.2.1.1.2.2.2.2.2))))),(x.2.1.2.1,(x.2.1.2.2.1,(x.2.1.2.2.2.1,(x.2.1.2.2.2.2.1,(x.2.1.2.2.2.2.2.1,x.2.1.2.2.2.2.2.2)))))) e).bind λ c=>some ((c.1,c.2),0)
def Lh:aq:=(Mp n).a 35 ⟨[cN,fh,Z3],[],[fh,Z0],λ x y=>Na n x.1 x.2.1 x.2.2,false⟩
theorem h25:al Rs.FM.Q (Lh n):=dw Rs.FM (h24 n) func35
def LQ:Option EM:=(DU n).bind λ x=>some ((x.1,x.2),(([4,4,0]:List Int),([0,0,0]:List Int)))
def MH:aq:=(Lh n).a 86 ⟨[],[],[gS],λ x y=>LQ n,false⟩
theorem Mw:al Rs.FM.Q (MH n):=dw Rs.FM (h25 n) func86
def Em:Lp2 (cn×Int×Int×Z9×Z9×Z9×Z9×Unit) Unit (Int×Unit) Int:=λ(d,f,b,t,j,g,h,_) again (k0,k1,_)=>bif decide (b<f)then(aG d b).bind λ e=>(aG g b).bind λ a=>(aG h b).bind λ c=>(bI (!(a==(-1))) (pX n a 0 e.2) false).bind λ x=>(bI ((a==(-1))||x) (Dy n c) false).bind λ k=>(gk n (((a==(-1))||x)&&k) 2).bind λ l=>(gk n ((c==0)|| (a !=0)) 13).bind λ m=>(ko n ([l,m]:List Int)).bind λ i=>bif i !=0 then k1 (i,())else again (d,f,(wy .i64 (b+1)),t,j,g,h,())else k0 ()
def v7(p:cn×Z19)(t:qZ×Z9×Z9):Option Int:=(px n (p.1,p.2) (t.1.1,t.1.2)).bind λ x=>(mZ n (p.1,p.2)).bind λ a=>(bI ((wS t.2.1:Int)==a) (mZ n (p.1,p.2)) 0).bind λ d=>(gk n (((wS t.2.1:Int)==a)&& ((wS t.2.2:Int)==d)) 10).bind λ e=>(ko n ([x,e]:List Int)).bind λ b=>bif b !=0 then some b else cq (Em n) n (p.1,(wS p.1:Int),0,t.1.1,t.1.2,t.2.1,t.2.2,()) (λ(_)=>some 0,λ(c,_)=>some c,())
def QI:aq:=(MH n).a 88 ⟨[cN,gS],[],[Z0],λ x y=>v7 n x.1 x.2,false⟩
theorem UR:al Rs.FM.Q (QI n):=gD Rs.FM (Mw n) func88 (O:= [_]) ⟨gh n (Mw n) (eN 80 [(3,.v (.cu 80 0)),aT 37 gv,aT 38 Z0,aT 39 Z0] [(80,.cp gS [.aj Z8,.aj Z8,.aj Z8,.aj Z8])]) [fq 0 80 [] [],fw 80 [aT 4 Z0] []] (Em n),trivial⟩
def ux(p:cn×Z19)(t:qZ×Z9×Z9):Option Int:=(tx n (p.1,p.2)).bind λ x=>bif x.2 !=0 then some x.2 else(v7 n (x.1.1,x.1.2) ((t.1.1,t.1.2),(t.2.1,t.2.2))).bind λ a=>some a
def Rq:aq:=(QI n).a 21 ⟨[cN,gS],[],[Z0],λ x y=>ux n x.1 x.2,false⟩
theorem Uo:al Rs.FM.Q (Rq n):=dw Rs.FM (UR n) func21
def vm(p:cn×Z19)(t:qZ×Z9×Z9):Option (xR×Int):=(ux n (p.1,p.2) ((t.1.1,t.1.2),(t.2.1,t.2.2))).bind λ x=>bif x !=0 then some ((none:Option Lb),x)else(tj n (t.1.1,t.1.2)).bind λ a=>some ((some ((p.1,p.2),(((t.1.1,t.1.2),(t.2.1,t.2.2)),((a.1.1,(a.1.2.1,(a.1.2.2.1,(a.1.2.2.2.1,(a.1.2.2.2.2.1,a.1.2.2.2.2.2))))),(a.2.1,(a.2.2.1,(a.2.2.2.1,(a.2.2.2.2.1,(a.2.2.2.2.2.1,a.2.2.2.2.2.2))))))))),0)
def LP:aq:=(Rq n).a 90 ⟨[cN,gS],[],[LJ,Z0],λ x y=>vm n x.1 x.2,false⟩
theorem h29:al Rs.FM.Q (LP n):=dw Rs.FM (Uo n) func90
def Q9:aq:=(LP n).a 147 (MS n)
theorem FF:al Rs.FM.Q (Q9 n):=mN (h29 n) (aaP n)
def Te(n:Nat):Lp2 (Int×Int×cn×Z19×EC×qm×nk×(List Bu)×Unit) (cn×Z19×EC×qm×nk×Unit) (pR×Bool×Unit) QQ:=λ(g,a,p,d,r,f,b,c,_) again (k0,k1,_)=>bif decide (a<g)then(aG c a).bind λ e=>(aG c a).bind λ x=>bif Option.isSome (j4 (Ty.f eB) r ((x.1.1.1,(x.1.1.2.1,(x.1.1.2.2.1,(x.1.1.2.2.2.1,(x.1.1.2.2.2.2.1,x.1.1.2.2.2.2.2))))),(x.1.2.1,(x.1.2.2.1,(x.1.2.2.2.1,(x.1.2.2.2.2.1,(x.1.2.2.2.2.2.1,x.1.2.2.2.2.2.2)))))))then again (g,(wy .i64 (a+1)),p,d,r,f,b,c,())else bif decide (((wS (lz (Ty.f eB) r ((x.1.1.1,(x.1.1.2.1,(x.1.1.2.2.1,(x.1.1.2.2.2.1,(x.1.1.2.2.2.2.1,x.1.1.2.2.2.2.2))))),(x.1.2.1,(x.1.2.2.1,(x.1.2.2.2.1,(x.1.2.2.2.2.1,(x.1.2.2.2.2.2.1,x.1.2.2.2.2.2.2)))))) (x.2.1,(((x.2.2.1.1.1,(x.2.2.1.1.2.1,(x.2.2.1.1.2.2.1,(x.2.2.1.1.2.2.2.1,(x.2.2.1.1.2.2.2.2.1,x.2.2.1.1.2.2.2.2.2))))),(x.2.2.1.2.1,(x.2.2.1.2.2.1,(x.2.2.1.2.2.2.1,(x.2.2.1.2.2.2.2.1,(x.2.2.1.2.2.2.2.2.1,x.2.2.1.2.2.2.2.2.2)))))),(x.2.2.2.1,x.2.2.2.2)))):Nat):Int)>4000)then k1 ((none:Option um),false,())else(jk (wS b+wS ([((x.1.1.1,(x.1.1.2.1,(x.1.1.2.2.1,(x.1.1.2.2.2.1,(x.1.1.2.2.2.2.1,x.1.1.2.2.2.2.2))))),(x.1.2.1,(x.1.2.2.1,(x.1.2.2.2.1,(x.1.2.2.2.2.1,(x.1.2.2.2.2.2.1,x.1.2.2.2.2.2.2))))))]:List Z2))).bind λ u=>again (g,(wy .i64 (a+1)),p,d,(lz (Ty.f eB) r ((x.1.1.1,(x.1.1.2.1,(x.1.1.2.2.1,(x.1.1.2.2.2.1,(x.1.1.2.2.2.2.1,x.1.1.2.2.2.2.2))))),(x.1.2.1,(x.1.2.2.1,(x.1.2.2.2.1,(x.1.2.2.2.2.1,(x.1.2.2.2.2.2.1,x.1.2.2.2.2.2.2)))))) (x.2.1,(((x.2.2.1.1.1,(x.2.2.1.1.2.1,(x.2.2.1.1.2.2.1,(x.2.2.1.1.2.2.2.1,(x.2.2.1.1.2.2.2.2.1,x.2.2.1.1.2.2.2.2.2))))),(x.2.2.1.2.1,(x.2.2.1.2.2.1,(x.2.2.1.2.2.2.1,(x.2.2.1.2.2.2.2.1,(x.2.2.1.2.2.2.2.2.1,x.2.2.1.2.2.2.2.2.2)))))),(x.2.2.2.1,x.2.2.2.2)))),f,(b++ ([((x.1.1.1,(x.1.1.2.1,(x.1.1.2.2.1,(x.1.1.2.2.2.1,(x.1.1.2.2.2.2.1,x.1.1.2.2.2.2.2))))),(x.1.2.1,(x.1.2.2.1,(x.1.2.2.2.1,(x.1.2.2.2.2.1,(x.1.2.2.2.2.2.1,x.1.2.2.2.2.2.2))))))]:List Z2)),c,())else k0 (p,d,r,f,b,())
def Ta:Lp2 (nk×cn×Z19×EC×qm×Unit) (EC×qm×Unit) (pR×Bool×Unit) QQ:=λ(last,p,d,r,b,_) again (k0,k1,_)=>bif decide ((wS last:Int)>0)then(OZ n (p,d) last (wS b:Int)).bind λ x=>cq (Te n) n ((wS x:Int),0,p,d,r,b,([]:List Z2),x,()) (λ(e,f,g,c,a,_)=>bif decide ((wS a:Int)>0)then(jk (wS c+wS ([a]:List nk))).bind λ j=>again (a,e,f,g,(c++ ([a]:List nk)),())else again (a,e,f,g,c,()),λ(h,i,_)=>k1 (h,i,()),())else k0 (r,b,())
def Qs(p:cn×Z19)(start:Z1×Int×Int×Int×Int×Int×Int):Option QQ:=(aG ([([((start.1.1,(start.1.2.1,(start.1.2.2.1,(start.1.2.2.2.1,(start.1.2.2.2.2.1,start.1.2.2.2.2.2))))),(start.2.1,(start.2.2.1,(start.2.2.2.1,(start.2.2.2.2.1,(start.2.2.2.2.2.1,start.2.2.2.2.2.2))))))]:List Z2)]:List nk) 0).bind λ e=>(aG ([([((start.1.1,(start.1.2.1,(start.1.2.2.1,(start.1.2.2.2.1,(start.1.2.2.2.2.1,start.1.2.2.2.2.2))))),(start.2.1,(start.2.2.1,(start.2.2.2.1,(start.2.2.2.2.1,(start.2.2.2.2.2.1,start.2.2.2.2.2.2))))))]:List Z2)]:List nk) 0).bind λ x=>cq (Ta n) n (x,p.1,p.2,(lz (Ty.f eB) ([]:List QG) ((start.1.1,(start.1.2.1,(start.1.2.2.1,(start.1.2.2.2.1,(start.1.2.2.2.2.1,start.1.2.2.2.2.2))))),(start.2.1,(start.2.2.1,(start.2.2.2.1,(start.2.2.2.2.1,(start.2.2.2.2.2.1,start.2.2.2.2.2.2)))))) (0,(((0,(0,(0,(0,(0,0))))),(0,(0,(0,(0,(0,0)))))),(0,0)))),([([((start.1.1,(start.1.2.1,(start.1.2.2.1,(start.1.2.2.2.1,(start.1.2.2.2.2.1,start.1.2.2.2.2.2))))),(start.2.1,(start.2.2.1,(start.2.2.2.1,(start.2.2.2.2.1,(start.2.2.2.2.2.1,start.2.2.2.2.2.2))))))]:List Z2)]:List nk),()) (λ(a,b,_)=>some ((some (a,b)),true),λ(c,d,_)=>some (c,d),())
def Kp:aq:=(Q9 n).a 124 ⟨[cN,eB],[],[zp,.aO],λ x y=>Qs n x.1 x.2,false⟩
theorem Lq:al Rs.FM.Q (Kp n):=gD Rs.FM (FF n) func124 (O:= [_]) ⟨B8 n (FF n) (eN 90 [(2,.v (.cu 90 0)),(6,.v (.cu 91 0)),aT 7 uf] [(90,.cp cN [.aj gv,.aj dK]),(91,.cp qL [.iR 92,.iR 93]),(92,.tU eB uy),(93,.jH uf)]) [fq 0 90 [(6,.v (.cu 90 0))] [(90,.cp qL [.iR 91,.iR 92]),(91,.tU eB uy),(92,.jH uf)],fw 90 [aT 4 zp,aT 5 .aO] []] (Ta n) (O:= [_]) ⟨gh n (FF n) (eN 90 [(2,.v (.cu 90 0)),(6,.v (.cu 91 0)),(8,.v (.iR 94)),(38,.v (.iR 95)),aT 39 Z0,aT 40 Z0] [(90,.cp cN [.aj gv,.aj dK]),(91,.cp qL [.iR 92,.iR 93]),(92,.tU eB uy),(93,.jH uf),(94,.jH eB),(95,.jH Z56)]) [fq 2 90 [(2,.v (.cu 90 0)),(6,.v (.cu 91 0)),(8,.v (.iR 94))] [(90,.cp cN [.aj gv,.aj dK]),(91,.cp qL [.iR 92,.iR 93]),(92,.tU eB uy),(93,.jH uf),(94,.jH eB)],fw 90 [aT 4 zp,aT 5 .aO] []] (Te n),trivial⟩,trivial⟩
def B4(n:Nat):Lp2 (xR×Int×Int×Int×Int×Int×Int×Int×Int×Int×Int×Int×Int×Int×Int×Unit) Unit (Bool×Unit) Bool:=λ(t,f,a,g,h,k,l,m,o,p,q,r,s,i,j,_) again (k0,k1,_)=>bif decide (a<f)then t.bind λ x=>(aG x.2.1.2.1 a).bind λ e=>(bI (e !=(-1)) t (([],[]),((([],[]),([],[])),((0,(0,(0,(0,(0,0))))),(0,(0,(0,(0,(0,0))))))))).bind λ w=>(bI (e !=(-1)) (aG w.2.1.2.1 a) 0).bind λ b=>(bI (e !=(-1)) (cQ a 6) ()).bind λ u=>(bI (e !=(-1)) (aG [g,h,k,l,m,o] a) 0).bind λ c=>(bI (!((e !=(-1))&& (b !=c))) t (([],[]),((([],[]),([],[])),((0,(0,(0,(0,(0,0))))),(0,(0,(0,(0,(0,0))))))))).bind λ y=>(bI (!((e !=(-1))&& (b !=c))) (aG y.2.1.2.2 a) 0).bind λ d=>(bI ((!((e !=(-1))&& (b !=c)))&& (d !=0)) t (([],[]),((([],[]),([],[])),((0,(0,(0,(0,(0,0))))),(0,(0,(0,(0,(0,0))))))))).bind λ z=>(bI ((!((e !=(-1))&& (b !=c)))&& (d !=0)) (aG z.2.1.2.2 a) 0).bind λ v=>(bI ((!((e !=(-1))&& (b !=c)))&& (d !=0)) (cQ a 6) ()).bind λ B=>(bI ((!((e !=(-1))&& (b !=c)))&& (d !=0)) (aG [p,q,r,s,i,j] a) 0).bind λ A=>bif ((e !=(-1))&& (b !=c))|| ((d !=0)&& (v !=A))then k1 (false,())else again (t,f,(wy .i64 (a+1)),g,h,k,l,m,o,p,q,r,s,i,j,())else k0 ()
def ud(t:Option Lb)(a:Z1×Int×Int×Int×Int×Int×Int):Option Bool:=t.bind λ x=>cq (B4 n) n (t,(wS x.1.1:Int),0,a.1.1,a.1.2.1,a.1.2.2.1,a.1.2.2.2.1,a.1.2.2.2.2.1,a.1.2.2.2.2.2,a.2.1,a.2.2.1,a.2.2.2.1,a.2.2.2.2.1,a.2.2.2.2.2.1,a.2.2.2.2.2.2,()) (λ(_)=>some true,λ(b,_)=>some b,())
def SO:aq:=(Kp n).a 92 ⟨[LJ,eB],[],[.aO],λ x y=>ud n x.1 x.2,false⟩
theorem L0:al Rs.FM.Q (SO n):=gD Rs.FM (Lq n) func92 (O:= [_]) ⟨gh n (Lq n) (eN 67 [aT 0 LJ,(3,.v (.cu 67 0)),aT 12 Z0,aT 13 Z0] [(67,.cp eB [.aj Z0,.aj Z0,.aj Z0,.aj Z0,.aj Z0,.aj Z0,.aj Z0,.aj Z0,.aj Z0,.aj Z0,.aj Z0,.aj Z0])]) [fq 0 67 [] [],fw 67 [aT 4 .aO] []] (B4 n),trivial⟩
def N8(n:Nat):Lp2 (nk×(Z2->Option Bool)×Int×Int×Unit) Unit (Int×Unit) Int:=λ(s,f,b,a,_) again (k0,k1,_)=>bif decide (a<b)then(aG s a).bind λ e=>(f e).bind λ x=>bif x then k1 (a,())else again (s,f,b,(wy .i64 (a+1)),())else k0 ()
def Pg(s:List Z2)(f:Z2->Option Bool):Option Int:=cq (N8 n) n (s,f,(wS s:Int),0,()) (λ(_)=>some (-1),λ(a,_)=>some a,())
def Ti:aq:=(SO n).a 141 ⟨[uf,Iq],[],[Z0],λ x y=>Pg n x.1 x.2,false⟩
theorem M7:al Rs.FM.Q (Ti n):=gD Rs.FM (L0 n) func141 (O:= [_]) ⟨gh n (L0 n) (eN 19 [aT 0 uf,aT 1 Iq,aT 7 Z0,aT 8 Z0] []) [fq 0 19 [] [],fw 19 [aT 4 Z0] []] (N8 n),trivial⟩
def T6:Lp2 (xR×pR×qm×Int×Int×Int×Int×Int×Int×Int×Int×Int×Int×Int×Int×Int×Int×Unit) (Int×Int×Int×Int×Int×Int×Int×Int×Int×Int×Int×Int×Unit) (pR×Int×Int×Int×Int×Int×Int×Int×Int×Int×Int×Int×Int×Int×Unit) tZ:=λ(t,r,c,d,b,f,g,j,k,l,m,o,p,q,s,h,i,_) again (k0,k1,_)=>bif decide (b<d)then(aG c b).bind λ e=>(Pg n e (λ u=>ud n t u)).bind λ x=>bif decide (x>=0)then(aG e x).bind λ a=>k1 (r,0,a.1.1,a.1.2.1,a.1.2.2.1,a.1.2.2.2.1,a.1.2.2.2.2.1,a.1.2.2.2.2.2,a.2.1,a.2.2.1,a.2.2.2.1,a.2.2.2.2.1,a.2.2.2.2.2.1,a.2.2.2.2.2.2,())else again (t,r,c,d,(wy .i64 (b+1)),f,g,j,k,l,m,o,p,q,s,h,i,())else k0 (f,g,j,k,l,m,o,p,q,s,h,i,())
def Qu(t:Option Lb):Option tZ:=t.bind λ x=>t.bind λ r=>(Qs n x.1 r.2.2).bind λ a=>bif !a.2 then some ((none:Option um),((0,(0,(0,(0,(0,0))))),(0,(0,(0,(0,(0,0)))))),8)else a.1.bind λ b=>cq (T6 n) n (t,a.1,b.2,(wS b.2:Int),0,0,0,0,0,0,0,0,0,0,0,0,0,()) (λ(s,u,v,w,y,z,A,B,C,D,E,F,_)=>some ((none:Option um),((0,(0,(0,(0,(0,0))))),(0,(0,(0,(0,(0,0)))))),12),λ(c,q,d,e,f,g,h,i,j,k,l,m,o,p,_)=>some (c,((d,(e,(f,(g,(h,i))))),(j,(k,(l,(m,(o,p)))))),q),())
def Nq:aq:=(Ti n).a 113 ⟨[LJ],[],[zp,eB,Z0],λ x y=>Qu n x,false⟩
theorem h34:al Rs.FM.Q (Nq n):=gD Rs.FM (M7 n) func113 (O:= [_]) ⟨gh n (M7 n) (eN 47 [aT 0 LJ,(3,.v (.cu 47 0)),aT 5 zp,aT 28 xh,aT 29 Z0,aT 30 Z0] [(47,.cp eB [.aj Z0,.aj Z0,.aj Z0,.aj Z0,.aj Z0,.aj Z0,.aj Z0,.aj Z0,.aj Z0,.aj Z0,.aj Z0,.aj Z0])]) [fq 0 47 [(3,.v (.cu 47 0))] [(47,.cp eB [.aj Z0,.aj Z0,.aj Z0,.aj Z0,.aj Z0,.aj Z0,.aj Z0,.aj Z0,.aj Z0,.aj Z0,.aj Z0,.aj Z0])],fw 47 [aT 2 zp,(3,.v (.cu 47 0)),aT 4 Z0] [(47,.cp eB [.aj Z0,.aj Z0,.aj Z0,.aj Z0,.aj Z0,.aj Z0,.aj Z0,.aj Z0,.aj Z0,.aj Z0,.aj Z0,.aj Z0])]] (T6 n),trivial⟩
def OD(p:cn×Z19)(t:qZ×Z9×Z9):Option dy:=(vm n (p.1,p.2) ((t.1.1,t.1.2),(t.2.1,t.2.2))).bind λ x=>bif x.2 !=0 then some (0,x.2)else(Qu n x.1).bind λ a=>bif a.2.2 !=0 then some (0,a.2.2)else a.1.bind λ b=>some ((Option.getD (j4 (Ty.f eB) b.1 ((a.2.1.1.1,(a.2.1.1.2.1,(a.2.1.1.2.2.1,(a.2.1.1.2.2.2.1,(a.2.1.1.2.2.2.2.1,a.2.1.1.2.2.2.2.2))))),(a.2.1.2.1,(a.2.1.2.2.1,(a.2.1.2.2.2.1,(a.2.1.2.2.2.2.1,(a.2.1.2.2.2.2.2.1,a.2.1.2.2.2.2.2.2))))))) (0,(((0,(0,(0,(0,(0,0))))),(0,(0,(0,(0,(0,0)))))),(0,0)))).1,0)
def Nb:aq:=(Nq n).a 56 ⟨[cN,gS],[],[Z0,Z0],λ x y=>OD n x.1 x.2,false⟩
theorem Zs:al Rs.FM.Q (Nb n):=dw Rs.FM (h34 n) func56
def Tt(b:Int)(a:cn×Z19):Option Bool:=(mZ n a).bind λ x=>(pX n b 0 (wy .i64 (x- 1))).bind λ c=>some c
def Ri:aq:=(Nb n).a 98 ⟨[Z0],[cN],[.aO],λ x y=>Tt n x y,false⟩
theorem Kj:al Rs.FM.Q (Ri n):=dw Rs.FM (Zs n) func98
def Lg:Lp2 (EF×(Int->Option Bool)×Fp×Int×Int×cn×Z19×Z9×Z9×Int×Int×Int×Int×Int×Int×Int×Int×Int×Int×Int×Int×Unit) (EF×Z9×Z9×Int×Int×Int×Int×Int×Int×Int×Int×Int×Int×Int×Int×Unit) (Int×Unit) Z40:=λ(A,t,y,z,v,p,C,s,w,d,f,g,h,i,j,m,o,q,r,k,l,_) again (k0,k1,_)=>bif decide (v<z)then(aG y v).bind λ e=>(t e.1).bind λ x=>(bI x (t e.2.1) false).bind λ G=>(gk n (x&&G) 6).bind λ M=>(gk n (e.1 !=e.2.1) 11).bind λ N=>(EJ n e.2.2).bind λ O=>(gk n O 2).bind λ P=>(ko n ([M,N,P]:List Int)).bind λ E=>bif E !=0 then k1 (E,())else(cQ e.1 6).bind λ u=>(aG [m,o,q,r,k,l] e.1).bind λ c=>(cQ e.1 6).bind λ S=>(aG [d,f,g,h,i,j] e.1).bind λ Q=>(gk n (decide (Q>=e.2.2)) 12).bind λ R=>(cQ e.2.1 6).bind λ V=>(aG [d,f,g,h,i,j] e.2.1).bind λ H=>(aG p e.2.1).bind λ F=>(gk n (decide ((wy .i64 (H+e.2.2))<=F.2)) 16).bind λ I=>(cQ e.2.1 6).bind λ W=>(aG [m,o,q,r,k,l] e.2.1).bind λ B=>(bI (!(B==0)) (cQ e.2.1 6) ()).bind λ X=>(bI (!(B==0)) (aG [m,o,q,r,k,l] e.2.1) 0).bind λ J=>(gk n ((B==0)|| (J==c)) 13).bind λ K=>(ko n ([R,I,K]:List Int)).bind λ D=>bif D !=0 then k1 (D,())else(cQ e.1 6).bind λ Y=>(aG [d,f,g,h,i,j] e.1).bind λ a=>(cQ e.1 6).bind λ Z=>(cQ e.2.1 6).bind λ aa=>(aG [(bif decide (e.1=0)then(wy .i64 (a- e.2.2))else d),(bif decide (e.1=1)then(wy .i64 (a- e.2.2))else f),(bif decide (e.1=2)then(wy .i64 (a- e.2.2))else g),(bif decide (e.1=3)then(wy .i64 (a- e.2.2))else h),(bif decide (e.1=4)then(wy .i64 (a- e.2.2))else i),(bif decide (e.1=5)then(wy .i64 (a- e.2.2))else j)] e.2.1).bind λ b=>(cQ e.2.1 6).bind λ ab=>(cQ e.2.1 6).bind λ ac=>(cQ e.1 6).bind λ T=>(aG [(bif decide (e.2.1=0)then(wy .i64 (b+e.2.2))else(bif decide (e.1=0)then(wy .i64 (a- e.2.2))else d)),(bif decide (e.2.1=1)then(wy .i64 (b+e.2.2))else(bif decide (e.1=1)then(wy .i64 (a- e.2.2))else f)),(bif decide (e.2.1=2)then(wy .i64 (b+e.2.2))else(bif decide (e.1=2)then(wy .i64 (a- e.2.2))else g)),(bif decide (e.2.1=3)then(wy .i64 (b+e.2.2))else(bif decide (e.1=3)then(wy .i64 (a- e.2.2))else h)),(bif decide (e.2.1=4)then(wy .i64 (b+e.2.2))else(bif decide (e.1=4)then(wy .i64 (a- e.2.2))else i)),(bif decide (e.2.1=5)then(wy .i64 (b+e.2.2))else(bif decide (e.1=5)then(wy .i64 (a- e.2.2))else j))] e.1).bind λ L=>bif L==0 then(cQ e.1 6).bind λ U=>again (A,t,y,z,(wy .i64 (v+1)),p,C,s,w,(bif decide (e.2.1=0)then(wy .i64 (b+e.2.2))else(bif decide (e.1=0)then(wy .i64 (a- e.2.2))else d)),(bif decide (e.2.1=1)then(wy .i64 (b+e.2.2))else(bif decide (e.1=1)then(wy .i64 (a- e.2.2))else f)),(bif decide (e.2.1=2)then(wy .i64 (b+e.2.2))else(bif decide (e.1=2)then(wy .i64 (a- e.2.2))else g)),(bif decide (e.2.1=3)then(wy .i64 (b+e.2.2))else(bif decide (e.1=3)then(wy .i64 (a- e.2.2))else h)),(bif decide (e.2.1=4)then(wy .i64 (b+e.2.2))else(bif decide (e.1=4)then(wy .i64 (a- e.2.2))else i)),(bif decide (e.2.1=5)then(wy .i64 (b+e.2.2))else(bif decide (e.1=5)then(wy .i64 (a- e.2.2))else j)),(bif decide (e.1=0)then 0 else(bif decide (e.2.1=0)then c else m)),(bif decide (e.1=1)then 0 else(bif decide (e.2.1=1)then c else o)),(bif decide (e.1=2)then 0 else(bif decide (e.2.1=2)then c else q)),(bif decide (e.1=3)then 0 else(bif decide (e.2.1=3)then c else r)),(bif decide (e.1=4)then 0 else(bif decide (e.2.1=4)then c else k)),(bif decide (e.1=5)then 0 else(bif decide (e.2.1=5)then c else l)),())else again (A,t,y,z,(wy .i64 (v+1)),p,C,s,w,(bif decide (e.2.1=0)then(wy .i64 (b+e.2.2))else(bif decide (e.1=0)then(wy .i64 (a- e.2.2))else d)),(bif decide (e.2.1=1)then(wy .i64 (b+e.2.2))else(bif decide (e.1=1)then(wy .i64 (a- e.2.2))else f)),(bif decide (e.2.1=2)then(wy .i64 (b+e.2.2))else(bif decide (e.1=2)then(wy .i64 (a- e.2.2))else g)),(bif decide (e.2.1=3)then(wy .i64 (b+e.2.2))else(bif decide (e.1=3)then(wy .i64 (a- e.2.2))else h)),(bif decide (e.2.1=4)then(wy .i64 (b+e.2.2))else(bif decide (e.1=4)then(wy .i64 (a- e.2.2))else i)),(bif decide (e.2.1=5)then(wy .i64 (b+e.2.2))else(bif decide (e.1=5)then(wy .i64 (a- e.2.2))else j)),(bif decide (e.2.1=0)then c else m),(bif decide (e.2.1=1)then c else o),(bif decide (e.2.1=2)then c else q),(bif decide (e.2.1=3)then c else r),(bif decide (e.2.1=4)then c else k),(bif decide (e.2.1=5)then c else l),())else k0 (A,s,w,d,f,g,h,i,j,m,o,q,r,k,l,())
def P6(p:cn×Z19)(s:Z9×Z9)(l:List kj):Option Z40:=(Ij n (p.1,p.2) (s.1,s.2)).bind λ x=>(gk n (decide ((wS l:Int)<=20)) 8).bind λ y=>(ko n ([x.2.2,y]:List Int)).bind λ b=>bif b !=0 then some (((([]:List Int),([]:List Int)),(([]:List Int),([]:List Int))),b)else cq (Lg n) n ((x.1.1,x.1.2),(λ C=>Tt n C (x.1.1,x.1.2)),l,(wS l:Int),0,p.1,p.2,s.1,s.2,x.2.1.1.1,x.2.1.1.2.1,x.2.1.1.2.2.1,x.2.1.1.2.2.2.1,x.2.1.1.2.2.2.2.1,x.2.1.1.2.2.2.2.2,x.2.1.2.1,x.2.1.2.2.1,x.2.1.2.2.2.1,x.2.1.2.2.2.2.1,x.2.1.2.2.2.2.2.1,x.2.1.2.2.2.2.2.2,()) (λ(a,e,f,h,i,j,k,m,o,q,r,t,u,v,w,_)=>(mZ n a).bind λ z=>(yw n ((h,(i,(j,(k,(m,o))))),(q,(r,(t,(u,(v,w)))))) z).bind λ c=>(tj n (e,f)).bind λ A=>(mZ n a).bind λ B=>(yw n A B).bind λ d=>some (((d.1,d.2),(c.1,c.2)),0),λ(g,_)=>some (((([]:List Int),([]:List Int)),(([]:List Int),([]:List Int))),g),())
def NF:aq:=(Ri n).a 29 ⟨[cN,fh,qE],[],[gS,Z0],λ x y=>P6 n x.1 x.2.1 x.2.2,false⟩
theorem VK:al Rs.FM.Q (NF n):=gD Rs.FM (Kj n) func29 (O:= [_]) ⟨gh n (Kj n) (eN 173 [(3,.v (.cu 173 0)),(4,.v (.cu 174 0)),(6,.v (.cu 175 0)),(8,.v (.pp cN)),(9,.v (.cu 176 0)),aT 11 (.dP Z0 .aO),aT 37 qE,aT 38 Z0,aT 39 Z0] [(173,.cp cN [.aj gv,.aj dK]),(174,.cp fh [.aj Z8,.aj Z8]),(175,.cp gS [.j6,.j6,.j6,.j6]),(176,.cp eB [.aj Z0,.aj Z0,.aj Z0,.aj Z0,.aj Z0,.aj Z0,.aj Z0,.aj Z0,.aj Z0,.aj Z0,.aj Z0,.aj Z0])]) [fq 0 173 [(4,.v (.cu 173 0)),(6,.v (.cu 174 0)),(8,.v (.pp cN)),(9,.v (.cu 175 0))] [(173,.cp fh [.aj Z8,.aj Z8]),(174,.cp gS [.j6,.j6,.j6,.j6]),(175,.cp eB [.aj Z0,.aj Z0,.aj Z0,.aj Z0,.aj Z0,.aj Z0,.aj Z0,.aj Z0,.aj Z0,.aj Z0,.aj Z0,.aj Z0])],fw 173 [(6,.v (.cu 173 0)),aT 7 Z0] [(173,.cp gS [.j6,.j6,.j6,.j6])]] (Lg n),trivial⟩
def Tn:aq:=(NF n).a 157 (M6 n)
theorem h38:al Rs.FM.Q (Tn n):=mN (VK n) (aeb n)
def Nh:aq:=(Tn n).a 184 (T7 n)
theorem h39:al Rs.FM.Q (Nh n):=mN (h38 n) (abx n)
def Gi(s a:BW):Option Int:=(BL n s a).bind λ x=>some x
def pf:aq:=(Nh n).a 158 ⟨[.aJ,.aJ],[],[Z0],λ x y=>Gi n x.1 x.2,false⟩
theorem El:al Rs.FM.Q (pf n):=dw Rs.FM (h39 n) func158
def Is:Lp2 (BW×Unit) Unit Unit Cu:=λ(a,_) again (k0,k1,_)=>bif decide ((wS a:Int)>0)then(KJ n a).bind λ x=>(iB a 0 x.2).bind λ b=>tG (α:=BW) b ((iB a x.2 (wS a:Int)).bind λ c=>again (c,())) (k1 ())else k0 ()
def Gy:Lp2 (BW×BW×Int×Unit) (BW×Unit) Unit Cu:=λ(b,a,c,_) again (k0,k1,_)=>(Gi n a b).bind λ x=>bif decide (x<0)then k0 (a,())else(iB a 0 (wy .i64 (x+c))).bind λ d=>tG (α:=BW) d ((iB a (wy .i64 (x+ (wS b:Int))) (wS a:Int)).bind λ e=>again (b,e,c,())) (k1 ())
def Nc(a c1:BW)(c2:Int):Option Cu:=bif (wS a:Int)==0 then cq (Is n) n (c1,()) (λ(_)=>some [],λ(_)=>some [],())else cq (Gy n) n (a,c1,c2,()) (λ(b,_)=>tG (α:=BW) b (some []) (some []),λ(_)=>some [],())
def IX:cf:= ⟨52,[.aJ],[(0,.v (.sZ)),(2,.v (.cu 52 0))],[(52,.cp .aJ [.aj .aJ])],[]⟩
def Td:List (dN×cf):= [(.ou 0,⟨52,[],[],[],[]⟩),(.sT,⟨52,[],[],[],[]⟩)]
def I4:Ev (List (ax [.aJ])):=mG n (pf n) IX Td (Is n)
theorem UM d again ks:dv (R:=(List (ax [.aJ]))) (pf n) (jP [.aJ]) (iw (lp (bd S2) 0)) [] (mk IX d) (mL (pf n) IX Td again ks)=Is n d again ks:=by kernel_rfl
theorem aeA:eS Rs.FM.Q (jP [.aJ]) false (lp (bd S2) 0) (I4 n):=rk (El n) Rs.FM.b (by kernel_rfl) (O:= []) trivial (UM n)
def Ip:cf:= ⟨52,[.aJ,.aJ,Z0],[(0,.v (.sZ)),(1,.v (.cu 52 0)),(2,.v (.cu 53 0)),(3,.v (.cu 54 0))],[(52,.cp .aJ [.aj .aJ]),(53,.cp .aJ [.aj .aJ]),(54,.cp Z0 [.aj Z0])],[]⟩
def Pn:List (dN×cf):= [(.ou 2,⟨52,[.aJ],[(0,.v (.sZ)),(2,.v (.cu 52 0))],[(52,.cp .aJ [.aj .aJ])],[]⟩),(.sT,⟨52,[],[],[],[]⟩)]
def HL:Ev (List (ax [.aJ])):=mG n (pf n) Ip Pn (Gy n)
theorem ahD d again ks:dv (R:=(List (ax [.aJ]))) (pf n) (jP [.aJ]) (iw (lp (bd S2) 1)) [] (mk Ip d) (mL (pf n) Ip Pn again ks)=Gy n d again ks:=by kernel_rfl
theorem af6:eS Rs.FM.Q (jP [.aJ]) false (lp (bd S2) 1) (HL n):=rk (El n) Rs.FM.b (by kernel_rfl) (O:= []) trivial (ahD n)
def aeW(e c1:BW)(c2:Int):au:={N:=52,d:= [],a:=(0,⟨[],true,.v .ku⟩):: [(1,⟨[],true,.v (.dx 0 0 0)⟩),(2,⟨[],true,.v (.dx 1 0 0)⟩),(3,⟨[],true,.v (.dx 2 0 0)⟩)],b:= [(0,(0,.eu .aJ [.aE .aJ e])),(1,(0,.eu .aJ [.aE .aJ c1])),(2,(0,.eu Z0 [.aE Z0 c2]))],c:= []}
theorem aeY(a:BW)(c1:BW)(c2:Int):dv (R:=(List (ax [.aJ]))) (pf n) (jP [.aJ]) (bd S2) [I4 n,HL n] (aeW a c1 c2) Cb=Nc n a c1 c2:=by kernel_rfl
theorem ahS:eS Rs.FM.Q (jP [.aJ]) false (bd S2) (dv (R:=(List (ax [.aJ]))) (pf n) (jP [.aJ]) (bd S2) [I4 n,HL n]):=ji (El n) Rs.FM.b _ _ (my ⟨aeA n,af6 n,trivial⟩)
def HO(s t:BW):Option AU:=Nc n t s 0
theorem YH:Ej Rs.FM.Q 115 .aJ (HO n):=ZA (ahS n) λ s t=>aeY n t s 0
def Pp:aq:=pf n
theorem h41:al Rs.FM.Q (Pp n):=El n
def MB:aq:=(Pp n).a 159 (Ps n)
theorem h42:al Rs.FM.Q (MB n):=mN (h41 n) (ahr n)
def Pa:aq:=(MB n).a 160 (QB n)
theorem TY:al Rs.FM.Q (Pa n):=mN (h42 n) (aeV n)
def Fw:Lp1 (BW×BW×Int×Int×Int×AU×Unit) (BW×Int×AU×Unit) AU:=λ(s,sep,b,c,i,a,_) again (k0,_)=>bif decide (i<c)then(Gi n s sep).bind λ x=>bif decide (x<0)then k0 (s,i,a,())else(iB s 0 (wy .i64 (x+b))).bind λ d=>(aG a i).bind λ e=>(tD a i d).bind λ l=>(iB s (wy .i64 (x+ (wS sep:Int))) (wS s:Int)).bind λ f=>again (f,sep,b,c,(wy .i64 (i+1)),l,())else k0 (s,i,a,())
def MC(s sep:BW)(g a:Int):Option AU:=bif a==0 then some ([]:List BW)else bif sep== []then(TI n s a).bind λ x=>some x else bif decide (a<0)then(Bp n s sep).bind λ d=>(CO (bu (wy .i64 (d+1)) (wy .i64 ((wS s:Int)+1)))).bind λ u=>cq (Fw n) n (s,sep,g,(wy .i64 ((bu (wy .i64 (d+1)) (wy .i64 ((wS s:Int)+1)))- 1)),0,(PH (N1 (bu (wy .i64 (d+1)) (wy .i64 ((wS s:Int)+1)))) []),()) (λ(j,b,e,_)=>(aG e b).bind λ o=>(tD e b j).bind λ h=>(iB h 0 (wy .i64 (b+1))).bind λ l=>some l,())else(CO (bu a (wy .i64 ((wS s:Int)+1)))).bind λ q=>cq (Fw n) n (s,sep,g,(wy .i64 ((bu a (wy .i64 ((wS s:Int)+1)))- 1)),0,(PH (N1 (bu a (wy .i64 ((wS s:Int)+1)))) []),()) (λ(k,c,f,_)=>(aG f c).bind λ p=>(tD f c k).bind λ i=>(iB i 0 (wy .i64 (c+1))).bind λ m=>some m,())
def M3:aq:=(Pa n).a 146 ⟨[.aJ,.aJ,Z0,Z0],[],[Z57],λ x y=>MC n x.1 x.2.1 x.2.2.1 x.2.2.2,false⟩
theorem h44:al Rs.FM.Q (M3 n):=gD Rs.FM (TY n) func146 (O:= [_]) ⟨gh n (TY n) (eN 66 [aT 0 .aJ,aT 1 .aJ,aT 2 Z0,aT 3 Z0,(9,.v (.iR 66)),aT 10 Z0] [(66,.jH .aJ)]) [fq 0 66 [aT 0 .aJ,(9,.v (.iR 66)),aT 10 Z0] [(66,.jH .aJ)]] (Fw n),trivial⟩
def Qd(s sep:BW):Option AU:=(MC n s sep 0 (-1)).bind λ x=>some x
def qA:aq:=(M3 n).a 116 ⟨[.aJ,.aJ],[],[Z57],λ x y=>Qd n x.1 x.2,false⟩
theorem HN:al Rs.FM.Q (qA n):=dw Rs.FM (h44 n) func116
def BN:akl (cn×Z19×Int×Z19×Bool×Unit) BW (Int×Unit) Jz:=λ(p,g,h,out,missing,_) y again (k0,_)=>(Qd n y [32]).bind λ x=>(bI (!((wS x:Int) !=2)) (aG x 0) []).bind λ e=>(bI (!(((wS x:Int) !=2)|| (e== []))) (aG x 1) []).bind λ c=>bif (((wS x:Int) !=2)|| (e== []))|| (c== [])then k0 (7,())else(aG x 0).bind λ d=>(vV n p d).bind λ a=>(aG x 1).bind λ f=>(vV n p f).bind λ b=>(jk (wS out+wS ([(a,b)]:List dy))).bind λ u=>again (p,g,h,(out++ ([(a,b)]:List dy)),((missing|| (decide (a<0)))|| (decide (b<0))),())
def LL(p:cn×Z19)(s:BW):Option Jz:=(tx n (p.1,p.2)).bind λ x=>bif x.2 !=0 then some (([]:List dy),x.2)else bif s== []then some (([]:List dy),0)else(HO n s [59]).bind λ xs=>la (BN n) (λ(c,_)=>some (([]:List dy),c),()) (λ(d,e,f,b,a,_)=>bif a then some (([]:List dy),6)else some (b,0)) xs (p.1,p.2,0,([]:List dy),false,())
def uc:cf:= ⟨73,[gv,dK,Z0,dK,.aO],[(2,.v (.cu 73 0)),(4,.v (.cu 74 0)),(5,.v (.cu 75 0)),(8,.v (.cu 76 0)),(9,.v (.cu 78 0))],[(73,.cp cN [.aj gv,.aj dK]),(74,.cp dK [.j6]),(75,.cp Z0 [.aj Z0]),(76,.cp dK [.iR 77]),(77,.jH Z3),(78,.cp .aO [.aj .aO])],[]⟩
def Gr:List (dN×cf):= [(.sT,⟨73,[Z0],[(4,.v (.cu 73 0)),(5,.v (.cu 74 0))],[(73,.cp dK [.j6]),(74,.cp Z0 [.aj Z0])],[]⟩)]
theorem aaS(d)(x)(again)(ks):dv (R:=(ax [dK,Z0])) (qA n) (bT.b (R:=(ax [dK,Z0]))) (D8 (pE 5 (bd f58))) [] (yO uc [2,4,5,8,9] [25] [.aJ] d x) (tH λ st=>dv (R:=(ax [dK,Z0])) (qA n) (bT.b (R:=(ax [dK,Z0]))) (Dt (pE 5 (bd f58))) [] st (wR (qA n) uc [2,4,5,8,9] Gr again ks))=BN n d x again ks:=by kernel_rfl
def JN:fc:= ⟨[cN,.aJ],[],[dK,Z0],λ x y=>LL n x.1 x.2,false⟩
theorem XJ:CD 1 23 24 115 0 25 [59] (pE 5 (bd f58))=true:=by kernel_rfl
theorem WE:qp (R:=(ax [dK,Z0])) Rs.FM.Q (qA n) [.aJ] [25] (D8 (pE 5 (bd f58))) (Dt (pE 5 (bd f58))) [] [] uc [2,4,5,8,9] Gr (BN n):=ab1 (HN n) Rs.FM.b rfl (by decide) (by decide) rfl trivial trivial (aaS n)
theorem abU(d:cR uc.b)(k:Nat)(sl:fX)(h:Map.av (mk uc d).a k=some sl):k≠23/\k≠24:=U7 (T:=uc) (by kernel_rfl) d k sl h
theorem aet(x:ax [cN,.aJ])(y:ax []):(xP (qA n) (bT.b (R:=(ax [dK,Z0]))) (Eu (qA n) .aJ (.tmp 1) (λ s=>HO n s [59]) uc Gr (BN n) 0) 5 (bd f58)) (uN f58.ntmps [cN,.aJ] [] x y) (xj (qA n) false f58.results.toList [dK,Z0])=(JN n).g x y:=by kernel_rfl
theorem Zf:jf Rs.FM.Q 58 (JN n):=ZQ (HN n) Rs.FM.b (Rs.FM.a func58 (by kernel_rfl) (by decide)) (by kernel_rfl) (by kernel_rfl) (by kernel_rfl) (YH n) XJ (by kernel_rfl) (by decide) (by decide) (by decide) (WE n) abU (aet n)
def Rl:aq:=(qA n).a 58 (JN n)
theorem Tq:al Rs.FM.Q (Rl n):=mN (HN n) (Zf n)
def Pu(n:Nat):Lp2 (Z9×Z9×Int×Unit) Unit (Bool×Unit) Bool:=λ(a,b,i,_) again (k0,k1,_)=>bif decide (i< (wS a:Int))then(aG a i).bind λ e=>(aG b i).bind λ c=>bif e !=c then k1 (false,())else again (a,b,(wy .i64 (i+1)),())else k0 ()
def zL(a b:List Int):Option Bool:=bif (wS a:Int) !=(wS b:Int)then some false else cq (Pu n) n (a,b,0,()) (λ(_)=>some true,λ(c,_)=>some c,())
def Mb:aq:=(Rl n).a 82 ⟨[Z8,Z8],[],[.aO],λ x y=>zL n x.1 x.2,false⟩
theorem h47:al Rs.FM.Q (Mb n):=gD Rs.FM (Tq n) func82 (O:= [_]) ⟨gh n (Tq n) (eN 26 [aT 0 Z8,aT 1 Z8,aT 5 Z0] []) [fq 0 26 [] [],fw 26 [aT 4 .aO] []] (Pu n),trivial⟩
def Mn(a b:Z9×Z9):Option Bool:=(zL n a.1 b.1).bind λ x=>(bI x (zL n a.2 b.2) false).bind λ c=>some (x&&c)
def P3:aq:=(Mb n).a 41 ⟨[fh,fh],[],[.aO],λ x y=>Mn n x.1 x.2,false⟩
theorem OJ:al Rs.FM.Q (P3 n):=dw Rs.FM (h47 n) func41
def Sk(n:Nat):Lp2 (Z19×Z19×Int×Unit) Unit (Bool×Unit) Bool:=λ(a,b,i,_) again (k0,k1,_)=>bif decide (i< (wS a:Int))then(aG a i).bind λ e=>(aG b i).bind λ c=>bif !((e.1==c.1)&& (e.2==c.2))then k1 (false,())else again (a,b,(wy .i64 (i+1)),())else k0 ()
def RH(a b:List dy):Option Bool:=bif (wS a:Int) !=(wS b:Int)then some false else cq (Sk n) n (a,b,0,()) (λ(_)=>some true,λ(c,_)=>some c,())
def Qo:aq:=(P3 n).a 38 ⟨[dK,dK],[],[.aO],λ x y=>RH n x.1 x.2,false⟩
theorem h49:al Rs.FM.Q (Qo n):=gD Rs.FM (OJ n) func38 (O:= [_]) ⟨gh n (OJ n) (eN 26 [aT 0 dK,aT 1 dK,aT 5 Z0] []) [fq 0 26 [] [],fw 26 [aT 4 .aO] []] (Sk n),trivial⟩
def FJ:Option Bool:=(zC n).bind λ x=>(DU n).bind λ h=>(Na n x h (0,1)).bind λ b=>(zC n).bind λ j=>(LQ n).bind λ k=>(OD n j k).bind λ a=>(zC n).bind λ l=>(DU n).bind λ m=>(P6 n l m ([(0,(1,2)),(1,(2,1))]:List kj)).bind λ c=>(zC n).bind λ o=>(LL n o [97,32,98,59,98,32,99]).bind λ e=>(bI (b.2==0) (Mn n (b.1.1,b.1.2) (([3,5,0]:List Int),([1,1,0]:List Int))) false).bind λ d=>(bI (((((b.2==0)&&d)&& (a.2==0))&& (a.1==7))&& (c.2==0)) (zL n c.1.2.1 ([6,1,1]:List Int)) false).bind λ f=>(bI ((((((b.2==0)&&d)&& (a.2==0))&& (a.1==7))&& (c.2==0))&&f) (zL n c.1.2.2 ([1,1,1]:List Int)) false).bind λ g=>(bI ((((((((b.2==0)&&d)&& (a.2==0))&& (a.1==7))&& (c.2==0))&&f)&&g)&& (e.2==0)) (RH n e.1 ([(0,1),(1,2)]:List dy)) false).bind λ i=>some (((((((((b.2==0)&&d)&& (a.2==0))&& (a.1==7))&& (c.2==0))&&f)&&g)&& (e.2==0))&&i)
def Rn:aq:=(Qo n).a 17 ⟨[],[],[.aO],λ x y=>FJ n,false⟩
theorem h50:al Rs.FM.Q (Rn n):=dw Rs.FM (h49 n) func17
def qg(n:Nat)(a lo b:Int):Option Bool:=some ((decide (lo<=a))&& (decide (a<=b)))
def OS:aq:=(Rn n).a 47 ⟨[Z0,Z0,Z0],[],[.aO],λ x y=>qg n x.1 x.2.1 x.2.2,false⟩
theorem LN:al Rs.FM.Q (OS n):=dw Rs.FM (h50 n) func47
def yJ:Lp2 (Int×cn×Z19×Unit) Unit (Bool×Unit) Bool:=λ(i,p,b,_) again (k0,k1,_)=>bif decide (i< (wS p:Int))then(aG p i).bind λ e=>(bI (!(decide ((wS e.1:Int)>20))) (aG p i) ([],0)).bind λ a=>(bI (!(decide ((wS e.1:Int)>20))) (qg n a.2 11 50) false).bind λ x=>bif (decide ((wS e.1:Int)>20))||x then k1 (false,())else again ((wy .i64 (i+1)),p,b,())else k0 ()
def xB(p:cn×Z19):Option Bool:=bif ((((decide ((wS p.1:Int)>4))&& (decide ((wS p.1:Int)<=6)))|| (decide ((wS p.1:Int)>8)))|| ((decide ((wS p.2:Int)>14))&& (decide ((wS p.2:Int)<=30))))|| (decide ((wS p.2:Int)>32))then some false else cq (yJ n) n (0,p.1,p.2,()) (λ(_)=>some true,λ(a,_)=>some a,())
def Nw:aq:=(OS n).a 18 ⟨[cN],[],[.aO],λ x y=>xB n x,false⟩
theorem h52:al Rs.FM.Q (Nw n):=gD Rs.FM (LN n) func18 (O:= [_]) ⟨gh n (LN n) (eN 62 [(1,.v (.cu 62 0)),aT 3 Z0] [(62,.cp cN [.aj gv,.aj dK])]) [fq 0 62 [] [],fw 62 [aT 2 .aO] []] (yJ n),trivial⟩
def wX(n:Nat)(s:Z9×Z9):Option Bool:=some ((decide ((wS s.1:Int)<=10))&& (decide ((wS s.2:Int)<=10)))
def Sj:aq:=(Nw n).a 20 ⟨[fh],[],[.aO],λ x y=>wX n x,false⟩
theorem h53:al Rs.FM.Q (Sj n):=dw Rs.FM (h52 n) func20
def wL(n:Nat)(p:cn×Z19):Option EF:=(jk (wS ([]:List qG)+wS p.1)).bind λ u=>(jk (wS ([]:List dy)+wS p.2)).bind λ a=>some ((([]:List qG)++p.1),(([]:List dy)++p.2))
def Sf:aq:=(Sj n).a 22 ⟨[cN],[],[cN],λ x y=>wL n x,false⟩
theorem h54:al Rs.FM.Q (Sf n):=dw Rs.FM (h53 n) func22
def uV(n:Nat)(l:List Int):Option Z9:=(jk (wS ([]:List Int)+wS l)).bind λ u=>some (([]:List Int)++l)
def Mv:aq:=(Sf n).a 89 ⟨[Z8],[],[Z8],λ x y=>uV n x,true⟩
theorem WJ:al Rs.FM.Q (Mv n):=dw Rs.FM (h54 n) func89
def th(s:Z9×Z9):Option qZ:=(uV n s.1).bind λ x=>(uV n s.2).bind λ a=>some (x,a)
def NG:aq:=(Mv n).a 25 ⟨[fh],[],[fh],λ x y=>th n x,true⟩
theorem h56:al Rs.FM.Q (NG n):=dw Rs.FM (WJ n) func25
def zh(p:cn×Z19)(t:qZ×Z9×Z9)(s:Z9×Z9):Option (Bool×Int):=(vm n (p.1,p.2) ((t.1.1,t.1.2),(t.2.1,t.2.2))).bind λ x=>bif x.2==0 then x.1.bind λ b=>(px n b.1 (s.1,s.2)).bind λ a=>bif a !=0 then some (false,a)else(tj n (s.1,s.2)).bind λ c=>(ud n x.1 c).bind λ d=>some (d,0)else bif x.2 !=0 then some (false,x.2)else(tj n (s.1,s.2)).bind λ e=>(ud n x.1 e).bind λ f=>some (f,0)
def Rx:aq:=(NG n).a 24 ⟨[cN,gS,fh],[],[.aO,Z0],λ x y=>zh n x.1 x.2.1 x.2.2,false⟩
theorem h57:al Rs.FM.Q (Rx n):=dw Rs.FM (h56 n) func24
def yx(n:Nat):Lp2 (BW×Int×Unit) Unit (Bool×Unit) Bool:=λ(s,i,_) again (k0,k1,_)=>bif decide (i< (wS s:Int))then(aG s i).bind λ c=>bif (!(((decide (((AT c:Nat):Int)>=97))&& (decide (((AT c:Nat):Int)<=122)))|| ((decide (((AT c:Nat):Int)>=65))&& (decide (((AT c:Nat):Int)<=90)))))&& ((i==0)|| ((((AT c:Nat):Int) !=45)&& ((decide (((AT c:Nat):Int)<48))|| (decide (((AT c:Nat):Int)>57)))))then k1 (false,())else again (s,(wy .i64 (i+1)),())else k0 ()
def EH(s:BW):Option Bool:=bif (decide ((wS s:Int)<1))|| (decide ((wS s:Int)>12))then some false else cq (yx n) n (s,0,()) (λ(_)=>some true,λ(a,_)=>some a,())
def NB:aq:=(Rx n).a 110 ⟨[.aJ],[],[.aO],λ x y=>EH n x,false⟩
theorem Zu:al Rs.FM.Q (NB n):=gD Rs.FM (h57 n) func110 (O:= [_]) ⟨gh n (h57 n) (eN 55 [aT 0 .aJ,aT 3 Z0] []) [fq 0 55 [] [],fw 55 [aT 2 .aO] []] (yx n),trivial⟩
def zF(p:cn×Z19)(a:Int):Option Bool:=(qg n a 0 (wy .i64 ((wS p.1:Int)- 1))).bind λ x=>some x
def Pm:aq:=(NB n).a 80 ⟨[cN,Z0],[],[.aO],λ x y=>zF n x.1 x.2,false⟩
theorem Oe:al Rs.FM.Q (Pm n):=dw Rs.FM (Zu n) func80
def Ak(n:Nat):Lp2 (Int×Int×cn×Z19×Unit) (Int×cn×Z19×Unit) (Int×Int×Unit) dy:=λ(i,a,p,b,_) again (k0,k1,_)=>bif decide (a<i)then(aG p a).bind λ e=>(aG p i).bind λ c=>bif e.1==c.1 then k1 (i,5,())else again (i,(wy .i64 (a+1)),p,b,())else k0 (i,p,b,())
def yU:Lp2 (Int×cn×Z19×Unit) (cn×Z19×Unit) (Int×Int×Unit) dy:=λ(i,p,b,_) again (k0,k1,_)=>bif decide (i< (wS p:Int))then(aG p i).bind λ e=>(EH n e.1).bind λ x=>bif !x then k1 (i,4,())else cq (Ak n) n (i,0,p,b,()) (λ(a,c,f,_)=>(aG c a).bind λ d=>(qg n d.2 1 50).bind λ j=>bif !j then k1 (a,2,())else again ((wy .i64 (a+1)),c,f,()),λ(g,h,_)=>k1 (g,h,()),())else k0 (p,b,())
def yj(n:Nat):Lp2 (Int×Int×cn×Z19×Int×Int×Unit) (Int×cn×Z19×Unit) (Int×Int×Unit) dy:=λ(i,b,p,a,h,c,_) again (k0,k1,_)=>bif decide (b<i)then(aG a b).bind λ e=>bif (e.1==h)&& (e.2==c)then k1 (i,26,())else again (i,(wy .i64 (b+1)),p,a,h,c,())else k0 (i,p,a,())
def zm:Lp2 (Int×cn×Z19×Unit) Unit (Int×Int×Unit) dy:=λ(i,p,a,_) again (k0,k1,_)=>bif decide (i< (wS a:Int))then(aG a i).bind λ e=>(cQ 0 2).bind λ u=>(aG [e.1,e.2] 0).bind λ x=>(zF n (p,a) x).bind λ b=>(bI (!(!b)) (cQ 1 2) ()).bind λ o=>(bI (!(!b)) (aG [e.1,e.2] 1) 0).bind λ j=>(bI (!(!b)) (zF n (p,a) j) false).bind λ k=>bif (!b)|| (!k)then k1 (i,6,())else(cQ 0 2).bind λ q=>(aG [e.1,e.2] 0).bind λ l=>(cQ 1 2).bind λ r=>(aG [e.1,e.2] 1).bind λ m=>bif l==m then k1 (i,11,())else cq (yj n) n (i,0,p,a,e.1,e.2,()) (λ(c,d,f,_)=>again ((wy .i64 (c+1)),d,f,()),λ(g,h,_)=>k1 (g,h,()),())else k0 ()
def xy(p:cn×Z19):Option dy:=bif (wS p.1:Int)==0 then some (0,10)else bif decide ((wS p.1:Int)>6)then some (0,8)else cq (yU n) n (0,p.1,p.2,()) (λ(b,a,_)=>bif decide ((wS a:Int)>30)then some (0,8)else cq (zm n) n (0,b,a,()) (λ(_)=>some (0,0),λ(c,e,_)=>some (c,e),()),λ(d,f,_)=>some (d,f),())
def Ny:aq:=(Pm n).a 46 ⟨[cN],[],[Z0,Z0],λ x y=>xy n x,false⟩
theorem h60:al Rs.FM.Q (Ny n):=gD Rs.FM (Oe n) func46 (O:= [_,_]) ⟨B8 n (Oe n) (eN 109 [(1,.v (.cu 109 0)),aT 4 Z0] [(109,.cp cN [.aj gv,.aj dK])]) [fq 0 109 [(1,.v (.cu 109 0))] [(109,.cp cN [.aj gv,.aj dK])],fw 109 [aT 2 Z0,aT 3 Z0] []] (yU n) (O:= [_]) ⟨gh n (Oe n) (eN 109 [(1,.v (.cu 109 0)),aT 4 Z0,aT 5 Z0] [(109,.cp cN [.aj gv,.aj dK])]) [fq 2 109 [(1,.v (.cu 109 0)),aT 4 Z0] [(109,.cp cN [.aj gv,.aj dK])],fw 109 [aT 2 Z0,aT 3 Z0] []] (Ak n),trivial⟩,B8 n (Oe n) (eN 109 [(1,.v (.cu 109 0)),aT 6 Z0] [(109,.cp cN [.aj gv,.aj dK])]) [fq 4 109 [] [],fw 109 [aT 2 Z0,aT 3 Z0] []] (zm n) (O:= [_]) ⟨gh n (Oe n) (eN 109 [(1,.v (.cu 109 0)),aT 6 Z0,(7,.v (.cu 110 0)),aT 8 Z0] [(109,.cp cN [.aj gv,.aj dK]),(110,.cp Z3 [.aj Z0,.aj Z0])]) [fq 6 109 [(1,.v (.cu 109 0)),aT 6 Z0] [(109,.cp cN [.aj gv,.aj dK])],fw 109 [aT 2 Z0,aT 3 Z0] []] (yj n),trivial⟩,trivial⟩
def DI:Lp2 (Int×cn×Z19×Z9×Z9×Unit) Unit (Int×Unit) Int:=λ(i,p,g,s,a,_) again (k0,k1,_)=>bif decide (i< (wS p:Int))then(aG s i).bind λ e=>(aG p i).bind λ b=>(qg n e 0 b.2).bind λ x=>(bI (!(!x)) (aG a i) 0).bind λ c=>(bI (!(!x)) (qg n c 0 3) false).bind λ h=>bif (!x)|| (!h)then k1 (2,())else(aG a i).bind λ d=>(aG s i).bind λ f=>bif !((d==0)==(f==0))then k1 (13,())else again ((wy .i64 (i+1)),p,g,s,a,())else k0 ()
def sM(p:cn×Z19)(s:Z9×Z9):Option Int:=bif ((wS s.1:Int) !=(wS p.1:Int))|| ((wS s.2:Int) !=(wS p.1:Int))then some 10 else cq (DI n) n (0,p.1,p.2,s.1,s.2,()) (λ(_)=>some 0,λ(a,_)=>some a,())
def OF:aq:=(Ny n).a 27 ⟨[cN,fh],[],[Z0],λ x y=>sM n x.1 x.2,false⟩
theorem zq:al Rs.FM.Q (OF n):=gD Rs.FM (h60 n) func27 (O:= [_]) ⟨gh n (h60 n) (eN 64 [(2,.v (.cu 64 0)),(3,.v (.cu 65 0)),aT 5 Z0] [(64,.cp cN [.aj gv,.aj dK]),(65,.cp fh [.aj Z8,.aj Z8])]) [fq 0 64 [] [],fw 64 [aT 4 Z0] []] (DI n),trivial⟩
def s30(n:Nat)(l:List kj):Option Fp:=(jk (wS ([]:List kj)+wS l)).bind λ u=>some (([]:List kj)++l)
def Qw:aq:=(OF n).a 30 ⟨[qE],[],[qE],λ x y=>s30 n x,false⟩
theorem Of:al Rs.FM.Q (Qw n):=dw Rs.FM (zq n) func30
def s31(p:cn×Z19)(s:Z9×Z9):Option Int:=(xy n (p.1,p.2)).bind λ x=>bif x.2 !=0 then some x.2 else(sM n (p.1,p.2) (s.1,s.2)).bind λ a=>some a
def QL:aq:=(Qw n).a 31 ⟨[cN,fh],[],[Z0],λ x y=>s31 n x.1 x.2,false⟩
theorem Lw:al Rs.FM.Q (QL n):=dw Rs.FM (Of n) func31
def ace:Lp2 (Fp×Int×cn×Z19×Z9×Z9×Z9×Z9×Unit) (Z9×Z9×Z9×Z9×Unit) (Int×Unit) Z40:=λ(l,i,p,f,s,h,a,b,_) again (k0,k1,_)=>bif decide (i< (wS l:Int))then(aG l i).bind λ e=>(zF n (p,f) e.1).bind λ x=>(bI (!(!x)) (zF n (p,f) e.2.1) false).bind λ o=>bif (!x)|| (!o)then k1 (6,())else bif e.1==e.2.1 then k1 (11,())else(qg n e.2.2 1 50).bind λ t=>bif !t then k1 (2,())else(aG a e.1).bind λ B=>(aG a e.1).bind λ u=>bif decide (u<e.2.2)then k1 (12,())else(aG a e.2.1).bind λ H=>(aG a e.2.1).bind λ v=>(aG p e.2.1).bind λ k=>bif decide ((wy .i64 (v+e.2.2))>k.2)then k1 (16,())else(aG b e.2.1).bind λ I=>(aG b e.2.1).bind λ c=>(bI (c !=0) (aG b e.2.1) 0).bind λ J=>(bI (c !=0) (aG b e.2.1) 0).bind λ w=>(bI (c !=0) (aG b e.1) 0).bind λ K=>(bI (c !=0) (aG b e.1) 0).bind λ y=>bif (c !=0)&& (w !=y)then k1 (13,())else(aG a e.1).bind λ L=>(aG a e.1).bind λ z=>(aG a e.2.1).bind λ M=>(aG a e.2.1).bind λ A=>(aG a e.1).bind λ N=>(tD a e.1 (wy .i64 (z- e.2.2))).bind λ j=>(aG j e.2.1).bind λ C=>(tD j e.2.1 (wy .i64 (A+e.2.2))).bind λ d=>(aG b e.1).bind λ D=>(aG b e.1).bind λ q=>(aG b e.2.1).bind λ E=>(tD b e.2.1 q).bind λ g=>(aG d e.1).bind λ F=>(aG d e.1).bind λ r=>bif r==0 then(aG g e.1).bind λ G=>(tD g e.1 0).bind λ m=>again (l,(wy .i64 (i+1)),p,f,s,h,d,m,())else again (l,(wy .i64 (i+1)),p,f,s,h,d,g,())else k0 (s,h,a,b,())
def s32(p:cn×Z19)(s:Z9×Z9)(l:List kj):Option Z40:=bif decide ((wS l:Int)>20)then some (((([]:List Int),([]:List Int)),(([]:List Int),([]:List Int))),8)else(th n (s.1,s.2)).bind λ x=>cq (ace n) n (l,0,p.1,p.2,s.1,s.2,x.1,x.2,()) (λ(b,c,e,f,_)=>(th n (b,c)).bind λ a=>some (((a.1,a.2),(e,f)),0),λ(d,_)=>some (((([]:List Int),([]:List Int)),(([]:List Int),([]:List Int))),d),())
def Qi:aq:=(QL n).a 32 ⟨[cN,fh,qE],[],[gS,Z0],λ x y=>s32 n x.1 x.2.1 x.2.2,false⟩
theorem h64:al Rs.FM.Q (Qi n):=gD Rs.FM (Lw n) func32 (O:= [_]) ⟨gh n (Lw n) (eN 160 [aT 2 qE,(3,.v (.cu 160 0)),(4,.v (.cu 161 0)),(6,.v (.cu 162 0)),(8,.v (.cu 163 0)),aT 9 Z0] [(160,.cp cN [.aj gv,.aj dK]),(161,.cp fh [.aj Z8,.aj Z8]),(162,.cp gS [.j6,.j6,.j6,.j6]),(163,.cp fh [.iR 164,.iR 165]),(164,.jH Z0),(165,.jH Z0)]) [fq 0 160 [(4,.v (.cu 160 0)),(6,.v (.cu 161 0)),(8,.v (.cu 162 0))] [(160,.cp fh [.aj Z8,.aj Z8]),(161,.cp gS [.j6,.j6,.j6,.j6]),(162,.cp fh [.iR 163,.iR 164]),(163,.jH Z0),(164,.jH Z0)],fw 160 [(6,.v (.cu 160 0)),aT 7 Z0] [(160,.cp gS [.j6,.j6,.j6,.j6])]] (ace n),trivial⟩
def s33(a b:qZ×Z9×Z9):Option Bool:=(Mn n (a.1.1,a.1.2) (b.1.1,b.1.2)).bind λ x=>(bI x (zL n a.2.1 b.2.1) false).bind λ c=>(bI (x&&c) (zL n a.2.2 b.2.2) false).bind λ d=>some ((x&&c)&&d)
def Kv:aq:=(Qi n).a 33 ⟨[gS,gS],[],[.aO],λ x y=>s33 n x.1 x.2,false⟩
theorem LO:al Rs.FM.Q (Kv n):=dw Rs.FM (h64 n) func33
def adq(n:Nat):Lp1 (Int×Int×Int×Z9×Z9×Unit) (Int×Unit) Int:=λ(c,b,i,s,a,_) again (k0,_)=>bif decide (i< (wS s:Int))then(aG a i).bind λ e=>bif e==c then(aG s i).bind λ d=>again (c,(wy .i64 (b+d)),(wy .i64 (i+1)),s,a,())else again (c,b,(wy .i64 (i+1)),s,a,())else k0 (b,())
def s34(s:Z9×Z9)(b:Int):Option Int:=cq (adq n) n (b,0,0,s.1,s.2,()) (λ(a,_)=>some a,())
def G5:aq:=(Kv n).a 34 ⟨[fh,Z0],[],[Z0],λ x y=>s34 n x.1 x.2,false⟩
theorem LS:al Rs.FM.Q (G5 n):=gD Rs.FM (LO n) func34 (O:= [_]) ⟨gh n (LO n) (eN 29 [aT 1 Z0,(2,.v (.cu 29 0)),aT 5 Z0,aT 6 Z0] [(29,.cp fh [.aj Z8,.aj Z8])]) [fq 0 29 [aT 5 Z0] []] (adq n),trivial⟩
def abr:Lp2 (Int×cn×Z19×Z9×Z9×Z9×Z9×Z9×Z9×Unit) (cn×Z19×Z9×Z9×Unit) (Bool×Unit) Bool:=λ(a,p,c,s,b,want,f,d,e,_) again (k0,k1,_)=>bif decide (a<=3)then(s34 n (d,e) a).bind λ x=>(s34 n (s,b) a).bind λ g=>bif x !=g then k1 (false,())else again ((wy .i64 (a+1)),p,c,s,b,want,f,d,e,())else k0 (p,c,s,b,())
def s4(p:cn×Z19)(s:Z9×Z9)(l:List kj):Option Bool:=(FJ n).bind λ x=>bif !x then some false else(xB n (p.1,p.2)).bind λ q=>(bI (!(!q)) (wX n (s.1,s.2)) false).bind λ F=>bif (((!q)|| (!F))|| ((decide ((wS l:Int)>12))&& (decide ((wS l:Int)<=20))))|| (decide ((wS l:Int)>22))then some true else(wL n (p.1,p.2)).bind λ I=>(th n (s.1,s.2)).bind λ z=>(s30 n l).bind λ J=>(P6 n I (z.1,z.2) J).bind λ a=>(s31 n (p.1,p.2) (s.1,s.2)).bind λ e=>bif e==0 then(s32 n (p.1,p.2) (s.1,s.2) l).bind λ b=>(bI (!(a.2 !=b.2)) (s33 n ((a.1.1.1,a.1.1.2),(a.1.2.1,a.1.2.2)) ((b.1.1.1,b.1.1.2),(b.1.2.1,b.1.2.2))) false).bind λ K=>bif (a.2 !=b.2)|| (!K)then some false else bif b.2 !=0 then some true else cq (abr n) n (1,p.1,p.2,s.1,s.2,b.1.1.1,b.1.1.2,b.1.2.1,b.1.2.2,()) (λ(f,g,j,k,_)=>(wL n (f,g)).bind λ C=>(th n (j,k)).bind λ r=>(P6 n C (r.1,r.2) ([]:List kj)).bind λ c=>(wL n (f,g)).bind λ D=>(th n (j,k)).bind λ t=>(zh n D ((c.1.1.1,c.1.1.2),(c.1.2.1,c.1.2.2)) (t.1,t.2)).bind λ u=>some (((c.2==0)&& (u.2==0))&&u.1),λ(A,_)=>some A,())else(bI (!(a.2 !=e)) (s33 n ((a.1.1.1,a.1.1.2),(a.1.2.1,a.1.2.2)) ((([]:List Int),([]:List Int)),(([]:List Int),([]:List Int)))) false).bind λ E=>bif (a.2 !=e)|| (!E)then some false else bif e !=0 then some true else cq (abr n) n (1,p.1,p.2,s.1,s.2,([]:List Int),([]:List Int),([]:List Int),([]:List Int),()) (λ(h,i,m,o,_)=>(wL n (h,i)).bind λ G=>(th n (m,o)).bind λ v=>(P6 n G (v.1,v.2) ([]:List kj)).bind λ d=>(wL n (h,i)).bind λ H=>(th n (m,o)).bind λ w=>(zh n H ((d.1.1.1,d.1.1.2),(d.1.2.1,d.1.2.2)) (w.1,w.2)).bind λ y=>some (((d.2==0)&& (y.2==0))&&y.1),λ(B,_)=>some B,())
def ae9:cf:= ⟨115,[Z0,gv,dK,Z8,Z8,Z8,Z8,Z8,Z8],[(3,.v (.cu 115 0)),(4,.v (.cu 116 0)),(10,.v (.cu 117 0)),(11,.v (.aj Z0))],[(115,.cp cN [.aj gv,.aj dK]),(116,.cp fh [.aj Z8,.aj Z8]),(117,.cp gS [.aj Z8,.aj Z8,.aj Z8,.aj Z8])],[]⟩
def ai9:List (dN×cf):= [(.ou 0,⟨115,[gv,dK,Z8,Z8],[(3,.v (.cu 115 0)),(4,.v (.cu 116 0))],[(115,.cp cN [.aj gv,.aj dK]),(116,.cp fh [.aj Z8,.aj Z8])],[]⟩),(.sT,⟨115,[.aO],[(6,.v (.aj .aO))],[],[]⟩)]
def afJ:Ev (ax [.aO]):=mG n (G5 n) ae9 ai9 (abr n)
theorem akG d again ks:dv (R:=(ax [.aO])) (G5 n) (bT.b (R:=(ax [.aO]))) (iw (lp (bd f4) 0)) [] (mk ae9 d) (mL (G5 n) ae9 ai9 again ks)=abr n d again ks:=by kernel_rfl
theorem akg:eS Rs.FM.Q (bT.b (R:=(ax [.aO]))) false (lp (bd f4) 0) (afJ n):=rk (LS n) Rs.FM.b (by kernel_rfl) (O:= []) trivial (akG n)
def ae7:fc:= ⟨[cN,fh,qE],[],[.aO],λ x y=>s4 n x.1 x.2.1 x.2.2,false⟩
theorem akD(x:ax [cN,fh,qE])(y:ax []):oI (G5 n) f4 [cN,fh,qE] [] [.aO] false [afJ n] x y=(ae7 n).g x y:=by kernel_rfl
theorem ahM:jf Rs.FM.Q 4 (ae7 n):=xz (LS n) Rs.FM.b (Rs.FM.a func4 (by kernel_rfl) (by decide)) (by kernel_rfl) (by kernel_rfl) (O:= [afJ n]) ⟨akg n,trivial⟩ (akD n)
def e67:aq:=(G5 n).a 4 (ae7 n)
theorem h67:al Rs.FM.Q (e67 n):=mN (LS n) (ahM n)
end
theorem acS(m:Nat):FJ (m+2000)=some true:=by kernel_rfl
section
local instance:Dr:= ⟨false⟩
abbrev wO:=List UInt8
abbrev Vs:=wO×Int
abbrev Pl:=List Vs×List (Int×Int)
abbrev St:=List Int×List Int
abbrev Tk:=St×St
def jh(l:List Int):Int:=(l.find? λ e=>e !=0).getD 0
def ia(b:Bool)(e:Int):Int:=bif b then 0 else e
def cy(x lo a:Int):Bool:=decide (lo<=x)&&decide (x<=a)
theorem tP(n:Nat)(b:Bool)(e:Int):gk n b e=some (ia b e):=by cases b<;>rfl
theorem Ra(n:Nat)(x lo a:Int):pX n x lo a=some (cy x lo a):=rfl
theorem EO(n:Nat)(x lo a:Int):qg n x lo a=some (cy x lo a):=rfl
theorem afC(n:Nat)(x:Int):EJ n x=some (cy x 1 50):=rfl
theorem Pt(n:Nat)(x:Int):Dy n x=some (cy x 0 3):=rfl
theorem jv{α:Type}(b:Bool)(x d:α):bI b (some x) d=some (bif b then x else d):=by cases b<;>rfl
theorem OH{n:Nat}(l:List Int)(e:l.length<n)(f:l.length<=C8):ko n l=some (jh l):=by
 unfold ko;refine iy (n:=n) l (λ i=>(l,((wS l:Nat):Int),(i:Int),())) (λ i r=>some (jh r)) f ?_ ?_ e
 ·intro i x r j k m b c d again g;simp only[Cv,c,b,d,xf,cond_true];cases a:(x !=0)with
  |true=>simp[jh,EX,a]
  |false=>
   simp only[cond_false];rw[g];simp[jh,EX,a]
 ·intro h again;simp only[Cv,h,cond_false];rfl
theorem BO{n:Nat}(c:1000<=n)(a b:Int):ko n [a,b]=some (jh [a,b]):=OH _ (by simp;omega) (by simp[C8])
theorem QD{n:Nat}(d:1000<=n)(a b c:Int):ko n [a,b,c]=some (jh [a,b,c]):=OH _ (by simp;omega) (by simp[C8])
def AJ(b:Bool)(c:Int):Bool:=(!(((decide (c>=97))&& (decide (c<=122)))|| ((decide (c>=65))&& (decide (c<=90)))))&& (b|| ((c !=45)&& ((decide (c<48))|| (decide (c>57)))))
def xo:Bool->wO->Bool
 |_,[]=>true
 |b,c::r=>!AJ b ((AT c:Nat):Int)&&xo false r
def rQ(s:wO):Bool:=(decide (1<=s.length)&&decide (s.length<=12))&&xo true s
theorem FK(i:Nat):((i:Int)==(0:Int))=decide (i=0):=by
 rw[Ez];simp
theorem VF{n:Nat}(o:1000<=n)(s:wO):EH n s=some (rQ s):=by
 unfold EH rQ;by_cases b:1<=s.length
 ·by_cases c:s.length<=12
  ·rw[show decide (((wS s:Nat):Int)< (1:Int))=false from decide_eq_false (by omega),show decide (((wS s:Nat):Int)>(12:Int))=false from decide_eq_false (by omega),decide_eq_true b,decide_eq_true c];simp only[L2,cond_false,N2,Bool.true_and];have:=iy (n:=n) (body:=yx n) (ks:=(λ(_)=>some (true),λ(j,_)=>some (j),())) s (λ i=>(s,(i:Int),())) (λ i r=>some (xo (decide (i=0)) r)) (by unfold C8;omega) ?_ ?_ (by omega)
   ·exact this
   ·intro i x r k l m d f g again h;have e:AJ (decide (i=0)) ((AT x:Nat):Int)=((!(((decide (((AT x:Nat):Int)>=(97:Int)))&& (decide (((AT x:Nat):Int)<=(122:Int))))|| ((decide (((AT x:Nat):Int)>=(65:Int)))&& (decide (((AT x:Nat):Int)<=(90:Int))))))&& (((i:Int)==(0:Int))|| ((((AT x:Nat):Int) !=(45:Int))&& ((decide (((AT x:Nat):Int)< (48:Int)))|| (decide (((AT x:Nat):Int)>(57:Int))))))):=by
     rw[FK];rfl
    simp only[yx,f,d,g,xf,cond_true,<-e];simp only[xo];cases AJ (decide (i=0)) ((AT x:Nat):Int)with
    |true=>rfl
    |false=>
     simp only[cond_false];rw[h];simp
   ·intro a again;simp only[yx,a,cond_false];rfl
  ·rw[show decide (((wS s:Nat):Int)>(12:Int))=true from decide_eq_true (by omega),decide_eq_false c];simp
 ·rw[show decide (((wS s:Nat):Int)< (1:Int))=true from decide_eq_true (by omega),decide_eq_false b];simp
theorem acJ{n:Nat}(s:wO)(q:s.length<n)(p:s.length<=C8):B9 n s=some (rQ s):=by
 unfold B9 rQ;have b:kv s=s.map λ c=>((AT c:Nat):Int):=rfl;have d:(kv s).length=s.length:=by rw[b,List.length_map]
 have:=iy (n:=n) (body:=yM n) (ks:=(λ(f,_)=>some ((((f:List UInt8) != [])&& (decide (((wS f:Nat):Int)<=(12:Int))))),λ(u,_)=>some (u),())) s
  (λ i=>(s,kv s,((wS (kv s):Nat):Int),(i:Int),())) (λ i r=>some (xo (decide (i=0)) r&& (((s:List UInt8) != [])&& (decide (((wS s:Nat):Int)<=(12:Int)))))) p ?_ ?_ q
 ·refine Eq.trans this ?_
  congr 1
  have m:((s:List UInt8) != [])=decide (1<=s.length):=by cases s<;>simp
  have o:decide (((wS s:Nat):Int)<=(12:Int))=decide (s.length<=12):=by congr 1;simp;omega
  rw[m,o,Bool.and_comm];rfl
 ·intro i x r v g w y j l again t;have h:aG (kv s) (i:Int)=some ((AT x:Nat):Int):=by
   rw[oR,b,List.getElem?_map,g];rfl
  have k:decide ((i:Int)< ((wS (kv s):Nat):Int))=true:=by rw[d];exact j
  have e:AJ (decide (i=0)) ((AT x:Nat):Int)=((!(((decide (((AT x:Nat):Int)>=(97:Int)))&& (decide (((AT x:Nat):Int)<=(122:Int))))|| ((decide (((AT x:Nat):Int)>=(65:Int)))&& (decide (((AT x:Nat):Int)<=(90:Int))))))&& (((i:Int)==(0:Int))|| ((((AT x:Nat):Int) !=(45:Int))&& ((decide (((AT x:Nat):Int)< (48:Int)))|| (decide (((AT x:Nat):Int)>(57:Int))))))):=by
   rw[FK];rfl
  simp only[yM,k,h,l,xf,cond_true,<-e];simp only[xo];cases AJ (decide (i=0)) ((AT x:Nat):Int)with
  |true=>rfl
  |false=>
   simp only[cond_false];rw[t];simp
 ·intro a again;have a':decide ((s.length:Int)< ((wS (kv s):Nat):Int))=false:=by rw[d];exact a
  simp only[yM,a',cond_false];rfl
theorem ahd{n:Nat}(l:List Vs)(name:wO)(m:l.length<n)(o:l.length<=C8):∃q,vV n l name=some q/\decide (q<0)=!(l.any λ x=>x.1==name):=by
 have:=iy (n:=n) (body:=xO n) (ks:=(λ(_)=>some ((-1:Int)),λ(s,_)=>some (s),())) l (λ i=>(l,(λ(c:Vs)=>some (c.1==name)),((wS l:Nat):Int),(i:Int),()))
  (λ i r=>some (match r.findIdx? λ x=>x.1==name with|some k=>((i+k:Nat):Int)|none=> -1)) o ?_ ?_ m
 ·refine⟨match l.findIdx? λ x=>x.1==name with|some k=>((0+k:Nat):Int)|none=> -1,?_,?_⟩
  ·unfold vV IH;rw[show cq (xO n) n (l,(λ c=>Jr n c name),((wS l:Nat):Int),(0:Int),()) _=_ from this];rfl
  ·cases d:l.findIdx? λ x=>x.1==name with
   |none=>
    have:(l.any λ x=>x.1==name)=false:=by
     rw[Bool.eq_false_iff];intro h;obtain⟨x,b,a⟩:=N6.1 h;have:=P9.1 d x b;rw[this]at a;cases a
    rw[this];rfl
   |some k=>
    obtain⟨b,a,_⟩:=N4.1 d;have:(l.any λ x=>x.1==name)=true:=N6.2 ⟨_,Sh b,a⟩;rw[this];simp
 ·intro i x r b a t f g j again p;simp only[xO,g,f,j,xf,cond_true];cases e:(x.1==name)with
  |true=>simp[L3,e]
  |false=>
   simp only[cond_false];rw[p,L3,e];cases r.findIdx? λ x=>x.1==name with
   |none=>rfl
   |some k=>simp;omega
 ·intro h again;simp only[xO,h,cond_false];rfl
theorem V1{n:Nat}(l:List (Int×Int))(v:Int×Int)(t:l.length<n)(u:l.length<=C8):∃q,ym n l v=some q/\(decide (q>=0))=decide (v∈l):=by
 unfold ym;have:=iy (n:=n) (body:=AI n) (ks:=(λ(_)=>some ((-1:Int)),λ(z,_)=>some (z),())) l (λ i=>(l,((wS l:Nat):Int),(i:Int),v.1,v.2,()))
  (λ i r=>some (match r.findIdx? λ e=>e==v with|some k=>((i+k:Nat):Int)|none=> -1)) u ?_ ?_ t
 ·refine⟨_,this,?_⟩;cases j:l.findIdx? λ e=>e==v with
  |none=>
   have:v∉l:=λ w=>by
    have:=P9.1 j v w;simp at this
   simp[this]
  |some k=>
   have:v∈l:=by
    obtain⟨f,g,_⟩:=N4.1 j;have:=eq_of_beq g;rw[<-this];exact Sh f
   simp[this]
 ·intro i x r f g A o p s again y;simp only[AI,p,o,s,xf,cond_true];have e:((v.1==x.1)&& (v.2==x.2))=(x==v):=by
   obtain⟨a,b⟩:=v;obtain⟨c,d⟩:=x;rw[Ez];simp only[Lt,beq_iff_eq,Prod.mk.injEq];constructor<;>rintro⟨rfl,rfl⟩<;>exact⟨rfl,rfl⟩
  rw[e];cases m:(x==v)with
  |true=>simp[L3,m]
  |false=>
   simp only[cond_false];rw[y,L3,m];cases r.findIdx? λ e=>e==v with
   |none=>rfl
   |some k=>simp;omega
 ·intro h again;simp only[AI,h,cond_false];rfl
theorem afi{n:Nat}(l:List (Int×Int))(v:Int×Int)(c:l.length<n)(d:l.length<=C8):za n l v=some (decide (v∈l)):=by
 obtain⟨q,a,b⟩:=V1 l v c d;unfold za;rw[show ym n l (v.1,v.2)=some q from a];simp only[xf,b]
end
section
local instance:Dr:= ⟨false⟩
def wi(pre:List Vs)(v:Vs):Int:=jh [ia (rQ v.1) 4,ia (!(pre.any λ x=>x.1==v.1)) 5,ia (cy v.2 1 50) 2]
def ix:Nat->List Vs->List Vs->Int×Int
 |_,_,[]=>(0,0)
 |i,pre,v::r=>bif wi pre v==0 then ix (i+1) (pre++ [v]) r else((i:Int),wi pre v)
def sx(m:Int)(pre:List (Int×Int))(h:Int×Int):Int:=jh [ia (cy h.1 0 (m- 1)&&cy h.2 0 (m- 1)) 6,ia (h.1 !=h.2) 11,ia (!(decide (h∈pre))) 26]
def iq(m:Int):Nat->List (Int×Int)->List (Int×Int)->Int×Int
 |_,_,[]=>(0,0)
 |i,pre,h::r=>bif sx m pre h==0 then iq m (i+1) (pre++ [h]) r else((i:Int),sx m pre h)
def mQ(p:Pl):Int×Int:=
 bif decide (p.1.length=0)then(0,10)else bif decide (6<p.1.length)then(0,8)else
  bif (ix 0 [] p.1).2==0 then(bif decide (30<p.2.length)then(0,8)else iq p.1.length 0 [] p.2)else ix 0 [] p.1
structure jg(p:Pl):Prop where
 v:p.1.length<=8
 h:p.2.length<=32
 n:∀v∈p.1,v.1.length<=20
theorem Tg(a b c:Int):jh [a,b,c]=bif a !=0 then a else bif b !=0 then b else c:=by
 unfold jh;cases d:(a !=0)with
 |true=>simp[EX,d]
 |false=>
  cases e:(b !=0)with
  |true=>simp[EX,d,e]
  |false=>
   cases f:(c !=0)with
   |true=>simp[EX,d,e,f]
   |false=>
    have:c=0:=by simpa using f
    simp[EX,d,e,this]
theorem Jo(a b:Int):jh [a,b]=bif a !=0 then a else b:=by
 unfold jh;cases c:(a !=0)with
 |true=>simp[EX,c]
 |false=>
  cases d:(b !=0)with
  |true=>simp[EX,c,d]
  |false=>
   have:b=0:=by simpa using d
   simp[EX,c,this]
theorem Hh(m:Int):(l:List (Int×Int))->(i:Nat)->(pre:List (Int×Int))->((iq m i pre l).2==0)=true->iq m i pre l=(0,0)
 | [],_,_,_=>rfl
 |v::r,i,pre,h=>by
  simp only[iq]at h⊢;cases a:(sx m pre v==0)
  ·rw[a]at h;simp only[cond_false]at h;rw[a]at h;cases h
  ·rw[a]at h;exact Hh m r _ _ h
theorem BD{α:Type}{l:List α}{i:Nat}{x:α}(h:l[i]?=some x):l.take (i+1)=l.take i++ [x]:=by rw[List.take_add_one,h];rfl
theorem SF{α:Type}{l:List α}(h:l.length<=1000):wy .i64 (((wS l:Nat):Int)- 1)=(l.length:Int)- 1:=by rw[nu]<;>omega
theorem i2(a b:Int):aG [a,b] 0=some a/\aG [a,b] 1=some b:= ⟨rfl,rfl⟩
theorem r2:cQ (0:Int) 2=some ()/\cQ (1:Int) 2=some ():= ⟨rfl,rfl⟩
theorem aiO{n:Nat}(g:1000<=n){p:Pl}(hp:jg p)(k0:List Vs×List (Int×Int)×Unit->Option (Int×Int))(k1:Int×Int×Unit->Option (Int×Int)):
 cq (Au n) n (p.1,((wS p.1:Nat):Int),(0:Int),p.1,p.2,()) (k0,k1,())=bif (ix 0 [] p.1).2==0 then k0 (p.1,p.2,())else k1 ((ix 0 [] p.1).1,(ix 0 [] p.1).2,()):=by
 have s:=hp.v;refine iy p.1 (λ i=>(p.1,((wS p.1:Nat):Int),(i:Int),p.1,p.2,())) (λ i r=>bif (ix i (p.1.take i) r).2==0 then k0 (p.1,p.2,())else k1 ((ix i (p.1.take i) r).1,(ix i (p.1.take i) r).2,())) (by unfold C8;omega) ?_ ?_ (by omega)
 ·intro i x r m a o b c d again j;have t:=hp.n x (List.mem_of_getElem? a);obtain⟨q,k,l⟩:=ahd (n:=n) (p.1.take i) x.1 (by simp;omega) (by simp[C8];omega);simp only[Au,c,cond_true,b,xf,d,xV p.1 i (by omega),acJ (n:=n) x.1 (by omega) (by unfold C8;omega),tP,k,l,afC,QD g];rw[j,BD a];have e:jh [ia (rQ x.1) 4,ia (!((p.1.take i).any λ y=>y.1==x.1)) 5,ia (cy x.2 1 50) 2]=wi (p.1.take i) x:=rfl;rw[e];simp only[ix,bne];cases h:(wi (p.1.take i) x==0)<;>simp[h]
 ·intro f again;simp only[Au,f,cond_false,ix];rfl
theorem ab7{n:Nat}(k:1000<=n){p:Pl}(hp:jg p)(k0:Unit->Option (Int×Int))(k1:Int×Int×Unit->Option (Int×Int)):
 cq (Ag n) n ((p.1,p.2),(λ a=>vO n a (p.1,p.2)),p.2,((wS p.2:Nat):Int),(0:Int),()) (k0,k1,())=bif (iq p.1.length 0 [] p.2).2==0 then k0 ()else k1 ((iq p.1.length 0 [] p.2).1,(iq p.1.length 0 [] p.2).2,()):=by
 have q:=hp.h;have s:=hp.v;have b:∀z,vO n z (p.1,p.2)=some (cy z 0 ((p.1.length:Int)- 1)):=λ z=>by
  unfold vO;show(pX n z 0 (wy .i64 (((wS p.1:Nat):Int)- 1))).bind _=_;rw[SF (by omega)];rfl
 rw[show(λ a=>vO n a (p.1,p.2))=λ z=>some (cy z 0 ((p.1.length:Int)- 1))from funext b];refine iy p.2 (λ i=>((p.1,p.2),(λ z=>some (cy z 0 ((p.1.length:Int)- 1))),p.2,((wS p.2:Nat):Int),(i:Int),())) (λ i r=>bif (iq p.1.length i (p.2.take i) r).2==0 then k0 ()else k1 ((iq p.1.length i (p.2.take i) r).1,(iq p.1.length i (p.2.take i) r).2,())) (by unfold C8;omega) ?_ ?_ (by omega)
 ·intro i x r m c o d f g again l;simp only[Ag,f,cond_true,d,xf,g,r2.1,r2.2,(i2 x.1 x.2).1,(i2 x.1 x.2).2,jv,tP,xV p.2 i (by omega),afi (n:=n) (p.2.take i) (x.1,x.2) (by simp;omega) (by simp[C8];omega),QD k];rw[l,BD c];have e:jh [ia (cy x.1 0 ((p.1.length:Int)- 1)&&bif cy x.1 0 ((p.1.length:Int)- 1)then cy (bif cy x.1 0 ((p.1.length:Int)- 1)then x.2 else 0) 0 ((p.1.length:Int)- 1)else false) 6,ia (x.1 !=x.2) 11,ia (!(decide ((x.1,x.2)∈p.2.take i))) 26]=sx p.1.length (p.2.take i) x:=by
   unfold sx;cases cy x.1 0 ((p.1.length:Int)- 1)<;>rfl
  rw[e];simp only[iq,bne];cases h:(sx p.1.length (p.2.take i) x==0)<;>simp[h]
 ·intro j again;simp only[Ag,j,cond_false,iq];rfl
theorem gt0(m:Nat):decide ((m:Int)>(0:Int))=!decide (m=0):=by
 by_cases h:m=0
 ·simp[h]
 ·rw[decide_eq_false h];simp;omega
theorem YO(m k:Nat):decide ((m:Int)<=(k:Int))=!decide (k<m):=by
 by_cases h:k<m
 ·rw[decide_eq_true h];simp;omega
 ·rw[decide_eq_false h];simp;omega
theorem Ig(m k:Nat):decide ((m:Int)>(k:Int))=decide (k<m):=by
 congr 1
 simp
theorem Ym{n:Nat}(a:1000<=n){p:Pl}(hp:jg p):xg n p=some (mQ p):=by
 unfold xg mQ;rw[tP,xf,tP,xf,BO a,xf,gt0,show decide ((p.1.length:Int)<=(6:Int))=!decide (6<p.1.length)from YO p.1.length 6];cases b:decide (p.1.length=0)with
 |true=>
  have:¬6<p.1.length:=by have:=of_decide_eq_true b;omega
  rw[decide_eq_false this];rfl
 |false=>
  cases e:decide (6<p.1.length)with
  |true=>rfl
  |false=>
   simp only[BP,ia,cond_true,cond_false];rw[show jh [(0:Int),0]=0 from rfl];simp only[bne_self_eq_false,cond_false];rw[aiO a hp];cases f:((ix 0 [] p.1).2==0)with
   |false=>rfl
   |true=>
    simp only[cond_true];rw[show decide (((wS p.2:Nat):Int)>(30:Int))=decide (30<p.2.length)from Ig p.2.length 30];cases d:decide (30<p.2.length)with
    |true=>rfl
    |false=>
     simp only[cond_false];rw[ab7 a hp];cases c:((iq p.1.length 0 [] p.2).2==0)with
     |false=>rfl
     |true=>
      rw[Hh _ _ _ _ c];rfl
theorem Km{D c R:Type}{body:D->(D->Option R)->c->Option R}{ks:c}{α:Type}{n:Nat}(l:List α)(i:Nat)(v:i<=l.length)(f:α->Bool)(F:Nat->D)(yes no:Option R)(o:i<=C8)(p:i<n)
 (q:∀k x,k<i->l[k]?=some x->decide ((k:Int)< (i:Int))=true->wy .i64 ((k:Int)+1)=((k+1:Nat):Int)->aG l (k:Int)=some x->∀again,body (F k) again ks=bif f x then yes else again (F (k+1)))
 (m:decide ((i:Int)< (i:Int))=false->∀again,body (F i) again ks=no):cq body n (F 0) ks=bif (l.take i).any f then yes else no:=by
 have a:(l.take i).length=i:=by simp;omega
 have:=iy (n:=n) (body:=body) (ks:=ks) (l.take i) F (λ _ r=>bif r.any f then yes else no) (by rw[a];exact o) ?_ ?_ (by rw[a];exact p)
 ·exact this
 ·intro k x r b d t u g j again s;rw[a]at b g;have e:l[k]?=some x:=by rw[List.getElem?_take,if_pos b]at d;exact d
  rw[q k x b e g j (by rw[oR];exact e) again];rw[s];simp only[List.any_cons];cases f x<;>rfl
 ·intro h again;rw[a]at h⊢;rw[m h again];rfl
theorem air{n:Nat}(m:1000<=n){p:Pl}(hp:jg p)(k0:List Vs×List (Int×Int)×Unit->Option (Int×Int))(k1:Int×Int×Unit->Option (Int×Int)):
 cq (yU n) n ((0:Int),p.1,p.2,()) (k0,k1,())=bif (ix 0 [] p.1).2==0 then k0 (p.1,p.2,())else k1 ((ix 0 [] p.1).1,(ix 0 [] p.1).2,()):=by
 have w:=hp.v;refine iy p.1 (λ i=>((i:Int),p.1,p.2,())) (λ i r=>bif (ix i (p.1.take i) r).2==0 then k0 (p.1,p.2,())else k1 ((ix i (p.1.take i) r).1,(ix i (p.1.take i) r).2,())) (by unfold C8;omega) ?_ ?_ (by omega)
 ·intro i x r t h u a j c again o;simp only[yU,j,cond_true,a,xf,c,VF m];simp only[ix];have g:wi (p.1.take i) x=bif !rQ x.1 then 4 else bif (p.1.take i).any λ y=>y.1==x.1 then 5 else bif !cy x.2 1 50 then 2 else 0:=by
   unfold wi;rw[Tg];cases rQ x.1<;>cases(p.1.take i).any (λ y=>y.1==x.1)<;>cases cy x.2 1 50<;>rfl
  rw[g];cases v:rQ x.1 with
  |false=>rfl
  |true=>
   simp only[zS,cond_false];refine(Km (n:=n) (body:=Ak n) p.1 i (by omega) (λ y=>y.1==x.1) (λ k=>((i:Int),(k:Int),p.1,p.2,())) (k1 ((i:Int),5,())) (bif !cy x.2 1 50 then k1 ((i:Int),2,())else again (((i+1:Nat):Int),p.1,p.2,())) (by unfold C8;omega) (by omega)
    (λ k y q s d e f again=>by simp only[Ak,d,cond_true,f,a,xf,e]) (λ b again=>by simp only[Ak,b,cond_false,a,xf,EO,c])).trans ?_
   cases(p.1.take i).any (λ y=>y.1==x.1)with
   |true=>rfl
   |false=>
    simp only[cond_false];cases cy x.2 1 50 with
    |false=>rfl
    |true=>
     simp only[zS,cond_false,show((0:Int)==0)=true from rfl,cond_true];rw[o,BD h]
 ·intro l again;simp only[yU,l,cond_false,ix];rfl
theorem adi{n:Nat}(H:1000<=n){p:Pl}(hp:jg p)(k0:Unit->Option (Int×Int))(k1:Int×Int×Unit->Option (Int×Int)):
 cq (zm n) n ((0:Int),p.1,p.2,()) (k0,k1,())=bif (iq p.1.length 0 [] p.2).2==0 then k0 ()else k1 ((iq p.1.length 0 [] p.2).1,(iq p.1.length 0 [] p.2).2,()):=by
 have F:=hp.h;have I:=hp.v;refine iy p.2 (λ i=>((i:Int),p.1,p.2,())) (λ i r=>bif (iq p.1.length i (p.2.take i) r).2==0 then k0 ()else k1 ((iq p.1.length i (p.2.take i) r).1,(iq p.1.length i (p.2.take i) r).2,())) (by unfold C8;omega) ?_ ?_ (by omega)
 ·intro i x r C q D s t a again w;have h:∀z,zF n (p.1,p.2) z=some (cy z 0 ((p.1.length:Int)- 1)):=λ z=>by
   unfold zF;show(qg n z 0 (wy .i64 (((wS p.1:Nat):Int)- 1))).bind _=_;rw[SF (by omega)];rfl
  simp only[zm,t,cond_true,s,xf,a,r2.1,r2.2,(i2 x.1 x.2).1,(i2 x.1 x.2).2,h,jv];simp only[iq];have u:((p.2.take i).any λ y=>y.1==x.1&&y.2==x.2)=decide (x∈p.2.take i):=by
   rw[Ez];simp only[N6,Lt,beq_iff_eq,decide_eq_true_eq];constructor
   ·rintro⟨y,l,m,o⟩;have:y=x:=Prod.ext m o;rw[<-this];exact l
   ·exact λ g=> ⟨x,g,rfl,rfl⟩
  have j:sx p.1.length (p.2.take i) x=bif !(cy x.1 0 ((p.1.length:Int)- 1))||!(cy x.2 0 ((p.1.length:Int)- 1))then 6 else bif x.1==x.2 then 11 else bif (p.2.take i).any λ y=>y.1==x.1&&y.2==x.2 then 26 else 0:=by
   unfold sx;rw[Tg,u];simp only[bne];cases cy x.1 0 ((p.1.length:Int)- 1)<;>cases cy x.2 0 ((p.1.length:Int)- 1)<;>cases(x.1==x.2)<;>cases decide (x∈p.2.take i)<;>rfl
  rw[j];have f:((!(cy x.1 0 ((p.1.length:Int)- 1)))||!(bif !(!(cy x.1 0 ((p.1.length:Int)- 1)))then cy (bif !(!(cy x.1 0 ((p.1.length:Int)- 1)))then x.2 else 0) 0 ((p.1.length:Int)- 1)else false))=(!(cy x.1 0 ((p.1.length:Int)- 1))||!(cy x.2 0 ((p.1.length:Int)- 1))):=by
   cases cy x.1 0 ((p.1.length:Int)- 1)
   ·rfl
   ·simp only[zS,BP,cond_true]
  rw[f];cases G:(!(cy x.1 0 ((p.1.length:Int)- 1))||!(cy x.2 0 ((p.1.length:Int)- 1)))with
  |true=>rfl
  |false=>
   simp only[cond_false];cases E:(x.1==x.2)with
   |true=>rfl
   |false=>
    simp only[cond_false];refine(Km (n:=n) (body:=yj n) p.2 i (by omega) (λ y=>y.1==x.1&&y.2==x.2) (λ k=>((i:Int),(k:Int),p.1,p.2,x.1,x.2,())) (k1 ((i:Int),26,())) (again (((i+1:Nat):Int),p.1,p.2,())) (by unfold C8;omega) (by omega)
     (λ k y A B c d e again=>by simp only[yj,c,cond_true,e,xf,d]) (λ b again=>by simp only[yj,b,cond_false,a])).trans ?_
    cases(p.2.take i).any (λ y=>y.1==x.1&&y.2==x.2)with
    |true=>rfl
    |false=>
     simp only[cond_false,show((0:Int)==0)=true from rfl,cond_true];rw[w,BD q]
 ·intro v again;simp only[zm,v,cond_false,iq];rfl
theorem v46{n:Nat}(a:1000<=n){p:Pl}(hp:jg p):xy n p=some (mQ p):=by
 unfold xy mQ;rw[FK,show decide (((wS p.1:Nat):Int)>(6:Int))=decide (6<p.1.length)from Ig p.1.length 6];cases d:decide (p.1.length=0)with
 |true=>rfl
 |false=>
  cases e:decide (6<p.1.length)with
  |true=>rfl
  |false=>
   simp only[cond_false];rw[air a hp];cases f:((ix 0 [] p.1).2==0)with
   |false=>rfl
   |true=>
    simp only[cond_true];rw[show decide (((wS p.2:Nat):Int)>(30:Int))=decide (30<p.2.length)from Ig p.2.length 30];cases c:decide (30<p.2.length)with
    |true=>rfl
    |false=>
     simp only[cond_false];rw[adi a hp];cases b:((iq p.1.length 0 [] p.2).2==0)with
     |false=>rfl
     |true=>
      rw[Hh _ _ _ _ b];rfl
theorem v87{n:Nat}(a:1000<=n){p:Pl}(hp:jg p):tx n p=some (p,(mQ p).2):=by
 unfold tx;rw[show xg n (p.1,p.2)=xg n p from rfl,Ym a hp];rfl
end
section
local instance:Dr:= ⟨false⟩
theorem yG(a b:Nat):((a:Int) !=(b:Int))=!decide (a=b):=by
 rw[bne,Ez];simp;omega
theorem LY(a b:Nat):((a:Int)==(b:Int))=decide (a=b):=by
 rw[Ez];simp;omega
theorem kG{α:Type}{s:List α}{i:Nat}(h:i<s.length):∃c,aG s (i:Int)=some c/\s.drop i=c::s.drop (i+1)/\s[i]?=some c:= ⟨s[i],by rw[oR,Ls h],List.drop_eq_getElem_cons h,Ls h⟩
def qV(z c w:Int):Int:=jh [ia (cy c 0 z&&cy w 0 3) 2,ia ((c==0)==(w==0)) 13]
def xr:List Vs->List Int->List Int->Int
 |v::vs,c::cs,w::ws=>bif qV v.2 c w==0 then xr vs cs ws else qV v.2 c w
 |_,_,_=>0
def j5(p:Pl)(s:St):Int:=bif decide (s.1.length=p.1.length)&&decide (s.2.length=p.1.length)then xr p.1 s.1 s.2 else 10
theorem Sr(v:Vs)(vs:List Vs)(c w:Int)(cs a:List Int):xr (v::vs) (c::cs) (w::a)=bif qV v.2 c w==0 then xr vs cs a else qV v.2 c w:=rfl
theorem SZ{n:Nat}(l:1000<=n){p:Pl}(hp:jg p)(s:St):px n p s=some (j5 p s):=by
 have y:=hp.v;unfold px j5;rw[show mZ n (p.1,p.2)=some ((wS p.1:Nat):Int)from rfl];simp only[xf,jv,yG];cases g:decide (s.1.length=p.1.length)with
 |false=>rfl
 |true=>
  simp only[zS,BP,cond_true,L1,Bool.true_and,yG];cases j:decide (s.2.length=p.1.length)with
  |false=>rfl
  |true=>
   simp only[zS,cond_false,cond_true];have u:=of_decide_eq_true g;have v:=of_decide_eq_true j;refine iy p.1 (λ i=>(p.1,((wS p.1:Nat):Int),(i:Int),s.1,s.2,())) (λ i r=>some (xr r (s.1.drop i) (s.2.drop i))) (by unfold C8;omega) ?_ ?_ (by omega)
   ·intro i x r o q t a b d again m;obtain⟨c,f,c2,_⟩:=kG (s:=s.1) (i:=i) (by omega);obtain⟨w,w1,w2,_⟩:=kG (s:=s.2) (i:=i) (by omega);simp only[Co,b,cond_true,a,f,w1,xf,d,Ra,Pt,jv,tP,BO l,m,c2,w2,Sr];have e:jh [ia (cy c 0 x.2&&bif cy c 0 x.2 then cy w 0 3 else false) 2,ia ((c==0)==(w==0)) 13]=qV x.2 c w:=by
     unfold qV;cases cy c 0 x.2<;>rfl
    rw[e];simp only[bne];cases h:(qV x.2 c w==0)<;>simp[h]
   ·intro k again;simp only[Co,k,cond_false];rfl
theorem Mc{n:Nat}(z:1000<=n){p:Pl}(hp:jg p)(s:St):sM n p s=some (j5 p s):=by
 have A:=hp.v;unfold sM j5;simp only[yG];cases g:decide (s.1.length=p.1.length)with
 |false=>rfl
 |true=>
  cases h:decide (s.2.length=p.1.length)with
  |false=>rfl
  |true=>
   simp only[zS,L2,cond_false,N2,cond_true];have q:=of_decide_eq_true g;have t:=of_decide_eq_true h;refine iy p.1 (λ i=>((i:Int),p.1,p.2,s.1,s.2,())) (λ i r=>some (xr r (s.1.drop i) (s.2.drop i))) (by unfold C8;omega) ?_ ?_ (by omega)
   ·intro i x r l m o a b d again k;obtain⟨c,e,c2,_⟩:=kG (s:=s.1) (i:=i) (by omega);obtain⟨w,w1,w2,_⟩:=kG (s:=s.2) (i:=i) (by omega);simp only[DI,b,cond_true,a,e,w1,xf,d,EO,jv,k,c2,w2,Sr];have f:qV x.2 c w=bif !(cy c 0 x.2)||!(cy w 0 3)then 2 else bif !((w==0)==(c==0))then 13 else 0:=by
     unfold qV;rw[Jo];cases cy c 0 x.2<;>cases cy w 0 3<;>cases(c==0)<;>cases(w==0)<;>rfl
    rw[f];cases u:cy c 0 x.2 with
    |false=>rfl
    |true=>
     simp only[zS,BP,cond_true,L1];cases v:cy w 0 3 with
     |false=>rfl
     |true=>
      simp only[zS,cond_false];cases y:((w==0)==(c==0))<;>rfl
   ·intro j again;simp only[DI,j,cond_false];rfl
def qK(z c w:Int):Int:=jh [ia (((c== -1)||cy c 0 z)&&cy w 0 3) 2,ia ((w==0)|| (c !=0)) 13]
def wz:List Vs->List Int->List Int->Int
 |v::vs,c::cs,w::ws=>bif qK v.2 c w==0 then wz vs cs ws else qK v.2 c w
 |_,_,_=>0
theorem NV(v:Vs)(vs:List Vs)(c w:Int)(cs a:List Int):wz (v::vs) (c::cs) (w::a)=bif qK v.2 c w==0 then wz vs cs a else qK v.2 c w:=rfl
def rZ(p:Pl)(t:Tk):Int:=bif j5 p t.1==0 then(bif decide (t.2.1.length=p.1.length)&&decide (t.2.2.length=p.1.length)then wz p.1 t.2.1 t.2.2 else 10)else j5 p t.1
theorem ZJ{n:Nat}(a:1000<=n){p:Pl}(hp:jg p)(t:Tk):v7 n p t=some (rZ p t):=by
 have A:=hp.v;unfold v7 rZ;rw[show px n (p.1,p.2) (t.1.1,t.1.2)=px n p t.1 from rfl,SZ a hp,show mZ n (p.1,p.2)=some ((wS p.1:Nat):Int)from rfl];simp only[xf,jv,tP,BO a,LY];rw[Jo];cases b:(j5 p t.1==0)with
 |false=>simp[bne,b]
 |true=>
  simp only[bne,b,zS,cond_false,cond_true];cases k:decide (t.2.1.length=p.1.length)with
  |false=>rfl
  |true=>
   simp only[cond_true,Bool.true_and,LY];cases l:decide (t.2.2.length=p.1.length)with
   |false=>rfl
   |true=>
    simp only[ia,cond_true,show((0:Int)==0)=true from rfl,zS,cond_false];have y:=of_decide_eq_true k;have z:=of_decide_eq_true l;refine iy p.1 (λ i=>(p.1,((wS p.1:Nat):Int),(i:Int),t.1.1,t.1.2,t.2.1,t.2.2,())) (λ i r=>some (wz r (t.2.1.drop i) (t.2.2.drop i))) (by unfold C8;omega) ?_ ?_ (by omega)
    ·intro i x r q u v d f g again o;obtain⟨c,j,c2,_⟩:=kG (s:=t.2.1) (i:=i) (by omega);obtain⟨w,w1,w2,_⟩:=kG (s:=t.2.2) (i:=i) (by omega);simp only[Em,f,cond_true,d,j,w1,xf,g,Ra,Pt,jv,tP,BO a,o,c2,w2,NV];have e:jh [ia (((c== -1)||bif !(c== -1)then cy c 0 x.2 else false)&&bif (c== -1)|| (bif !(c== -1)then cy c 0 x.2 else false)then cy w 0 3 else false) 2,ia ((w==0)|| (c !=0)) 13]=qK x.2 c w:=by
      unfold qK;cases(c== -1)<;>cases cy c 0 x.2<;>rfl
     rw[e];simp only[bne];cases h:(qK x.2 c w==0)<;>simp[h]
    ·intro m again;simp only[Em,m,cond_false];rfl
def aal(p:Pl)(s:St):Int:=bif (mQ p).2==0 then j5 p s else(mQ p).2
def kX(p:Pl)(t:Tk):Int:=bif (mQ p).2==0 then rZ p t else(mQ p).2
theorem v31{n:Nat}(a:1000<=n){p:Pl}(hp:jg p)(s:St):s31 n p s=some (aal p s):=by
 unfold s31 aal;rw[show xy n (p.1,p.2)=xy n p from rfl,v46 a hp,show sM n (p.1,p.2) (s.1,s.2)=sM n p s from rfl,Mc a hp];simp only[xf,bne];cases h:((mQ p).2==0)<;>rfl
theorem S5{n:Nat}(a:1000<=n){p:Pl}(hp:jg p)(t:Tk):ux n p t=some (kX p t):=by
 unfold ux kX;rw[show tx n (p.1,p.2)=tx n p from rfl,v87 a hp,xf,show v7 n (p.1,p.2) ((t.1.1,t.1.2),(t.2.1,t.2.2))=v7 n p t from rfl,ZJ a hp];simp only[xf,bne];cases h:((mQ p).2==0)<;>rfl
abbrev I6:=Int×Int×Int×Int×Int×Int
def i6(l:List Int):I6:=(l[0]?.getD 0,l[1]?.getD 0,l[2]?.getD 0,l[3]?.getD 0,l[4]?.getD 0,l[5]?.getD 0)
def l6(x:I6):List Int:= [x.1,x.2.1,x.2.2.1,x.2.2.2.1,x.2.2.2.2.1,x.2.2.2.2.2]
def nd(s:St):I6×I6:=(i6 s.1,i6 s.2)
theorem v93(n:Nat)(s:St):tj n s=some (nd s):=rfl
theorem g6(l:List Int){i:Nat}(a:i<6):aG (l6 (i6 l)) (i:Int)=some (l[i]?.getD 0):=by
 rw[oR];have:i=0\/i=1\/i=2\/i=3\/i=4\/i=5:=by omega
 rcases this with rfl|rfl|rfl|rfl|rfl|rfl<;>rfl
theorem r6{i:Nat}(a:i<6):cQ (i:Int) 6=some ():=by
 unfold cQ;rw[if_pos ⟨by omega,by omega⟩]
def xl:List Int->List Int->List Int->List Int->Bool
 |a::tcs,tw::tws,c::cs,w::ws=>((a== -1)|| (a==c))&& ((tw==0)|| (tw==w))&&xl tcs tws cs ws
 |_,_,_,_=>true
def xN(t:Tk)(s:St):Bool:=xl t.2.1 t.2.2 s.1 s.2
theorem LK(a b c d:Int)(e f g h:List Int):xl (a::e) (b::f) (c::g) (d::h)=(((a== -1)|| (a==c))&& ((b==0)|| (b==d))&&xl e f g h):=rfl
structure uv(p:Pl)(s:St):Prop where
 c:s.1.length=p.1.length
 w:s.2.length=p.1.length
end
section
local instance:Dr:= ⟨false⟩
abbrev aeu:=Pl×Tk×I6×I6
theorem F1{p:Pl}{s:St}(h:j5 p s=0):uv p s:=by
 unfold j5 at h;cases a:decide (s.1.length=p.1.length)with
 |false=>rw[a]at h;exact absurd (show(10:Int)=0 from h) (by decide)
 |true=>
  cases b:decide (s.2.length=p.1.length)with
  |false=>rw[a,b]at h;exact absurd (show(10:Int)=0 from h) (by decide)
  |true=>exact⟨of_decide_eq_true a,of_decide_eq_true b⟩
theorem RJ{p:Pl}{t:Tk}(h:rZ p t=0):uv p t.1/\uv p t.2:=by
 unfold rZ at h;cases a:(j5 p t.1==0)with
 |false=>rw[a]at h;simp only[cond_false]at h;simp[h]at a
 |true=>
  refine⟨F1 (by simpa using a),?_⟩;rw[a]at h;simp only[cond_true]at h;cases b:decide (t.2.1.length=p.1.length)with
  |false=>rw[b]at h;exact absurd (show(10:Int)=0 from h) (by decide)
  |true=>
   cases c:decide (t.2.2.length=p.1.length)with
   |false=>rw[b,c]at h;exact absurd (show(10:Int)=0 from h) (by decide)
   |true=>exact⟨of_decide_eq_true b,of_decide_eq_true c⟩
theorem L6{p:Pl}{t:Tk}(h:kX p t=0):(mQ p).2=0/\rZ p t=0:=by
 unfold kX at h;cases a:((mQ p).2==0)with
 |false=>rw[a]at h;simp only[cond_false]at h;simp[h]at a
 |true=>rw[a]at h;exact⟨by simpa using a,h⟩
theorem aaw{p:Pl}{s:St}(h:aal p s=0):(mQ p).2=0/\j5 p s=0:=by
 unfold aal at h;cases a:((mQ p).2==0)with
 |false=>rw[a]at h;simp only[cond_false]at h;simp[h]at a
 |true=>rw[a]at h;exact⟨by simpa using a,h⟩
theorem aaK{p:Pl}(h:(mQ p).2=0):1<=p.1.length/\p.1.length<=6/\p.2.length<=30:=by
 unfold mQ at h;cases a:decide (p.1.length=0)with
 |true=>rw[a]at h;exact absurd (show(10:Int)=0 from h) (by decide)
 |false=>
  cases b:decide (6<p.1.length)with
  |true=>rw[a,b]at h;exact absurd (show(8:Int)=0 from h) (by decide)
  |false=>
   rw[a,b]at h;simp only[cond_false]at h;have e:=of_decide_eq_false a;have f:=of_decide_eq_false b;cases c:((ix 0 [] p.1).2==0)with
   |false=>rw[c]at h;simp only[cond_false]at h;simp[h]at c
   |true=>
    rw[c]at h;simp only[cond_true]at h;cases d:decide (30<p.2.length)with
    |true=>rw[d]at h;exact absurd (show(8:Int)=0 from h) (by decide)
    |false=>
     have:=of_decide_eq_false d;exact⟨by omega,by omega,by omega⟩
def GC(p:Pl)(t:Tk):aeu:=(p,t,nd t.1)
theorem v90{n:Nat}(a:1000<=n){p:Pl}(hp:jg p)(t:Tk):vm n p t=some (bif kX p t==0 then(some (GC p t),0)else(none,kX p t)):=by
 unfold vm;rw[show ux n (p.1,p.2) ((t.1.1,t.1.2),(t.2.1,t.2.2))=ux n p t from rfl,S5 a hp,xf];simp only[bne];cases h:(kX p t==0)with
 |false=>rfl
 |true=>rfl
theorem v92{n:Nat}(M:1000<=n){p:Pl}(hp:jg p)(h6:p.1.length<=6){t:Tk}{s:St}(h:uv p t.2)(g:uv p s)(z:I6×I6):ud n (some (p,t,z)) (nd s)=some (xN t s):=by
 have N:=hp.v;have v:=h.c;have y:=h.w;have A:=g.c;have B:=g.w;unfold ud xN;rw[xf];refine iy p.1 (λ i=>(some (p,t,z),((wS p.1:Nat):Int),(i:Int),(nd s).1.1,(nd s).1.2.1,(nd s).1.2.2.1,(nd s).1.2.2.2.1,(nd s).1.2.2.2.2.1,(nd s).1.2.2.2.2.2,(nd s).2.1,(nd s).2.2.1,(nd s).2.2.2.1,(nd s).2.2.2.2.1,(nd s).2.2.2.2.2.1,(nd s).2.2.2.2.2.2,()))
  (λ i r=>some (xl (t.2.1.drop i) (t.2.2.drop i) (s.1.drop i) (s.2.drop i))) (by unfold C8;omega) ?_ ?_ (by omega)
 ·intro i x r G H I J k m again D;obtain⟨j,f,c2,_⟩:=kG (s:=t.2.1) (i:=i) (by omega);obtain⟨b,d1,d2,_⟩:=kG (s:=t.2.2) (i:=i) (by omega);obtain⟨c,k1,E,F⟩:=kG (s:=s.1) (i:=i) (by omega);obtain⟨w,w1,w2,w3⟩:=kG (s:=s.2) (i:=i) (by omega);have e:i<6:=by omega
  have gc:aG [(nd s).1.1,(nd s).1.2.1,(nd s).1.2.2.1,(nd s).1.2.2.2.1,(nd s).1.2.2.2.2.1,(nd s).1.2.2.2.2.2] (i:Int)=some c:=by
   have:=g6 s.1 e;rw[F]at this;exact this
  have u:aG [(nd s).2.1,(nd s).2.2.1,(nd s).2.2.2.1,(nd s).2.2.2.2.1,(nd s).2.2.2.2.2.1,(nd s).2.2.2.2.2.2] (i:Int)=some w:=by
   have:=g6 s.2 e;rw[w3]at this;exact this
  simp only[B4,k,cond_true,f,d1,gc,u,r6 e,xf,m,jv,D,c2,d2,E,w2,LK,bne];cases K:(j== -1)with
  |true=>
   simp only[zS,cond_false,P8,BP,cond_true,Bool.true_and,jv,d1,xf,L1,Bool.true_or];cases a:(b==0)with
   |true=>simp[a,yR]
   |false=>cases d:(b==w)<;>simp[a,d,jv,yR,d1]
  |false=>
   simp only[zS,cond_false,P8,BP,cond_true,Bool.true_and,jv,f,d1,xf,L1];cases o:(j==c)with
   |false=>simp[jv,yR,o]
   |true=>
    simp only[zS,cond_false,P8,BP,cond_true,Bool.true_and,jv,d1,xf,L1];cases a:(b==0)with
    |true=>simp[a,yR]
    |false=>cases d:(b==w)<;>simp[a,d,jv,yR,d1]
 ·intro C again;simp only[B4,C,cond_false];have q:∀l:List Int,l.length=p.1.length->l.drop p.1.length= []:=λ l L=>R1 (by omega);rw[q _ v,q _ y,q _ A,q _ B];rfl
theorem v24{n:Nat}(a:1000<=n){p:Pl}(hp:jg p)(t:Tk)(s:St):zh n p t s=some (bif kX p t==0 then(bif j5 p s==0 then(xN t s,0)else(false,j5 p s))else(false,kX p t)):=by
 unfold zh;rw[show vm n (p.1,p.2) ((t.1.1,t.1.2),(t.2.1,t.2.2))=vm n p t from rfl,v90 a hp,xf];cases h:(kX p t==0)with
 |false=>
  have:(kX p t==0)=false:=h;simp only[cond_false,this,bne,BP,cond_true]
 |true=>
  obtain⟨b,c⟩:=L6 (by simpa using h);have e:=aaK b;have f:=RJ c;simp only[cond_true,show((0:Int)==0)=true from rfl,xf];rw[show px n (GC p t).1 (s.1,s.2)=px n p s from rfl,SZ a hp,xf];simp only[bne];cases d:(j5 p s==0)with
  |false=>rfl
  |true=>
   simp only[zS,cond_false,cond_true];rw[show tj n (s.1,s.2)=some (nd s)from rfl,xf,show ud n (some (GC p t)) (nd s)=_ from v92 a hp e.2.1 f.2 (F1 (by simpa using d)) _];rfl
theorem v22(n:Nat){p:Pl}(hp:jg p):wL n p=some p:=by
 unfold wL;have:=hp.v;have:=hp.h;rw[zG (by simp;omega),xf,zG (by simp;omega),xf];rfl
theorem Df(n:Nat)(l:List Int)(h:l.length<=1000):uV n l=some l:=by
 unfold uV;rw[zG (by simp;omega),xf];rfl
theorem MK(n:Nat)(s:St)(h1:s.1.length<=1000)(h2:s.2.length<=1000):th n s=some s:=by
 unfold th;rw[Df n _ h1,xf,Df n _ h2,xf]
theorem v18{n:Nat}(u:1000<=n)(p:Pl):∃b,xB n p=some b/\(b=true->jg p):=by
 unfold xB;generalize a:(((((decide (((wS p.1:Nat):Int)>(4:Int)))&& (decide (((wS p.1:Nat):Int)<=(6:Int))))|| (decide (((wS p.1:Nat):Int)>(8:Int))))|| ((decide (((wS p.2:Nat):Int)>(14:Int)))&& (decide (((wS p.2:Nat):Int)<=(30:Int)))))|| (decide (((wS p.2:Nat):Int)>(32:Int))))=f;cases f with
 |true=>exact⟨_,rfl,λ h=>by cases h⟩
 |false=>
  simp only[cond_false];have l:p.1.length<=8:=by
   by_cases h:p.1.length<=8
   ·exact h
   ·rw[show decide (((wS p.1:Nat):Int)>(8:Int))=true from decide_eq_true (by omega)]at a;simp at a
  have g:p.2.length<=32:=by
   by_cases h:p.2.length<=32
   ·exact h
   ·rw[show decide (((wS p.2:Nat):Int)>(32:Int))=true from decide_eq_true (by omega)]at a;simp at a
  have:=iy (n:=n) (body:=yJ n) (ks:=(λ(_)=>some (true),λ(o,_)=>some (o),())) p.1 (λ i=>((i:Int),p.1,p.2,())) (λ i r=>some (r.all λ v=>decide (v.1.length<=20)&&!(cy v.2 11 50))) (by unfold C8;omega) ?_ ?_ (by omega)
  ·refine⟨_,this,λ h=> ⟨l,g,λ v k=>?_⟩⟩;have:=List.all_eq_true.1 h v k;simp only[Lt,decide_eq_true_eq]at this;exact this.1
  ·intro i x r q s t c d e again m;simp only[yJ,d,cond_true,c,xf,e,EO,jv,m,List.all_cons];rw[show decide (((wS x.1:Nat):Int)>(20:Int))=!decide (x.1.length<=20)from by
    by_cases h:x.1.length<=20
    ·rw[decide_eq_true h,decide_eq_false (by omega)];rfl
    ·rw[decide_eq_false h,decide_eq_true (by omega)];rfl]
   cases decide (x.1.length<=20)with
   |false=>rfl
   |true=>
    simp only[zS,BP,cond_true,L1,Bool.true_and];cases cy x.2 11 50<;>rfl
  ·intro j again;simp only[yJ,j,cond_false];rfl
theorem v20(n:Nat)(s:St):∃b,wX n s=some b/\(b=true->s.1.length<=10/\s.2.length<=10):=by
 refine⟨_,rfl,λ h=>?_⟩;simp only[Lt,decide_eq_true_eq]at h;omega
end
section
local instance:Dr:= ⟨false⟩
def z6:I6:=(0,0,0,0,0,0)
theorem v95{n:Nat}(a:1000<=n){p:Pl}(hp:jg p)(s:St):Ij n p s=some (p,bif aal p s==0 then nd s else(z6,z6),aal p s):=by
 unfold Ij aal;rw[show tx n (p.1,p.2)=tx n p from rfl,v87 a hp,xf];simp only[bne];cases h:((mQ p).2==0)with
 |true=>
  simp only[cond_true];rw[show px n (p.1,p.2) (s.1,s.2)=px n p s from rfl,SZ a hp,xf];cases b:(j5 p s==0)with
  |true=>
   have e:j5 p s=0:=by simpa using b
   rw[e];rfl
  |false=>rfl
 |false=>
  simp only[cond_false,BP,cond_true,h];rfl
def tG(b:Int):Int->List Int->List Int->Int
 |a,c::cs,w::ws=>tG b (bif w==b then wy .i64 (a+c)else a) cs ws
 |a,_,_=>a
theorem aiw(b a c w:Int)(cs d:List Int):tG b a (c::cs) (w::d)=tG b (bif w==b then wy .i64 (a+c)else a) cs d:=rfl
theorem akh:(l:List Int)->l.length<=6->l6 (i6 l)=l++PH (6- l.length) 0
 | [],_=>rfl
 | [_],_=>rfl
 | [_,_],_=>rfl
 | [_,_,_],_=>rfl
 | [_,_,_,_],_=>rfl
 | [_,_,_,_,_],_=>rfl
 | [_,_,_,_,_,_],_=>rfl
 |_::_::_::_::_::_::_::_,h=>by simp at h
theorem v34{n:Nat}(o:1000<=n)(s:St)(b:Int)(h1:s.1.length<=900)(h2:s.2.length=s.1.length):s34 n s b=some (tG b 0 s.1 s.2):=by
 unfold s34;refine abv (n:=n) s.1 (λ i a=>(b,a,(i:Int),s.1,s.2,())) (λ i a r=>some (tG b a r (s.2.drop i))) (λ _ _=>True) (by unfold C8;omega) ?_ ?_ 0 trivial (by omega)
 ·intro i g x r k l m c d f _ again j;obtain⟨w,w1,w2,_⟩:=kG (s:=s.2) (i:=i) (by omega);simp only[adq,d,cond_true,w1,c,f,xf,w2,aiw];cases e:(w==b)<;>exact j _ trivial
 ·intro g h _ again;simp only[adq,h,cond_false];rw[R1 (by omega)];cases s.1<;>rfl
end
end Go.Abs.R
namespace Go.Abs
section
variable[Dr]
theorem agP{α:Type}{l:List α}{i:Int}(h0:0<=i)(h1:i< (l.length:Int)):aG l i=some (l[i.toNat]'(by omega)):=by
 unfold aG;rw[if_pos h0,Ls]
theorem akp{α:Type}(l:List α)(i:Nat)(x:α)(h:i<l.length):tD l (i:Int) x=some (l.set i x):=by
 unfold tD;rw[if_pos ⟨by omega,by simpa using h⟩];simp
section
variable{D Ks R:Type}{body:D->(D->Option R)->Ks->Option R}{ks:Ks}
theorem ak0{A:Type}{n:Nat}(len:Nat)(F:Nat->A->D)(G:Nat->A->Option R)(b:Nat->A->Prop)(j:len<=C8)
 (k:∀i a,i<len->decide ((i:Int)< (len:Int))=true->wy .i64 ((i:Int)+1)=((i+1:Nat):Int)->b i a->
  ∀again,(∀c,b (i+1) c->again (F (i+1) c)=G (i+1) c)->body (F i a) again ks=G i a)
 (g:∀a,decide ((len:Int)< (len:Int))=false->b len a->∀again,body (F len a) again ks=G len a)
 (a:A) (h0:b 0 a) (q:len<n):cq body n (F 0 a) ks=G 0 a:=by
 have key:∀(m i:Nat)(a:A),i<=len->b i a->len- i<m->cq body m (F i a) ks=G i a:=by
  intro m
  induction m with
  |zero=>intro i a _ _ h;omega
  |succ m l=>
   intro i a o d p;rw[cq];by_cases h:i=len
   ·subst h;exact g a (by simp) d _
   ·have e:i<len:=by omega
    refine k i a e (by simpa using e) (by rw[nu]<;>unfold C8 at j<;>omega) d _ λ c f=>?_;exact l (i+1) c (by omega) f (by omega)
 exact key n 0 a (Nat.zero_le _) h0 (by omega)
end
end
end Go.Abs
namespace Go.Abs.R
open Go.Abs Go.Proofs.Tryz
section
local instance:Dr:= ⟨false⟩
theorem v80{n:Nat}{p:Pl}(hp:jg p)(x:Int):zF n (p.1,p.2) x=some (cy x 0 ((p.1.length:Int)- 1)):=by
 have:=hp.v;unfold zF;rw[show(p.1,p.2).1=p.1 from rfl,SF (by omega),EO];rfl
def okm(p:Pl)(m:Int×Int):Bool:=cy m.1 0 ((p.1.length:Int)- 1)&&cy m.2 0 ((p.1.length:Int)- 1)
def at0(l:List Int)(a:Int):Int:=l[a.toNat]?.getD 0
def zu(p:Pl)(a:Int):Int:=(p.1[a.toNat]?.map (·.2)).getD 0
theorem abj{l:List Int}{a:Int}(h0:0<=a)(h1:a<l.length):aG l a=some (at0 l a):=by
 rw[agP h0 h1];unfold at0;rw[Ls (by omega)];rfl
theorem agU{p:Pl}{a:Int}(h0:0<=a)(h1:a<p.1.length):∃v,aG p.1 a=some v/\v.2=zu p a:=by
 refine⟨_,agP h0 h1,?_⟩;unfold zu;rw[Ls (by omega)];rfl
theorem ae8{p:Pl}{m:Int×Int}(h:okm p m=true):(0<=m.1/\m.1<p.1.length)/\0<=m.2/\m.2<p.1.length:=by
 unfold okm cy at h;simp at h;omega
def aaO(x:I6)(m X:Int):I6:=(bif decide (m=0)then X else x.1,bif decide (m=1)then X else x.2.1,bif decide (m=2)then X else x.2.2.1,bif decide (m=3)then X else x.2.2.2.1,bif decide (m=4)then X else x.2.2.2.2.1,bif decide (m=5)then X else x.2.2.2.2.2)
theorem akM{l:List Int}{i:Nat}(h:i<l.length)(h6:l.length<=6)(X:Int):aaO (i6 l) (i:Int) X=i6 (l.set i X):=by
 have:i=0\/i=1\/i=2\/i=3\/i=4\/i=5:=by omega
 rcases this with rfl|rfl|rfl|rfl|rfl|rfl<;>simp[aaO,i6,List.getElem?_set,h]
theorem acV{l:List Int}{a:Int}(h0:0<=a)(h:a<l.length)(h6:l.length<=6)(X:Int):aaO (i6 l) a X=i6 (l.set a.toNat X):=by
 have:=akM (l:=l) (i:=a.toNat) (by omega) h6 X
 rwa [N3 h0]at this
theorem abG{l:List Int}{a:Int}(h0:0<=a)(h:a<6):aG (l6 (i6 l)) a=some (at0 l a):=by
 have:=g6 l (i:=a.toNat) (by omega)
 rwa [N3 h0]at this
theorem aiL{a:Int}(h0:0<=a)(h:a<6):cQ a 6=some ():=by
 unfold cQ;rw[if_pos ⟨by omega,by omega⟩]
theorem ahZ:(vs:List Vs)->(cs b:List Int)->xr vs cs b=0->cs.length=vs.length->b.length=vs.length->(i:Nat)->i<vs.length->0<=cs[i]?.getD 0/\cs[i]?.getD 0<=(vs[i]?.map (·.2)).getD 0
 | [],_,_,_,_,_,i,d=>by simp at d
 |v::vs,c::cs,w::b,h,h1,h2,i,d=>by
  rw[Sr]at h;cases e:(qV v.2 c w==0)with
  |false=>rw[e,cond_false]at h;rw[h]at e;cases e
  |true=>
   rw[e,cond_true]at h;cases i with
   |succ i=>exact ahZ vs cs b h (by simpa using h1) (by simpa using h2) i (by simpa using d)
   |zero=>
    have a:qV v.2 c w=0:=by simpa using e
    unfold qV at a;rw[Jo]at a;cases g:(cy c 0 v.2&&cy w 0 3)with
    |false=>rw[g]at a;cases a
    |true=>
     unfold cy at g;simp at g;exact⟨g.1.1,g.1.2⟩
theorem ade{p:Pl}{s:St}(h:j5 p s=0){a:Int}(h0:0<=a)(h1:a<p.1.length):0<=at0 s.1 a/\at0 s.1 a<=zu p a:=by
 have b:=F1 h;have k1:=b.c;have c:=b.w;unfold j5 at h;rw[decide_eq_true k1,decide_eq_true c]at h;exact ahZ p.1 s.1 s.2 h k1 c a.toNat (by omega)
theorem aiY:(l:List Vs)->(i:Nat)->(pre:List Vs)->(ix i pre l).2=0->(k:Nat)->k<l.length->1<=(l[k]?.map (·.2)).getD 0/\(l[k]?.map (·.2)).getD 0<=50
 | [],_,_,_,k,b=>by simp at b
 |v::l,i,pre,h,k,b=>by
  unfold ix at h;cases e:(wi pre v==0)with
  |false=>rw[e,cond_false]at h;rw[show wi pre v=0 from h]at e;cases e
  |true=>
   rw[e,cond_true]at h;cases k with
   |succ k=>exact aiY l _ _ h k (by simpa using b)
   |zero=>
    have a:wi pre v=0:=by simpa using e
    unfold wi at a;rw[Tg]at a;cases g:cy v.2 1 50 with
    |false=>
     rw[g]at a;exfalso;revert a;cases rQ v.1<;>cases(pre.any λ x=>x.1==v.1)<;>decide
    |true=>
     unfold cy at g;simp at g;exact g
theorem ag1(k:Int):(l:List (Int×Int))->(i:Nat)->(pre:List (Int×Int))->(iq k i pre l).2=0->∀h∈l,h.1≠h.2
 | [],_,_,_,_,c=>by cases c
 |v::l,i,pre,h,m,b=>by
  unfold iq at h;cases e:(sx k pre v==0)with
  |false=>rw[e,cond_false]at h;rw[show sx k pre v=0 from h]at e;cases e
  |true=>
   rw[e,cond_true]at h;rcases List.mem_cons.1 b with rfl|b
   ·have a:sx k pre m=0:=by simpa using e
    unfold sx at a;rw[Tg]at a;intro g;rw[show(m.1 !=m.2)=false by simp[g]]at a;revert a;cases(cy m.1 0 (k- 1)&&cy m.2 0 (k- 1))<;>cases decide (m∈pre)<;>decide
   ·exact ag1 k l _ _ h m b
theorem adE{p:Pl}(h:(mQ p).2=0):(∀a:Int,0<=a->a<p.1.length->1<=zu p a/\zu p a<=50)/\∀m∈p.2,m.1≠m.2:=by
 unfold mQ at h;cases c:decide (p.1.length=0)with
 |true=>rw[c]at h;exact absurd (show(10:Int)=0 from h) (by decide)
 |false=>
  cases e:decide (6<p.1.length)with
  |true=>rw[c,e]at h;exact absurd (show(8:Int)=0 from h) (by decide)
  |false=>
   rw[c,e]at h;simp only[cond_false]at h;cases b:((ix 0 [] p.1).2==0)with
   |false=>rw[b]at h;simp only[cond_false]at h;simp[h]at b
   |true=>
    rw[b]at h;simp only[cond_true]at h;cases d:decide (30<p.2.length)with
    |true=>rw[d]at h;exact absurd (show(8:Int)=0 from h) (by decide)
    |false=>
     rw[d]at h;exact⟨λ a f g=>aiY p.1 0 [] (by simpa using b) a.toNat (by omega),ag1 _ p.2 0 [] h⟩
def mq(s:St)(a b q:Int):St:=
 let l:=(s.1.set a.toNat (wy .i64 (at0 s.1 a- q))).set b.toNat (wy .i64 (at0 s.1 b+q))
 let w:=s.2.set b.toNat (at0 s.2 a)
 (l,bif at0 l a==0 then w.set a.toNat 0 else w)
theorem akP{p:Pl}{s:St}(c:uv p s)(a b q:Int):uv p (mq s a b q):=by
 have k1:=c.c;have d:=c.w;refine⟨by simp[mq,k1],?_⟩;unfold mq;dsimp only;cases(at0 ((s.1.set a.toNat (wy .i64 (at0 s.1 a- q))).set b.toNat (wy .i64 (at0 s.1 b+q))) a==0)<;>simp[d]
theorem aaY{l:List Int}{a b:Int}(h0:0<=a)(h1:0<=b)(h:a≠b)(X:Int):at0 (l.set a.toNat X) b=at0 l b:=by
 unfold at0;rw[List.getElem?_set_ne (by omega)]
theorem adp{l:List Int}{a:Int}(h0:0<=a)(h1:a<l.length)(X:Int):tD l a X=some (l.set a.toNat X):=by
 have:=akp l a.toNat X (by omega)
 rwa [N3 h0]at this
theorem ak1{p:Pl}{s:St}(e:uv p s)(h6:p.1.length<=6){a b:Int}(c:0<=a)(h:a<p.1.length)(d:0<=b)(i:b<p.1.length)(f:a≠b)(q:Int){R:Type}(K:I6×I6->Option R):
 ((
  aG (l6 (aaO (i6 s.1) a (wy .i64 (at0 s.1 a- q)))) b).bind λ x=>(aG (l6 (aaO (aaO (i6 s.1) a (wy .i64 (at0 s.1 a- q))) b (wy .i64 (x+q)))) a).bind λ y=>
  bif y==0 then K (aaO (aaO (i6 s.1) a (wy .i64 (at0 s.1 a- q))) b (wy .i64 (x+q)),aaO (aaO (i6 s.2) b (at0 s.2 a)) a 0)
  else K (aaO (aaO (i6 s.1) a (wy .i64 (at0 s.1 a- q))) b (wy .i64 (x+q)),aaO (i6 s.2) b (at0 s.2 a)))=K (nd (mq s a b q)):=by
 have k1:=e.c;have j:=e.w;have g:at0 (s.1.set a.toNat (wy .i64 (at0 s.1 a- q))) b=at0 s.1 b:=aaY c d f _;unfold mq nd;simp only[acV (l:=s.1) c (by omega) (by omega),abG (l:=s.1.set _ _) d (by omega),xf,g,acV (l:=s.1.set _ _) d (show b<_ by simp;omega) (by simp;omega),abG (l:=(s.1.set _ _).set _ _) c (by omega),
  acV (l:=s.2) d (by omega) (by omega),acV (l:=s.2.set _ _) c (show a<_ by simp;omega) (by simp;omega)]
 cases(at0 ((s.1.set a.toNat (wy .i64 (at0 s.1 a- q))).set b.toNat (wy .i64 (at0 s.1 b+q))) a==0)<;>rfl
end
section
local instance:Dr:= ⟨false⟩
theorem v82{n:Nat}(a:List Int)(h:a.length<n)(e:a.length<=C8):zL n a a=some true:=by
 unfold zL;rw[bne_self_eq_false,cond_false];refine iy a (λ i=>(a,a,(i:Int),())) (λ _ _=>some true) e ?_ ?_ h
 ·intro i x r g j k b c d again f;simp only[Pu,c,cond_true,b,xf,d,bne_self_eq_false,cond_false,f]
 ·intro h again;simp only[Pu,h,cond_false]
theorem v41{n:Nat}(a:1000<=n)(s:St)(h1:s.1.length<=900)(h2:s.2.length<=900):Mn n s s=some true:=by
 unfold Mn;rw[v82 s.1 (by omega) (by unfold C8;omega),xf,v82 s.2 (by omega) (by unfold C8;omega)];rfl
theorem aiu(n:Nat){p:Pl}{s:St}(a:uv p s)(h6:p.1.length<=6):yw n (nd s) (p.1.length:Int)=some s:=by
 have k1:=a.c;have b:=a.w;have e (l:List Int) (h:l.length=p.1.length):N5 (N1 (p.1.length:Int)) (l6 (i6 l))=l:=by
  rw[akh l (by omega),Int.toNat_natCast,<-h,List.take_left'];rfl
 unfold yw;rw[show kZ (p.1.length:Int) 6=some ()by unfold kZ;rw[if_pos ⟨by omega,by omega⟩]];show((Gu n (N5 (N1 (p.1.length:Int)) (l6 (i6 s.1)))).bind λ x=>(Gu n (N5 (N1 (p.1.length:Int)) (l6 (i6 s.2)))).bind λ c=>some (x,c))=some s;rw[e s.1 k1,e s.2 b];simp only[Gu,zG (show s.1.length<=4294967296 by omega),zG (show s.2.length<=4294967296 by omega),xf]
end
section
local instance:Dr:= ⟨false⟩
theorem abw(z c w:Int):qV z c w=0↔(0<=c/\c<=z/\0<=w/\w<=3/\(c=0↔w=0)):=by
 unfold qV;rw[Jo];by_cases a:0<=c/\c<=z/\0<=w/\w<=3
 ·rw[show(cy c 0 z&&cy w 0 3)=true by simp[cy];omega];by_cases b:(c=0↔w=0)
  ·rw[show((c==0)==(w==0))=true by rw[beq_iff_eq,Ez];simpa using b];exact⟨λ _=> ⟨a.1,a.2.1,a.2.2.1,a.2.2.2,b⟩,λ _=>rfl⟩
  ·rw[show((c==0)==(w==0))=false by by_cases d:c=0<;>by_cases f:w=0<;>simp_all];exact⟨λ h=>absurd h (by decide),λ h=>absurd h.2.2.2.2 b⟩
 ·rw[show(cy c 0 z&&cy w 0 3)=false by
   cases e:(cy c 0 z&&cy w 0 3)with
   |false=>rfl
   |true=>simp[cy]at e;omega]
  exact⟨λ h=>absurd h (by cases((c==0)==(w==0))<;>decide),λ h=>absurd ⟨h.1,h.2.1,h.2.2.1,h.2.2.2.1⟩ a⟩
theorem afc:(vs:List Vs)->(cs b:List Int)->cs.length=vs.length->b.length=vs.length->(xr vs cs b=0↔∀i,i<vs.length->qV ((vs[i]?.map (·.2)).getD 0) (cs[i]?.getD 0) (b[i]?.getD 0)=0)
 | [],_,_,_,_=> ⟨λ _ i a=>by simp at a,λ _=>by unfold xr;rfl⟩
 |v::vs,c::cs,w::b,h1,h2=>by
  have d:=afc vs cs b (by simpa using h1) (by simpa using h2);rw[Sr];cases e:(qV v.2 c w==0)with
  |true=>
   rw[cond_true,d];constructor
   ·intro h i a;cases i with
    |zero=>simpa using e
    |succ i=>exact h i (by simpa using a)
   ·intro h i a;exact h (i+1) (by simpa using a)
  |false=>
   rw[cond_false];constructor
   ·intro h;rw[h]at e;cases e
   ·intro h;exact h 0 (by simp)
theorem afY(p:Pl)(s:St):j5 p s=0↔uv p s/\∀a:Int,0<=a->a<p.1.length->qV (zu p a) (at0 s.1 a) (at0 s.2 a)=0:=by
 constructor
 ·intro h;have b:=F1 h;refine⟨b,λ a c d=>?_⟩;unfold j5 at h;rw[decide_eq_true b.c,decide_eq_true b.w]at h;exact(afc p.1 s.1 s.2 b.c b.w).1 h a.toNat (by omega)
 ·intro⟨b,h⟩;unfold j5;rw[decide_eq_true b.c,decide_eq_true b.w];exact(afc p.1 s.1 s.2 b.c b.w).2 λ i e=>h (i:Int) (by omega) (by omega)
theorem abM{l:List Int}{a:Int}(h0:0<=a)(h:a<l.length)(X:Int):at0 (l.set a.toNat X) a=X:=by
 unfold at0;rw[List.getElem?_set_self (by omega)];rfl
structure ac1(p:Pl)(s t:St)(a b q:Int):Prop where
 m:0<=a
 c:a<p.1.length
 f:0<=b
 j:b<p.1.length
 r:a≠b
 h:1<=q
 o:q<=at0 s.1 a
 n:q<=zu p b- at0 s.1 b
 w:at0 s.2 b=0\/at0 s.2 b=at0 s.2 a
 l:uv p t
 i:at0 t.1 a=at0 s.1 a- q
 e:at0 t.1 b=at0 s.1 b+q
 k:at0 t.2 a=bif at0 s.1 a==q then 0 else at0 s.2 a
 g:at0 t.2 b=at0 s.2 a
 d:∀x:Int,0<=x->x≠a->x≠b->at0 t.1 x=at0 s.1 x/\at0 t.2 x=at0 s.2 x
theorem ak2{p:Pl}{s:St}(n:aal p s=0){a b q:Int}(d:0<=a)(g:a<p.1.length)(c:0<=b)(h:b<p.1.length)(ne:a≠b)(o:1<=q)(r:q<=at0 s.1 a)(t:q<=zu p b- at0 s.1 b)
 (w:at0 s.2 b=0\/at0 s.2 b=at0 s.2 a):ac1 p s (mq s a b q) a b q:=by
 obtain⟨m,p2⟩:=aaw n;have i:=F1 p2;have k1:=i.c;have v:=i.w;obtain⟨u,c2⟩:=ade p2 d g;obtain⟨d1,d2⟩:=ade p2 c h;obtain⟨A,B⟩:=(adE m).1 b c h;obtain⟨y,z⟩:=(adE m).1 a d g;have w2:wy .i64 (at0 s.1 a- q)=at0 s.1 a- q:=nu (by omega) (by omega);have w3:wy .i64 (at0 s.1 b+q)=at0 s.1 b+q:=nu (by omega) (by omega);have k:=akP i a b q;have e:mq s a b q=((s.1.set a.toNat (at0 s.1 a- q)).set b.toNat (at0 s.1 b+q),bif at0 s.1 a==q then(s.2.set b.toNat (at0 s.2 a)).set a.toNat 0 else s.2.set b.toNat (at0 s.2 a)):=by
  unfold mq;simp only[w2,w3];rw[aaY c d (Ne.symm ne),abM d (by omega)];rw[show(at0 s.1 a- q==0)=(at0 s.1 a==q)by rw[Ez];simp;omega]
 rw[e]at k⊢;refine⟨d,g,c,h,ne,o,r,t,w,k,?_,?_,?_,?_,?_⟩
 ·exact(aaY c d (Ne.symm ne) _).trans (abM d (by omega) _)
 ·exact abM c (by simp;omega) _
 ·cases(at0 s.1 a==q)with
  |true=>exact abM d (by simp;omega) _
  |false=>exact aaY c d (Ne.symm ne) _
 ·cases(at0 s.1 a==q)with
  |true=>exact(aaY d c ne _).trans (abM c (by omega) _)
  |false=>exact abM c (by omega) _
 ·intro x f l j;refine⟨(aaY c f (Ne.symm j) _).trans (aaY d f (Ne.symm l) _),?_⟩;cases(at0 s.1 a==q)with
  |true=>exact(aaY d f (Ne.symm l) _).trans (aaY c f (Ne.symm j) _)
  |false=>exact aaY c f (Ne.symm j) _
theorem ack{p:Pl}{s t:St}{a b q:Int}(u:aal p s=0)(M:ac1 p s t a b q):aal p t=0:=by
 obtain⟨w,z⟩:=aaw u;obtain⟨C,d⟩:=(afY p s).1 z;obtain⟨h,i,j,k,ne,E,F,G,D,v,l,m,n,o,g⟩:=M;unfold aal;rw[w];refine(afY p _).2 ⟨v,λ x c r=>?_⟩;have A:=(abw _ _ _).1 (d a h i);have B:=(abw _ _ _).1 (d b j k);by_cases e:x=a
 ·subst e;rw[l,n,abw];by_cases y:at0 s.1 x=q
  ·rw[show(at0 s.1 x==q)=true by simpa using y,cond_true];omega
  ·rw[show(at0 s.1 x==q)=false by simpa using y,cond_false];omega
 ·by_cases f:x=b
  ·subst f;rw[m,o,abw];omega
  ·rw[(g x c e f).1,(g x c e f).2];exact d x c r
end
section
local instance:Dr:= ⟨false⟩
def aaE(f:Nat->Int):Nat->Int
 |0=>0
 |k+1=>aaE f k+f k
theorem ajJ(f:Nat->Int):(k:Nat)->aaE f (k+1)=f 0+aaE (λ i=>f (i+1)) k
 |0=>by simp[aaE]
 |k+1=>by
  have:=ajJ f k;rw[aaE,this,aaE];omega
theorem afr{f g:Nat->Int}{i:Nat}:(k:Nat)->(∀x,x<k->x≠i->g x=f x)->aaE g k=aaE f k+ (if i<k then g i- f i else 0)
 |0,_=>by simp[aaE]
 |k+1,h=>by
  have b:=afr k λ x c a=>h x (by omega) a;rw[aaE,aaE,b];by_cases e:i=k
  ·subst e;simp;omega
  ·rw[h k (by omega) (Ne.symm e)];by_cases l:i<k
   ·rw[if_pos l,if_pos (by omega)];omega
   ·rw[if_neg l,if_neg (by omega)];omega
theorem aks{f g:Nat->Int}{i j k:Nat}(d:i<k)(l:j<k)(n:i≠j)(h:∀x,x<k->x≠i->x≠j->g x=f x)(o:g i+g j=f i+f j):aaE g k=aaE f k:=by
 have b:=afr (f:=f) (g:=λ x=>if x=i then g i else f x) (i:=i) k λ x _ a=>by simp[a]
 have c:=afr (f:=λ x=>if x=i then g i else f x) (g:=g) (i:=j) k λ x a m=>by
  by_cases e:x=i
  ·simp[e]
  ·simp[e,h x a e m]
 rw[c,b,if_pos d,if_pos l];simp[Ne.symm n];omega
def val(a:Int)(cs b:List Int)(i:Nat):Int:=bif b[i]?.getD 0==a then cs[i]?.getD 0 else 0
theorem ah4(d:Int):(cs b:List Int)->b.length=cs.length->(∀i,i<cs.length->0<=cs[i]?.getD 0/\cs[i]?.getD 0<=50)->(a:Int)->0<=a->a+50* (cs.length:Int)<=100000->tG d a cs b=a+aaE (val d cs b) cs.length
 | [],b,_,_,a,_,_=>by cases b<;>simp[tG,aaE]
 |c::cs,w::b,hl,hb,a,g,f=>by
  have j:=hb 0 (by simp);simp only[SA]at f;have m:0<=c/\c<=50:=j;rw[aiw,nu (by omega) (by omega),SA,ajJ];have l:val d (c::cs) (w::b) 0=bif w==d then c else 0:=rfl;have h:=λ a g f=>ah4 d cs b (by simpa using hl) (λ i k=>hb (i+1) (by simpa using k)) a g f;rw[l,show(λ i=>val d (c::cs) (w::b) (i+1))=val d cs b from rfl];cases e:(w==d)with
  |true=>rw[cond_true,cond_true,h _ (by omega) (by omega)];omega
  |false=>rw[cond_false,cond_false,h _ (by omega) (by omega)];omega
theorem aiT{p:Pl}{s:St}(f:aal p s=0)(b:Int):tG b 0 s.1 s.2=aaE (val b s.1 s.2) p.1.length:=by
 obtain⟨d,e⟩:=aaw f;have j:=(aaK d).2.1;have c:=F1 e;have k1:=c.c;have l:=c.w;rw[ah4 b s.1 s.2 (by omega) (λ i k=>?_) 0 (by omega) (by omega),k1]
 ·omega
 ·have g:=ade e (a:=(i:Int)) (by omega) (by omega);have h:=(adE d).1 (i:Int) (by omega) (by omega);have:at0 s.1 (i:Int)=s.1[i]?.getD 0:=rfl;omega
theorem akL{p:Pl}{s t:St}{a b q:Int}(h:aal p s=0)(M:ac1 p s t a b q){c:Int}(E:1<=c):tG c 0 t.1 t.2=tG c 0 s.1 s.2:=by
 obtain⟨J,A⟩:=aaw h;obtain⟨D,k⟩:=(afY p s).1 A;obtain⟨l,m,n,o,ne,K,L,N,f,G,r,u,v,w,z⟩:=id M;have B:=(abw _ _ _).1 (k a l m);have C:=(abw _ _ _).1 (k b n o);rw[aiT h,aiT (ack h M)];have e (s:St) (a:Int):val c s.1 s.2 a.toNat=bif at0 s.2 a==c then at0 s.1 a else 0:=rfl;refine aks (i:=a.toNat) (j:=b.toNat) (by omega) (by omega) (by omega) (λ x F H I=>?_) ?_
 ·have:=z (x:Int) (by omega) (by omega) (by omega);show(bif at0 t.2 (x:Int)==c then at0 t.1 (x:Int)else 0)=(bif at0 s.2 (x:Int)==c then at0 s.1 (x:Int)else 0);rw[this.1,this.2]
 ·rw[e,e,e,e,r,u,v,w];by_cases y:at0 s.1 a=q
  ·rw[show(at0 s.1 a==q)=true by simpa using y,cond_true,show((0:Int)==c)=false by simp;omega,cond_false];by_cases g:at0 s.2 a=c
   ·rw[show(at0 s.2 a==c)=true by simpa using g,cond_true];rcases f with d|d
    ·rw[d,show((0:Int)==c)=false by simp;omega,cond_false,cond_true];omega
    ·rw[d,show(at0 s.2 a==c)=true by simpa using g,cond_true,cond_true];omega
   ·rw[show(at0 s.2 a==c)=false by simpa using g,cond_false];rw[show(at0 s.2 b==c)=false by rcases f with d|d<;>rw[d]<;>simp<;>omega,cond_false,cond_false]
  ·rw[show(at0 s.1 a==q)=false by simpa using y,cond_false];by_cases g:at0 s.2 a=c
   ·rw[show(at0 s.2 a==c)=true by simpa using g,cond_true,cond_true];rcases f with d|d
    ·rw[d,show((0:Int)==c)=false by simp;omega,cond_false,cond_true];omega
    ·rw[d,show(at0 s.2 a==c)=true by simpa using g,cond_true,cond_true];omega
   ·rw[show(at0 s.2 a==c)=false by simpa using g,cond_false,cond_false];rw[show(at0 s.2 b==c)=false by rcases f with d|d<;>rw[d]<;>simp<;>omega,cond_false,cond_false]
end
section
local instance:Dr:= ⟨false⟩
abbrev Ac:=Int×Int×Int
def ax(p:Pl)(s:St)(e:Ac):Int:=
 bif !okm p (e.1,e.2.1)then 6 else bif e.1==e.2.1 then 11 else bif !cy e.2.2 1 50 then 2 else bif decide (at0 s.1 e.1<e.2.2)then 12 else
  bif decide (wy .i64 (at0 s.1 e.2.1+e.2.2)>zu p e.2.1)then 16 else bif (at0 s.2 e.2.1 !=0)&& (at0 s.2 e.2.1 !=at0 s.2 e.1)then 13 else 0
def ac(s:St)(e:Ac):St:=mq s e.1 e.2.1 e.2.2
def an(p:Pl):St->List Ac->St×Int
 |s,[]=>(s,0)
 |s,e::r=>bif ax p s e==0 then an p (ac s e) r else(([],[]),ax p s e)
theorem ae4(p:Pl)(s:St)(e:Ac)(r:List Ac):an p s (e::r)=bif ax p s e==0 then an p (ac s e) r else(([],[]),ax p s e):=rfl
def zz:Tk:=(([],[]),([],[]))
def aE(p:Pl)(s:St)(l:List Ac):Tk×Int:=bif decide (20<l.length)then(zz,8)else bif (an p s l).2==0 then((s,(an p s l).1),0)else(zz,(an p s l).2)
theorem aeO{p:Pl}{s:St}(l:aal p s=0){e:Ac}(h:ax p s e=0):ac1 p s (ac s e) e.1 e.2.1 e.2.2:=by
 obtain⟨r,p2⟩:=aaw l;unfold ax at h;cases j:okm p (e.1,e.2.1)with
 |false=>rw[j]at h;cases h
 |true=>
  obtain⟨⟨o,q⟩,c,d⟩:=ae8 j;obtain⟨d1,d2⟩:=ade p2 (a:=e.2.1) c d;obtain⟨v,w⟩:=(adE r).1 e.2.1 c d;rw[j]at h;simp only[zS,cond_false]at h;cases b:(e.1==e.2.1)with
  |true=>rw[b]at h;cases h
  |false=>
   rw[b,cond_false]at h;cases f:cy e.2.2 1 50 with
   |false=>rw[f]at h;cases h
   |true=>
    rw[f]at h;simp only[zS,cond_false]at h;have k:=f;unfold cy at k;simp at b k;rw[nu (by omega) (by omega)]at h;cases g:decide (at0 s.1 e.1<e.2.2)with
    |true=>rw[g]at h;cases h
    |false=>
     rw[g,cond_false]at h;have t:=of_decide_eq_false g;cases i:decide (at0 s.1 e.2.1+e.2.2>zu p e.2.1)with
     |true=>rw[i]at h;cases h
     |false=>
      rw[i,cond_false]at h;have u:=of_decide_eq_false i;refine ak2 l o q c d b (by omega) (by omega) (by omega) ?_;by_cases m:at0 s.2 e.2.1=0
      ·exact .inl m
      ·by_cases n:at0 s.2 e.2.1=at0 s.2 e.1
       ·exact .inr n
       ·rw[show((at0 s.2 e.2.1 !=0)&& (at0 s.2 e.2.1 !=at0 s.2 e.1))=true by simp[m,n]]at h;cases h
theorem ahB{p:Pl}:(r:List Ac)->(s:St)->aal p s=0->(an p s r).2=0->aal p (an p s r).1=0
 | [],_,h,_=>h
 |e::r,s,h,g=>by
  rw[ae4]at g⊢;cases x:(ax p s e==0)with
  |true=>
   rw[x,cond_true]at g;exact ahB r _ (ack h (aeO h (by simpa using x))) g
  |false=>
   rw[x,cond_false]at g;rw[show ax p s e=0 from g]at x;cases x
theorem agO{p:Pl}{a:Int}(b:1<=a):(r:List Ac)->(s:St)->aal p s=0->(an p s r).2=0->tG a 0 (an p s r).1.1 (an p s r).1.2=tG a 0 s.1 s.2
 | [],_,_,_=>rfl
 |e::r,s,h,g=>by
  rw[ae4]at g⊢;cases x:(ax p s e==0)with
  |true=>
   have M:=aeO h (by simpa using x);rw[x,cond_true]at g;rw[cond_true,agO b r _ (ack h M) g,akL h M b]
  |false=>
   rw[x,cond_false]at g;rw[show ax p s e=0 from g]at x;cases x
theorem v98{n:Nat}{p:Pl}(hp:jg p)(x:Int):Tt n x (p.1,p.2)=some (cy x 0 ((p.1.length:Int)- 1)):=by
 have:=hp.v;unfold Tt;rw[show mZ n (p.1,p.2)=some (p.1.length:Int)from rfl,xf,SF (by omega),Ra];rfl
theorem aa1{p:Pl}{s:St}{e:Ac}{r:List Ac}(h:(ax p s e==0)=false):an p s (e::r)=(([],[]),ax p s e):=by rw[ae4,h,cond_false]
theorem agG{p:Pl}{s:St}{e:Ac}{r:List Ac}(h:ax p s e=0):an p s (e::r)=an p (ac s e) r:=by rw[ae4,h,beq_self_eq_true,cond_true]
def ac8(s:St)(x:St×Int):Tk×Int:=bif x.2==0 then((s,x.1),0)else(zz,x.2)
theorem akm{n:Nat}{p:Pl}(hp:jg p){d s:St}(q:aal p s=0)(l:List Ac)(i:Nat)(e:Ac)(o:decide ((i:Int)< (wS l:Int))=true)(m:aG l (i:Int)=some e)(again k0 k1):
 ace n (l,(i:Int),p.1,p.2,d.1,d.2,s.1,s.2,()) again (k0,k1,())=bif ax p s e==0 then again (l,wy .i64 ((i:Int)+1),p.1,p.2,d.1,d.2,(ac s e).1,(ac s e).2,())else k1 (ax p s e,()):=by
 obtain⟨t,p2⟩:=aaw q;have g:=F1 p2;have y:=(aaK t).2.1;have B:=g.c;have C:=g.w;simp only[ace,o,cond_true,m,xf];rw[v80 hp,xf,v80 hp,jv,xf];unfold ax;cases a:okm p (e.1,e.2.1)with
 |false=>
  unfold okm at a;cases j:cy e.1 0 ((p.1.length:Int)- 1)with
  |false=>rfl
  |true=>rw[j]at a;simp only[Bool.true_and]at a;simp[a]
 |true=>
  obtain⟨⟨b,h⟩,c,f⟩:=ae8 a;unfold okm at a;rw[Lt]at a;obtain⟨v,v1,v2⟩:=agU (p:=p) c f;simp only at b h c f a v1 v2;simp only[a.1,a.2,zS,BP,cond_true,L2,cond_false];cases k:(e.1==e.2.1)with
  |true=>rfl
  |false=>
   have A:e.1≠e.2.1:=by simpa using k
   simp only[cond_false,EO,xf];cases u:cy e.2.2 1 50 with
   |false=>rfl
   |true=>
    simp only[zS,cond_false,abj (l:=s.1) b (by omega),abj (l:=s.1) c (by omega),abj (l:=s.2) b (by omega),abj (l:=s.2) c (by omega),v1,v2,xf,jv];cases w:decide (at0 s.1 e.1<e.2.2)with
    |true=>rfl
    |false=>
     simp only[cond_false];cases x:decide (wy .i64 (at0 s.1 e.2.1+e.2.2)>zu p e.2.1)with
     |true=>rfl
     |false=>
      simp only[cond_false];have r:((at0 s.2 e.2.1 !=0)&& ((bif at0 s.2 e.2.1 !=0 then at0 s.2 e.2.1 else 0) !=(bif at0 s.2 e.2.1 !=0 then at0 s.2 e.1 else 0)))=((at0 s.2 e.2.1 !=0)&& (at0 s.2 e.2.1 !=at0 s.2 e.1)):=by
       cases at0 s.2 e.2.1 !=0<;>rfl
      rw[r];cases z:((at0 s.2 e.2.1 !=0)&& (at0 s.2 e.2.1 !=at0 s.2 e.1))with
      |true=>rfl
      |false=>
       simp only[cond_false,beq_self_eq_true,cond_true];unfold ac mq;simp only[adp (l:=s.1) b (by omega),abj (l:=s.1.set _ _) c (by simp;omega),adp (l:=s.1.set _ _) c (by simp;omega),adp (l:=s.2) c (by omega),abj (l:=(s.1.set _ _).set _ _) b (by simp;omega),xf];cases(at0 ((s.1.set e.1.toNat (wy .i64 (at0 s.1 e.1- e.2.2))).set e.2.1.toNat (wy .i64 (at0 s.1 e.2.1+e.2.2))) e.1==0)with
       |false=>rfl
       |true=>simp only[cond_true,abj (l:=s.2.set _ _) b (by simp;omega),adp (l:=s.2.set _ _) b (by simp;omega),xf]
theorem v32{n:Nat}(B:1000<=n){p:Pl}(hp:jg p){s:St}(b:aal p s=0)(l:List Ac):s32 n p s l=some (aE p s l):=by
 have z:=(aaK (aaw b).1).2.1;have f:=F1 (aaw b).2;have w:=f.c;have y:=f.w;have c:th n (s.1,s.2)=some s:=MK n s (by omega) (by omega);unfold s32 aE;rw[show decide (((wS l:Nat):Int)>(20:Int))=decide (20<l.length)from Ig l.length 20];cases m:decide (20<l.length)with
 |true=>rfl
 |false=>
  have A:=of_decide_eq_false m;rw[cond_false,cond_false,c,xf];refine abv (n:=n) l (λ i(t:St)=>(l,(i:Int),p.1,p.2,s.1,s.2,t.1,t.2,())) (λ i t r=>some (ac8 s (an p t r))) (λ _ t=>aal p t=0) (by unfold C8;omega) ?_ ?_ s b (by omega)
  ·intro i t x r q u v g j k a again o;rw[akm hp a l i x j g,k];cases e:(ax p t x==0)with
   |true=>
    have d:ax p t x=0:=by simpa using e
    rw[cond_true,agG d];exact o (ac t x) (ack a (aeO a d))
   |false=>
    rw[cond_false,aa1 e];simp[ac8,e,zz]
  ·intro t h a again;simp only[ace,h,cond_false,c,xf];rfl
theorem v29{n:Nat}(o:1000<=n){p:Pl}(hp:jg p)(s:St)(l:List Ac)(X:l.length<=900):P6 n p s l=some (bif aal p s==0 then aE p s l else(zz,aal p s)):=by
 unfold P6;rw[show Ij n (p.1,p.2) (s.1,s.2)=Ij n p s from rfl,v95 o hp,xf,tP,xf];simp only[BO o,Jo,xf];cases h:(aal p s==0)with
 |false=>simp only[bne,h,BP,cond_true,cond_false,zz]
 |true=>
  have C:aal p s=0:=by simpa using h
  obtain⟨R,p2⟩:=aaw C;have z:=(aaK R).2.1;have L:=F1 p2;simp only[bne,h,zS,cond_false,cond_true];unfold aE;rw[show decide (((wS l:Nat):Int)<=20)=!decide (20<l.length)from YO l.length 20];cases M:decide (20<l.length)with
  |true=>rfl
  |false=>
   have W:=of_decide_eq_false M;simp only[BP,ia,cond_true,beq_self_eq_true,zS,cond_false];refine abv (n:=n) l (λ i(t:St)=>(p,(λ k=>Tt n k p),l,((wS l:Nat):Int),(i:Int),p.1,p.2,s.1,s.2,(nd t).1.1,(nd t).1.2.1,(nd t).1.2.2.1,(nd t).1.2.2.2.1,(nd t).1.2.2.2.2.1,(nd t).1.2.2.2.2.2,(nd t).2.1,(nd t).2.2.1,(nd t).2.2.2.1,(nd t).2.2.2.2.1,(nd t).2.2.2.2.2.1,(nd t).2.2.2.2.2.2,()))
    (λ i t r=>some (ac8 s (an p t r))) (λ _ t=>aal p t=0) (by unfold C8;omega) ?_ ?_ s C (by omega)
   ·intro i t x r b q T D E F f again P;obtain⟨Y,S⟩:=aaw f;have g:=F1 S;have U:=g.c;have V:=g.w;have Q:ax p t x=0->again (p,(λ k=>Tt n k p),l,((wS l:Nat):Int),((i+1:Nat):Int),p.1,p.2,s.1,s.2,(nd (ac t x)).1.1,(nd (ac t x)).1.2.1,(nd (ac t x)).1.2.2.1,(nd (ac t x)).1.2.2.2.1,(nd (ac t x)).1.2.2.2.2.1,(nd (ac t x)).1.2.2.2.2.2,(nd (ac t x)).2.1,(nd (ac t x)).2.2.1,(nd (ac t x)).2.2.2.1,(nd (ac t x)).2.2.2.2.1,(nd (ac t x)).2.2.2.2.2.1,(nd (ac t x)).2.2.2.2.2.2,())=some (ac8 s (an p (ac t x) r)):=
     λ G=>P (ac t x) (ack f (aeO f G))
    simp only[Lg,E,cond_true,D,xf,F];rw[show Tt n x.1 p=Tt n x.1 (p.1,p.2)from rfl,show Tt n x.2.1 p=Tt n x.2.1 (p.1,p.2)from rfl,v98 hp,xf,v98 hp,jv,xf,tP,xf,tP,xf,afC,xf,tP,xf,QD o,Tg,xf];cases a:okm p (x.1,x.2.1)with
    |false=>
     have e:ax p t x=6:=by unfold ax;rw[a];rfl
     unfold okm at a;have:(bif cy x.1 0 ((p.1.length:Int)- 1)then cy x.2.1 0 ((p.1.length:Int)- 1)else false)=false:=by
      revert a;cases cy x.1 0 ((p.1.length:Int)- 1)<;>simp
     rw[this,Bool.and_false,aa1 (by rw[e];rfl),e];rfl
    |true=>
     obtain⟨⟨b,q⟩,c,u⟩:=ae8 a;have j:=a;unfold okm at j;rw[Lt]at j;obtain⟨v,v1,v2⟩:=agU (p:=p) c u;simp only at b q c u j v1 v2;rw[j.1,j.2];cases d:(x.1==x.2.1)with
     |true=>
      have e:ax p t x=11:=by unfold ax;rw[a,d];rfl
      rw[aa1 (by rw[e];rfl),e,show(x.1 !=x.2.1)=false by rw[bne,d];rfl];rfl
     |false=>
      have N:x.1≠x.2.1:=by simpa using d
      rw[show(x.1 !=x.2.1)=true by rw[bne,d];rfl];cases A:cy x.2.2 1 50 with
      |false=>
       have e:ax p t x=2:=by unfold ax;rw[a,d,A];rfl
       rw[aa1 (by rw[e];rfl),e];rfl
      |true=>
       have H:aG [(nd t).1.1,(nd t).1.2.1,(nd t).1.2.2.1,(nd t).1.2.2.2.1,(nd t).1.2.2.2.2.1,(nd t).1.2.2.2.2.2] x.1=some (at0 t.1 x.1):=abG (l:=t.1) b (by omega);have I:aG [(nd t).1.1,(nd t).1.2.1,(nd t).1.2.2.1,(nd t).1.2.2.2.1,(nd t).1.2.2.2.2.1,(nd t).1.2.2.2.2.2] x.2.1=some (at0 t.1 x.2.1):=abG (l:=t.1) c (by omega);have J:aG [(nd t).2.1,(nd t).2.2.1,(nd t).2.2.2.1,(nd t).2.2.2.2.1,(nd t).2.2.2.2.2.1,(nd t).2.2.2.2.2.2] x.1=some (at0 t.2 x.1):=abG (l:=t.2) b (by omega);have K:aG [(nd t).2.1,(nd t).2.2.1,(nd t).2.2.2.1,(nd t).2.2.2.2.1,(nd t).2.2.2.2.2.1,(nd t).2.2.2.2.2.2] x.2.1=some (at0 t.2 x.2.1):=abG (l:=t.2) c (by omega);simp only[ia,N2,cond_true,bne_self_eq_false,cond_false,aiL b (show x.1<6 by omega),aiL c (show x.2.1<6 by omega),H,I,J,K,v1,v2,xf,tP,jv,QD o,Tg];have e:ax p t x=bif decide (at0 t.1 x.1<x.2.2)then 12 else bif decide (wy .i64 (at0 t.1 x.2.1+x.2.2)>zu p x.2.1)then 16 else bif (at0 t.2 x.2.1 !=0)&& (at0 t.2 x.2.1 !=at0 t.2 x.1)then 13 else 0:=by unfold ax;rw[a,d,A];rfl
       have d1:decide (at0 t.1 x.1>=x.2.2)=!decide (at0 t.1 x.1<x.2.2):=by rw[Ez];simp
       have d2:decide (wy .i64 (at0 t.1 x.2.1+x.2.2)<=zu p x.2.1)=!decide (wy .i64 (at0 t.1 x.2.1+x.2.2)>zu p x.2.1):=by rw[Ez];simp
       have O:((at0 t.2 x.2.1==0)|| ((bif !(at0 t.2 x.2.1==0)then at0 t.2 x.2.1 else 0)==at0 t.2 x.1))=!((at0 t.2 x.2.1 !=0)&& (at0 t.2 x.2.1 !=at0 t.2 x.1)):=by
        cases y:(at0 t.2 x.2.1==0)<;>simp[bne,y]
       rw[d1,d2,O];cases m:decide (at0 t.1 x.1<x.2.2)with
       |true=>
        rw[m,cond_true]at e;rw[aa1 (by rw[e];rfl),e];rfl
       |false=>
        cases w:decide (wy .i64 (at0 t.1 x.2.1+x.2.2)>zu p x.2.1)with
        |true=>
         rw[m,w,cond_true,cond_false]at e;rw[aa1 (by rw[e];rfl),e];rfl
        |false=>
         cases B:((at0 t.2 x.2.1 !=0)&& (at0 t.2 x.2.1 !=at0 t.2 x.1))with
         |true=>
          rw[m,w,B,cond_true,cond_false,cond_false]at e;rw[aa1 (by rw[e];rfl),e];rfl
         |false=>
          rw[m,w,B,cond_false,cond_false,cond_false]at e;rw[agG e,<-Q e];exact ak1 g z b q c u N x.2.2 λ y=>again (p,(λ k=>Tt n k p),l,((wS l:Nat):Int),((i+1:Nat):Int),p.1,p.2,s.1,s.2,y.1.1,y.1.2.1,y.1.2.2.1,y.1.2.2.2.1,y.1.2.2.2.2.1,y.1.2.2.2.2.2,y.2.1,y.2.2.1,y.2.2.2.1,y.2.2.2.2.1,y.2.2.2.2.2.1,y.2.2.2.2.2.2,())
   ·intro t h f again;have g:=F1 (aaw f).2;simp only[Lg,h,cond_false];rw[show mZ n p=some (p.1.length:Int)from rfl,xf,show yw n (((nd t).1.1,((nd t).1.2.1,((nd t).1.2.2.1,((nd t).1.2.2.2.1,((nd t).1.2.2.2.2.1,(nd t).1.2.2.2.2.2))))),((nd t).2.1,((nd t).2.2.1,((nd t).2.2.2.1,((nd t).2.2.2.2.1,((nd t).2.2.2.2.2.1,(nd t).2.2.2.2.2.2)))))) (p.1.length:Int)=yw n (nd t) (p.1.length:Int)from rfl,aiu n g z,xf,
     show tj n (s.1,s.2)=some (nd s)from v93 n s,xf,xf,aiu n L z,xf]
    rfl
theorem v30(n:Nat)(l:List Ac)(h:l.length<=1000):s30 n l=some l:=by
 unfold s30;rw[zG (by simp;omega),xf];rfl
theorem v33{n:Nat}(a:1000<=n)(t:Tk)(h1:t.1.1.length<=900)(h2:t.1.2.length<=900)(h3:t.2.1.length<=900)(h4:t.2.2.length<=900):s33 n t t=some true:=by
 unfold s33;rw[show Mn n (t.1.1,t.1.2) (t.1.1,t.1.2)=some true from v41 a t.1 h1 h2,xf,v82 t.2.1 (by omega) (by unfold C8;omega),v82 t.2.2 (by omega) (by unfold C8;omega)];rfl
theorem ahT:(a b:List Int)->xl a b a b=true
 | [],_=>by unfold xl;rfl
 |_::_,[]=>by unfold xl;rfl
 |a::l,b::r=>by
  rw[LK,ahT l r];simp
theorem aiQ:(vs:List Vs)->(cs a:List Int)->xr vs cs a=0->wz vs cs a=0
 | [],_,_,_=>by unfold wz;rfl
 |_::_,[],_,_=>by unfold wz;rfl
 |_::_,_::_,[],_=>by unfold wz;rfl
 |v::vs,c::cs,w::a,h=>by
  rw[Sr]at h;rw[NV];cases e:(qV v.2 c w==0)with
  |false=>rw[e,cond_false]at h;rw[h]at e;cases e
  |true=>
   rw[e,cond_true]at h;have g:=(abw _ _ _).1 (show qV v.2 c w=0 by simpa using e);have:qK v.2 c w=0:=by
    unfold qK;rw[Jo,show(((c== -1)||cy c 0 v.2)&&cy w 0 3)=true by unfold cy;simp;omega,show((w==0)|| (c !=0))=true by simp;omega];rfl
   rw[this,beq_self_eq_true,cond_true];exact aiQ vs cs a h
theorem akA{p:Pl}{s:St}(b:aal p s=0):kX p (s,s)=0:=by
 obtain⟨c,p2⟩:=aaw b;have a:=F1 p2;unfold kX rZ;rw[c,p2,decide_eq_true a.c,decide_eq_true a.w];refine aiQ p.1 s.1 s.2 ?_;unfold j5 at p2;rw[decide_eq_true a.c,decide_eq_true a.w]at p2;exact p2
theorem aku{n:Nat}(e:1000<=n){p:Pl}{s t w:St}(hp:jg p)(f:aal p s=0)(j:aal p t=0)(h:∀b:Int,1<=b->tG b 0 t.1 t.2=tG b 0 s.1 s.2)(K0)(K1):
 cq (abr n) n ((1:Int),p.1,p.2,s.1,s.2,w.1,w.2,t.1,t.2,()) (K0,K1,())=K0 (p.1,p.2,s.1,s.2,()):=by
 have v:=(aaK (aaw f).1).2.1;have c:=F1 (aaw f).2;have d:=F1 (aaw j).2;have l:=c.c;have m:=c.w;have o:=d.c;have q:=d.w;refine ak0 (n:=n) 3 (λ i(_:Unit)=>(((i+1:Nat):Int),p.1,p.2,s.1,s.2,w.1,w.2,t.1,t.2,())) (λ _ _=>K0 (p.1,p.2,s.1,s.2,())) (λ _ _=>True) (by decide) (λ i a g r u _ again k=>?_) (λ a g _ again=>?_) () trivial (by omega)
 ·simp only[abr];rw[show decide (((i+1:Nat):Int)<=3)=true from decide_eq_true (by omega),cond_true,show s34 n (t.1,t.2) ((i+1:Nat):Int)=_ from v34 e t _ (by omega) (by omega),xf,
   show s34 n (s.1,s.2) ((i+1:Nat):Int)=_ from v34 e s _ (by omega) (by omega),xf,h _ (by omega),bne_self_eq_false,cond_false,nu (by omega) (by omega)]
  exact k () trivial
 ·simp only[abr];rfl
theorem akE(k:Nat)(p:Pl)(s:St)(l:List Ac):s4 (k+2000) p s l=some true:=by
 generalize B:k+2000=n;have a:1000<=n:=by omega
 unfold s4;obtain⟨b,y,A⟩:=v18 a p;obtain⟨u,z,C⟩:=v20 n s;rw[show FJ n=some true from B▸acS k,xf,show xB n (p.1,p.2)=xB n p from rfl,y,show wX n (s.1,s.2)=wX n s from rfl,z];simp only[jv,xf];cases b with
 |false=>rfl
 |true=>
  cases u with
  |false=>rfl
  |true=>
   simp only[zS,L2,BP,cond_true,L1];cases x:((decide (((wS l:Nat):Int)>12)&&decide (((wS l:Nat):Int)<=20))||decide (((wS l:Nat):Int)>22))with
   |true=>rfl
   |false=>
    have K:l.length<=22:=by
     simp at x;omega
    have hp:=A rfl;obtain⟨L,M⟩:=C rfl;have i:wL n (p.1,p.2)=some p:=v22 n hp;have g:th n (s.1,s.2)=some s:=MK n s (by omega) (by omega);have v:s31 n (p.1,p.2) (s.1,s.2)=some (aal p s):=v31 a hp s;have t:P6 n p (s.1,s.2) l=_:=v29 a hp s l (by omega);simp only[cond_false,i,g,v30 n l (by omega),t,v,xf];cases h:(aal p s==0)with
    |false=>
     simp only[cond_false,bne_self_eq_false,BP,jv,cond_true];rw[show s33 n ((zz.1.1,zz.1.2),(zz.2.1,zz.2.2)) ((([]:List Int),([]:List Int)),(([]:List Int),([]:List Int)))=some true from v33 a zz (by simp[zz]) (by simp[zz]) (by simp[zz]) (by simp[zz])];simp only[bne,h,jv,cond_true,xf,BP,zS,L2,cond_false]
    |true=>
     have c:aal p s=0:=by simpa using h
     obtain⟨E,p2⟩:=aaw c;have J:=(aaK E).2.1;have m:=F1 p2;have F:=m.c;have G:=m.w;have w:s32 n (p.1,p.2) (s.1,s.2) l=some (aE p s l):=v32 a hp c l;simp only[cond_true,w,xf,bne_self_eq_false,BP,jv];have r (f:Tk×Int) (e:f=(zz,f.2)):s33 n ((f.1.1.1,f.1.1.2),(f.1.2.1,f.1.2.2)) ((f.1.1.1,f.1.1.2),(f.1.2.1,f.1.2.2))=some true:=by
      rw[e];exact v33 a zz (by simp[zz]) (by simp[zz]) (by simp[zz]) (by simp[zz])
     cases q:decide (20<l.length)with
     |true=>
      have e:aE p s l=(zz,8):=by unfold aE;rw[q,cond_true]
      rw[r (aE p s l) (by rw[e]),e];rfl
     |false=>
      have e:aE p s l=bif (an p s l).2==0 then((s,(an p s l).1),0)else(zz,(an p s l).2):=by unfold aE;rw[q,cond_false]
      cases d:((an p s l).2==0)with
      |false=>
       rw[d,cond_false]at e;rw[r (aE p s l) (by rw[e]),e];simp[jv,bne,d]
      |true=>
       rw[d,cond_true]at e;have j:(an p s l).2=0:=by simpa using d
       have ok:=ahB l s c j;have o:=F1 (aaw ok).2;have H:=o.c;have I:=o.w;rw[e];rw[show s33 n ((s.1,s.2),((an p s l).1.1,(an p s l).1.2)) ((s.1,s.2),((an p s l).1.1,(an p s l).1.2))=some true from v33 a (s,(an p s l).1) (by simp;omega) (by simp;omega) (by simp;omega) (by simp;omega)];simp only[jv,cond_true,xf,zS,L2,cond_false,bne_self_eq_false];refine(aku a hp c ok (λ N D=>agO D l s c j) _ _).trans ?_;simp only[i,g,xf];rw[show P6 n p (s.1,s.2) []=_ from v29 a hp s [] (by simp),h,cond_true,show aE p s []=((s,s),0)from rfl];simp only[xf];rw[show zh n p ((s.1,s.2),(s.1,s.2)) (s.1,s.2)=_ from v24 a hp (s,s) s,akA c,p2];simp only[beq_self_eq_true,cond_true,xf,N2,Bool.true_and];rw[show xN (s,s) s=xl s.1 s.2 s.1 s.2 from rfl,ahT]
end
end Go.Abs.R
namespace Go.Rs
open Go.ChangeShapes Go.Conc Go.Proofs
theorem acj:ownKnob Tryz.prog.godebug=none:=by kernel_rfl
theorem RY:laidOutB Tryz.prog=true:=by kernel_rfl
theorem Gv:TP.globals.size=3:=by kernel_rfl
theorem VJ(g:Nat)(h:g<3):(((begin TP (λ _ _=>0) default).world.heap[g]?).bind Obj.row?).isSome=true:=by
 match g,h with
 |0,_=>exact(by kernel_rfl:(((begin TP (λ _ _=>0) default).world.heap[0]?).bind Obj.row?).isSome=true)
 |1,_=>exact(by kernel_rfl:(((begin TP (λ _ _=>0) default).world.heap[1]?).bind Obj.row?).isSome=true)
 |2,_=>exact(by kernel_rfl:(((begin TP (λ _ _=>0) default).world.heap[2]?).bind Obj.row?).isSome=true)
theorem V2(w:World)(c:w.ShapedOpen TP):TP.globals.size<=w.heap.size/\vx w:=by
 have key:∀g,g<3->∃cs t,w.heap[g]?=some (.cells cs t):=λ g a=>by
  obtain⟨⟨z,t⟩,d⟩:=Option.isSome_iff_exists.1 (VJ g a);obtain⟨cs,b,_⟩:=c.1 g z t (by rw[Gv];exact a) d;exact⟨cs,t,b⟩
 refine⟨?_,λ g a=>?_⟩
 ·obtain⟨cs,t,h⟩:=key 2 (by omega);have:=(Array.getElem?_eq_some_iff.1 h).1;rw[Gv];omega
 ·have a:Nat.blt g TP.globals.size=true:=a;rw[Gv]at a;obtain⟨cs,t,h⟩:=key g (by simpa using a);exact S8 h
end Go.Rs
namespace Go
theorem Rs.ajf(d:Looks){p:Pinned}{s:OpenSpec}{c:OpenClaim}(kinds:List LaidKind)(e:Bool)(a:Bool×String)(b g:Bool)
 (l:c.holds p s) (w:c.wfByText s=true)
 (v:c.laidByTextAt d p kinds e)
 (u:c.start= .entering) (r:c.noBlocks=false/\c.again=false) (o:p.checked.prog.mainIs=some (a.1,a.2.toList)) (q:(!a.1&&a.2.isEmpty&&!b)=false)
 (n:∀f fn,p.checked.prog.funcNamed c.func=some f->p.checked.prog.funcs[f]?=some fn->b=p.checked.prog.looks []/\∀(j:Nat)t,fn.params[j]?=some t->p.checked.prog.wantsStandIn t=false)
 (m:g=c.goesBy p.checked.prog):
 Claim7.holds p (.plain s) {stood:={row:=c,standIns:= [],harness:=a,looks:=b},kinds:= [],alts:= [],goes:=g,laidByText:=true,laidKinds:=kinds,laidTests:=e,laidLooks:=d}:=by
 have i:S1 {stood:={row:=c,standIns:= [],harness:=a,looks:=b},kinds:= []}=false:=by simpa[S1]using q
 have key:=Claim7.tied_new_at d kinds e (Claim7.new_of_sixth l a b u r o i n) w;refine⟨?_,(λ D k=>by cases k),v,(λ h=>by cases h),m⟩;exact key
end Go
