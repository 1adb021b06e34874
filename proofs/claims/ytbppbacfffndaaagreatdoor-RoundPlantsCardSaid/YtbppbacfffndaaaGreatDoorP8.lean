/- Part of a proof that the statement holds. No conditions. -/
import Derived.SevenTiedAt
import Derived.Test.YtbppbacfffndaaaGreatDoorJ7
set_option linter.all false
set_option maxRecDepth 100000
open Go.IntKind renaming wrap->b2
open List renaming length->ea,find?_cons->eg,replicate->en,findIdx?_cons->eo,findIdx?_eq_some_iff_getElem->ev,any_eq_true->eH,findIdx?_eq_none_iff->eL,getElem?_eq_getElem->eV,getElem_mem->fu,cons_append->fv,nil_append->fz,take->fR
open Option renaming bind_some->eb
open UInt8 renaming toNat->ee
open Bool renaming not_true->ef,not_false->ei,and_eq_true->ep,eq_iff_iff->et,or_self->ez,and_self->eQ,false_or->fb
open Go renaming maxLen->ej
open Int renaming toNat->fl
open Go.Claim7 renaming isSixth->fx
open Go.Proofs.Tryz renaming f156->fH
namespace Go.Abs.R
open Go.Abs Go.Proofs.Tryz
section
local instance:Dr:= ⟨false⟩
abbrev Z0:Ty:=.ay .i64
abbrev Z1:Type:=Int×Int×Int×Int×Int×Int
abbrev Z2:Type:=Z1×Int×Int×Int×Int×Int×Int
abbrev Z3:Ty:=.aF Z0 Z0
abbrev Z4:Ty:=.aF Z0 Z3
abbrev Z5:Ty:=.aF Z0 Z4
abbrev Z6:Ty:=.aF Z0 Z5
abbrev Z7:Ty:=.aF Z0 Z6
abbrev Z8:Ty:=.aH Z0
abbrev Z9:Type:=Int×Int
abbrev dy:Type:=List UInt8
abbrev gH:Ty:=.aF .aJ Z0
abbrev BW:Type:=List Int
abbrev eB:Ty:=.aF Z7 Z7
abbrev fh:Ty:=.aH Z3
abbrev dK:Ty:=.aH gH
abbrev gv:Type:=dy×Int
abbrev qG:Ty:=.aF dK fh
abbrev cN:Ty:=.aF Z8 Z8
abbrev Z19:Type:=Int×Z2×Int×Int
abbrev bZ:Type:=List gv
abbrev cn:Type:=List Z9
abbrev gS:Type:=List Z2
abbrev nk:Type:=Z2×Z19
abbrev QG:Ty:=.aF eB Z3
abbrev Yl:Ty:=.aF Z0 QG
abbrev uy:Ty:=.aF cN cN
abbrev kj:Type:=List gS
abbrev qZ:Ty:=.aH eB
abbrev EM:Type:=BW×BW
abbrev qm:Type:=EM×BW×BW
abbrev uf:Type:=List nk
abbrev EC:Type:=uf×kj
abbrev um:Type:=Option EC
abbrev pR:Type:=bZ×cn
abbrev EF:Type:=pR×qm×Z1×Int×Int×Int×Int×Int×Int
abbrev Lb:Ty:=.cO eB Yl
abbrev JO:Ty:=.aH qZ
abbrev xh:Ty:=.aF Lb JO
abbrev qL:Type:=um×Bool
abbrev Z40:Ty:=.aF uy eB
abbrev QQ:Ty:=.aF qG Z40
abbrev qE:Type:=List dy
abbrev Ah:Type:=um×Z2×Int
abbrev qJ:Type:=List dy
abbrev Cu:Type:=Int×Int×Int
abbrev tZ:Ty:=.ec xh
abbrev AU:Type:=Option EF
abbrev zp:Type:=qm×Int
abbrev xR:Ty:=.ec QQ
abbrev LJ:Type:=Z2×Int×Z2×Int×Int
abbrev Bu:Type:=cn×Int
abbrev Fp:Ty:=.dP eB .aO
abbrev Jz:Ty:=.dP gH .aO
abbrev Iq:Ty:=.aF eB Yl
abbrev Fc:Ty:=.aH .aJ
def OZ(n:Nat)(b:eU)(a:List bS)(num:Int):Option (List bA):=Rs.CG b a num
def MS(n:Nat):fc:= ⟨wM,[],[.aH bq],λ x _=>OZ n x.1 x.2.1 x.2.2,true⟩
theorem aaP(n:Nat):jf Rs.FM.Q 147 (MS n):=Rs.Ww
def KJ(n:Nat)(s:List UInt8):Option Z9:=none
def M6(n:Nat):fc:= ⟨[.aJ],[],[.ay .i32,.ay .i64],λ x y=>KJ n x,false⟩
theorem aeb(n:Nat):jf Rs.FM.Q 157 (M6 n):=by
 refine⟨⟨_,Rs.iC func157 (by kernel_rfl) (by decide),by kernel_rfl,by kernel_rfl⟩,?_⟩;intro w ok vs cs x y r b c a;cases a
def gT:List (Nat×eZ):= [(3,⟨Z0,0,false⟩),(4,⟨.aO,0,false⟩),(5,⟨(.ay .u8),0,false⟩),(9,⟨.aJ,0,false⟩),(21,⟨(.ay .i32),0,false⟩),(22,⟨dK,0,false⟩),(23,⟨fh,0,false⟩),(25,⟨qG,2,false⟩),(26,⟨Z8,0,false⟩),(28,⟨cN,2,false⟩),(30,⟨uy,3,false⟩),(35,⟨Z0,0,false⟩),(46,⟨(.aH Z4),0,false⟩),(56,⟨Z3,2,false⟩),(59,⟨fh,0,false⟩),(134,⟨Z4,3,false⟩),(136,⟨gH,2,false⟩),(138,⟨qG,1,false⟩),(143,⟨xR,1,false⟩),(147,⟨Z7,6,true⟩),(149,⟨eB,2,false⟩),(151,⟨QQ,3,false⟩),(152,⟨Fp,0,false⟩),(168,⟨Z3,2,true⟩),(173,⟨tZ,1,false⟩),(177,⟨Yl,3,false⟩),(178,⟨Lb,0,false⟩),(179,⟨JO,0,false⟩),(181,⟨xh,2,false⟩),(182,⟨Fc,0,false⟩),(191,⟨qZ,0,false⟩),(205,⟨Z8,0,false⟩),(207,⟨(.aH (.ay .u8)),0,false⟩),(209,⟨Jz,0,false⟩),(228,⟨(.aH Iq),0,false⟩),(231,⟨Iq,2,false⟩)]
def gQ:List (Nat×Ty):= [(56,Z3),(168,Z3)]
theorem q56:zP Rs.FM.Q 56 Z3:=JF (d:=40) (by decide) (by kernel_rfl) rfl (by kernel_rfl)
theorem XI:zP Rs.FM.Q 168 Z3:=JF (d:=40) (by decide) (by kernel_rfl) rfl (by kernel_rfl)
def e0(n:Nat):aq:= ⟨gT,[],gQ,[],[]⟩
theorem h0(n:Nat):al Rs.FM.Q (e0 n):=GI (GI (IN (by kernel_rfl)) XI) q56
def zC(n:Nat):Option pR:=
 some ((([([97],8),([98],5),([99],3)]:List gv),([(0,1),(0,2),(1,0),(1,2),(2,0),(2,1)]:List Z9)))
def e1(n:Nat):aq:=(e0 n).a 84 ⟨[],[],[qG],λ x y=>zC n,false⟩
theorem h1(n:Nat):al Rs.FM.Q (e1 n):=dw Rs.FM (h0 n) func84
def DU(n:Nat):Option EM:=
 some ((([8,0,0]:List Int),([1,0,0]:List Int)))
def e2(n:Nat):aq:=(e1 n).a 85 ⟨[],[],[cN],λ x y=>DU n,false⟩
theorem h2(n:Nat):al Rs.FM.Q (e2 n):=dw Rs.FM (h1 n) func85
def gk(n:Nat)(a:Bool)(e:Int):Option Int:=
 bif a then
  some 0
 else
  some e
def e3(n:Nat):aq:=(e2 n).a 97 ⟨[.aO,Z0],[],[Z0],λ x y=>gk n x.1 x.2,false⟩
theorem h3(n:Nat):al Rs.FM.Q (e3 n):=dw Rs.FM (h2 n) func97
def Cv(n:Nat)(d:BW×Int×Int×Unit)(again:(BW×Int×Int×Unit)->Option Int)(ks:(Unit->Option Int)×(Int×Unit->Option Int)×Unit):Option Int:=
 match d,ks with
 | (b,c,a,_),(k0,k1,_)=>
 bif decide (a<c)then
  (aG b a).bind λ e=>
  bif e !=0 then
   k1 (e,())
  else
   again (b,c,(b2 .i64 (a+1)),())
 else
  k0 (())
def ko(n:Nat)(l:List Int):Option Int:=
 cq (Cv n) n (l,(ea l:Int),0,())
  (λ(_)=>
   some (0),
  λ(a,_)=>
   some (a),())
def e4(n:Nat):aq:=(e3 n).a 96 ⟨[Z8],[],[Z0],λ x y=>ko n x,false⟩
theorem h4(n:Nat):al Rs.FM.Q (e4 n):=gD Rs.FM (h3 n) func96 (O:= [_]) ⟨gh n (h3 n) (eN 15 [aT 5 Z8,aT 6 Z0,aT 7 Z0] []) [fq 0 15 [] [],fw 15 [aT 2 Z0] []] (Cv n),trivial⟩
def yM(n:Nat)(d:dy×BW×Int×Int×Unit)(again:(dy×BW×Int×Int×Unit)->Option Bool)(ks:(dy×Unit->Option Bool)×(Bool×Unit->Option Bool)×Unit):Option Bool:=
 match d,ks with
 | (s,b,c,a,_),(k0,k1,_)=>
 bif decide (a<c)then
  (aG b a).bind λ e=>
  bif (!(((decide (e>=97))&& (decide (e<=122)))|| ((decide (e>=65))&& (decide (e<=90)))))&& ((a==0)|| ((e !=45)&& ((decide (e<48))|| (decide (e>57)))))then
   k1 (false,())
  else
   again (s,b,c,(b2 .i64 (a+1)),())
 else
  k0 (s,())
def B9(n:Nat)(s:List UInt8):Option Bool:=
 cq (yM n) n (s,(kv s),((ea (kv s):Nat):Int),0,())
  (λ(a,_)=>
   some ((((a:List UInt8) != [])&& (decide ((ea a:Int)<=12)))),
  λ(b,_)=>
   some (b),())
def e5(n:Nat):aq:=(e4 n).a 106 ⟨[.aJ],[],[.aO],λ x y=>B9 n x,false⟩
theorem h5(n:Nat):al Rs.FM.Q (e5 n):=gD Rs.FM (h4 n) func106 (O:= [_]) ⟨gh n (h4 n) (eN 54 [aT 0 .aJ,aT 7 (.aH (.ay .u8)),aT 8 Z0,aT 9 Z0] []) [fq 0 54 [aT 0 .aJ] [],fw 54 [aT 2 .aO] []] (yM n),trivial⟩
def Jr(n:Nat)(v:dy×Int)(a:List UInt8):Option Bool:=
 some (((v.1:List UInt8)==a))
def e6(n:Nat):aq:=(e5 n).a 137 ⟨[gH],[.aJ],[.aO],λ x y=>Jr n x y,false⟩
theorem h6(n:Nat):al Rs.FM.Q (e6 n):=dw Rs.FM (h5 n) func137
def xO(n:Nat)(d:bZ×(gv->Option Bool)×Int×Int×Unit)(again:(bZ×(gv->Option Bool)×Int×Int×Unit)->Option Int)(ks:(Unit->Option Int)×(Int×Unit->Option Int)×Unit):Option Int:=
 match d,ks with
 | (s,f,b,a,_),(k0,k1,_)=>
 bif decide (a<b)then
  (aG s a).bind λ e=>
  (f e).bind λ x=>
  bif x then
   k1 (a,())
  else
   again (s,f,b,(b2 .i64 (a+1)),())
 else
  k0 (())
def IH(n:Nat)(s:List gv)(f:gv->Option Bool):Option Int:=
 cq (xO n) n (s,f,(ea s:Int),0,())
  (λ(_)=>
   some ((-1)),
  λ(a,_)=>
   some (a),())
def e7(n:Nat):aq:=(e6 n).a 136 ⟨[dK,Jz],[],[Z0],λ x y=>IH n x.1 x.2,false⟩
theorem h7(n:Nat):al Rs.FM.Q (e7 n):=gD Rs.FM (h6 n) func136 (O:= [_]) ⟨gh n (h6 n) (eN 19 [aT 0 dK,aT 1 Jz,aT 7 Z0,aT 8 Z0] []) [fq 0 19 [] [],fw 19 [aT 4 Z0] []] (xO n),trivial⟩
def vV(n:Nat)(l:List gv)(name:List UInt8):Option Int:=
 (IH n l (λ a=>Jr n a name)).bind λ x=>
 some x
def e8(n:Nat):aq:=(e7 n).a 107 ⟨[dK,.aJ],[],[Z0],λ x y=>vV n x.1 x.2,false⟩
theorem h8(n:Nat):al Rs.FM.Q (e8 n):=dw Rs.FM (h7 n) func107
def pX(n:Nat)(a:Int)(lo:Int)(b:Int):Option Bool:=
 some (((decide (lo<=a))&& (decide (a<=b))))
def e9(n:Nat):aq:=(e8 n).a 99 ⟨[Z0,Z0,Z0],[],[.aO],λ x y=>pX n x.1 x.2.1 x.2.2,false⟩
theorem h9(n:Nat):al Rs.FM.Q (e9 n):=dw Rs.FM (h8 n) func99
def EJ(n:Nat)(a:Int):Option Bool:=
 (pX n a 1 50).bind λ x=>
 some x
def Lr(n:Nat):aq:=(e9 n).a 101 ⟨[Z0],[],[.aO],λ x y=>EJ n x,false⟩
theorem h10(n:Nat):al Rs.FM.Q (Lr n):=dw Rs.FM (h9 n) func101
def vO(n:Nat)(b:Int)(a:bZ×cn):Option Bool:=
 (pX n b 0 (b2 .i64 ((ea a.1:Int)- 1))).bind λ x=>
 some x
def OO(n:Nat):aq:=(Lr n).a 108 ⟨[Z0],[qG],[.aO],λ x y=>vO n x y,false⟩
theorem Sp(n:Nat):al Rs.FM.Q (OO n):=dw Rs.FM (h10 n) func108
def AI(n:Nat)(d:cn×Int×Int×Int×Int×Unit)(again:(cn×Int×Int×Int×Int×Unit)->Option Int)(ks:(Unit->Option Int)×(Int×Unit->Option Int)×Unit):Option Int:=
 match d,ks with
 | (s,b,a,v,c,_),(k0,k1,_)=>
 bif decide (a<b)then
  (aG s a).bind λ e=>
  bif (v==e.1)&& (c==e.2)then
   k1 (a,())
  else
   again (s,b,(b2 .i64 (a+1)),v,c,())
 else
  k0 (())
def ym(n:Nat)(s:List Z9)(v:Int×Int):Option Int:=
 cq (AI n) n (s,(ea s:Int),0,v.1,v.2,())
  (λ(_)=>
   some ((-1)),
  λ(a,_)=>
   some (a),())
def SL(n:Nat):aq:=(OO n).a 138 ⟨[fh,Z3],[],[Z0],λ x y=>ym n x.1 x.2,false⟩
theorem h12(n:Nat):al Rs.FM.Q (SL n):=gD Rs.FM (Sp n) func138 (O:= [_]) ⟨gh n (Sp n) (eN 19 [aT 0 fh,(3,.v (.cu 19 0)),aT 7 Z0,aT 8 Z0] [(19,.cp Z3 [.aj Z0,.aj Z0])]) [fq 0 19 [] [],fw 19 [aT 4 Z0] []] (AI n),trivial⟩
def za(n:Nat)(s:List Z9)(v:Int×Int):Option Bool:=
 (ym n s (v.1,v.2)).bind λ x=>
 some ((decide (x>=0)))
def PK(n:Nat):aq:=(SL n).a 109 ⟨[fh,Z3],[],[.aO],λ x y=>za n x.1 x.2,false⟩
theorem Gw(n:Nat):al Rs.FM.Q (PK n):=dw Rs.FM (h12 n) func109
def Au(n:Nat)(d:bZ×Int×Int×bZ×cn×Unit)(again:(bZ×Int×Int×bZ×cn×Unit)->Option Z9)(ks:(bZ×cn×Unit->Option Z9)×(Int×Int×Unit->Option Z9)×Unit):Option Z9:=
 match d,ks with
 | (c,f,a,p,b,_),(k0,k1,_)=>
 bif decide (a<f)then
  (aG c a).bind λ e=>
  (B9 n e.1).bind λ x=>
  (gk n x 4).bind λ h=>
  (iB p 0 a).bind λ i=>
  (vV n i e.1).bind λ j=>
  (gk n (decide (j<0)) 5).bind λ k=>
  (EJ n e.2).bind λ l=>
  (gk n l 2).bind λ m=>
  (ko n ([h,k,m]:List Int)).bind λ g=>
  bif g !=0 then
   k1 (a,g,())
  else
   again (c,f,(b2 .i64 (a+1)),p,b,())
 else
  k0 (p,b,())
def Ag(n:Nat)(d:pR×(Int->Option Bool)×cn×Int×Int×Unit)(again:(pR×(Int->Option Bool)×cn×Int×Int×Unit)->Option Z9)(ks:(Unit->Option Z9)×(Int×Int×Unit->Option Z9)×Unit):Option Z9:=
 match d,ks with
 | (p,c,f,g,a,_),(k0,k1,_)=>
 bif decide (a<g)then
  (aG f a).bind λ e=>
  (cQ 0 2).bind λ u=>
  (aG [e.1,e.2] 0).bind λ x=>
  (c x).bind λ b=>
  (bI b (cQ 1 2) ()).bind λ t=>
  (bI b (aG [e.1,e.2] 1) 0).bind λ j=>
  (bI b (c j) false).bind λ k=>
  (gk n (b&&k) 6).bind λ l=>
  (cQ 0 2).bind λ v=>
  (aG [e.1,e.2] 0).bind λ m=>
  (cQ 1 2).bind λ w=>
  (aG [e.1,e.2] 1).bind λ o=>
  (gk n (m !=o) 11).bind λ q=>
  (iB p.2 0 a).bind λ r=>
  (za n r (e.1,e.2)).bind λ s=>
  (gk n (!s) 26).bind λ i=>
  (ko n ([l,q,i]:List Int)).bind λ h=>
  bif h !=0 then
   k1 (a,h,())
  else
   again (p,c,f,g,(b2 .i64 (a+1)),())
 else
  k0 (())
def xg(n:Nat)(p:bZ×cn):Option Z9:=
 (gk n (decide ((ea p.1:Int)>0)) 10).bind λ x=>
 (gk n (decide ((ea p.1:Int)<=6)) 8).bind λ h=>
 (ko n ([x,h]:List Int)).bind λ c=>
 bif c !=0 then
  some (0,c)
 else
  cq (Au n) n (p.1,(ea p.1:Int),0,p.1,p.2,())
   (λ(b,a,_)=>
    bif decide ((ea a:Int)>30)then
     some (0,8)
    else
     cq (Ag n) n ((b,a),(λ i=>vO n i (b,a)),a,(ea a:Int),0,())
      (λ(_)=>
       some (0,0),
      λ(d,f,_)=>
       some (d,f),()),
   λ(e,g,_)=>
    some (e,g),())
def QX(n:Nat):aq:=(PK n).a 43 ⟨[qG],[],[Z0,Z0],λ x y=>xg n x,false⟩
theorem h14(n:Nat):al Rs.FM.Q (QX n):=gD Rs.FM (Gw n) func43 (O:= [_,_]) ⟨gh n (Gw n) (eN 104 [(1,.v (.cu 104 0)),aT 28 dK,aT 29 Z0,aT 30 Z0] [(104,.cp qG [.aj dK,.aj fh])]) [fq 0 104 [(1,.v (.cu 104 0))] [(104,.cp qG [.aj dK,.aj fh])],fw 104 [aT 2 Z0,aT 3 Z0] []] (Au n),gh n (Gw n) (eN 104 [(1,.v (.pp qG)),aT 8 (.dP Z0 .aO),aT 65 fh,aT 66 Z0,aT 67 Z0] []) [fq 2 104 [] [],fw 104 [aT 2 Z0,aT 3 Z0] []] (Ag n),trivial⟩
def tx(n:Nat)(p:bZ×cn):Option (pR×Int):=
 (xg n (p.1,p.2)).bind λ x=>
 some ((p.1,p.2),x.2)
def Rf(n:Nat):aq:=(QX n).a 87 ⟨[qG],[],[qG,Z0],λ x y=>tx n x,false⟩
theorem Vw(n:Nat):al Rs.FM.Q (Rf n):=dw Rs.FM (h14 n) func87
def mZ(n:Nat)(p:bZ×cn):Option Int:=
 some ((ea p.1:Int))
def R0(n:Nat):aq:=(Rf n).a 100 ⟨[qG],[],[Z0],λ x y=>mZ n x,false⟩
theorem h16(n:Nat):al Rs.FM.Q (R0 n):=dw Rs.FM (Vw n) func100
def Dy(n:Nat)(a:Int):Option Bool:=
 (pX n a 0 3).bind λ x=>
 some x
def NZ(n:Nat):aq:=(R0 n).a 132 ⟨[Z0],[],[.aO],λ x y=>Dy n x,false⟩
theorem NP(n:Nat):al Rs.FM.Q (NZ n):=dw Rs.FM (h16 n) func132
def Co(n:Nat)(d:bZ×Int×Int×BW×BW×Unit)(again:(bZ×Int×Int×BW×BW×Unit)->Option Int)(ks:(Unit->Option Int)×(Int×Unit->Option Int)×Unit):Option Int:=
 match d,ks with
 | (g,h,a,s,f,_),(k0,k1,_)=>
 bif decide (a<h)then
  (aG g a).bind λ e=>
  (aG s a).bind λ b=>
  (aG f a).bind λ c=>
  (pX n b 0 e.2).bind λ x=>
  (bI x (Dy n c) false).bind λ j=>
  (gk n (x&&j) 2).bind λ k=>
  (gk n ((b==0)==(c==0)) 13).bind λ l=>
  (ko n ([k,l]:List Int)).bind λ i=>
  bif i !=0 then
   k1 (i,())
  else
   again (g,h,(b2 .i64 (a+1)),s,f,())
 else
  k0 (())
def px(n:Nat)(p:bZ×cn)(s:BW×BW):Option Int:=
 (mZ n (p.1,p.2)).bind λ x=>
 (bI (!((ea s.1:Int) !=x)) (mZ n (p.1,p.2)) 0).bind λ b=>
 bif ((ea s.1:Int) !=x)|| ((ea s.2:Int) !=b)then
  some 10
 else
  cq (Co n) n (p.1,(ea p.1:Int),0,s.1,s.2,())
   (λ(_)=>
    some (0),
   λ(a,_)=>
    some (a),())
def JC(n:Nat):aq:=(NZ n).a 91 ⟨[qG,cN],[],[Z0],λ x y=>px n x.1 x.2,false⟩
theorem NC(n:Nat):al Rs.FM.Q (JC n):=gD Rs.FM (NP n) func91 (O:= [_]) ⟨gh n (NP n) (eN 64 [(3,.v (.cu 64 0)),aT 26 dK,aT 27 Z0,aT 28 Z0] [(64,.cp cN [.aj Z8,.aj Z8])]) [fq 0 64 [] [],fw 64 [aT 4 Z0] []] (Co n),trivial⟩
def tj(n:Nat)(s:BW×BW):Option Z2:=
 (kZ 6 6).bind λ u=>
 (kZ 6 6).bind λ a=>
 some ((((bif decide (0<6)then(s.1[0]?).getD 0 else 0),((bif decide (1<6)then(s.1[1]?).getD 0 else 0),((bif decide (2<6)then(s.1[2]?).getD 0 else 0),((bif decide (3<6)then(s.1[3]?).getD 0 else 0),((bif decide (4<6)then(s.1[4]?).getD 0 else 0),(bif decide (5<6)then(s.1[5]?).getD 0 else 0)))))),((bif decide (0<6)then(s.2[0]?).getD 0 else 0),((bif decide (1<6)then(s.2[1]?).getD 0 else 0),((bif decide (2<6)then(s.2[2]?).getD 0 else 0),((bif decide (3<6)then(s.2[3]?).getD 0 else 0),((bif decide (4<6)then(s.2[4]?).getD 0 else 0),(bif decide (5<6)then(s.2[5]?).getD 0 else 0))))))))
def Oo(n:Nat):aq:=(JC n).n [5,10]
theorem agq(n:Nat):al Rs.FM.Q (Oo n):=IV (NC n) _
def HC(n:Nat):fc:= ⟨[cN],[],[eB],λ x y=>tj n x,false⟩
theorem aax(n:Nat)(x:ax [cN])(y:ax []):oI (Oo n) f93 [cN] [] [eB] false [] x y=(HC n).g x y:=by kernel_rfl
theorem XG(n:Nat):jf Rs.FM.Q 93 (HC n):=xz (agq n) Rs.FM.b (Rs.FM.a func93 (by kernel_rfl) (by decide)) (by kernel_rfl) (by kernel_rfl) (O:= []) trivial (aax n)
def KA(n:Nat):aq:=(JC n).a 93 (HC n)
theorem h19(n:Nat):al Rs.FM.Q (KA n):=mN (NC n) (XG n)
def Ij(n:Nat)(p:bZ×cn)(s:BW×BW):Option (pR×Z2×Int):=
 (tx n (p.1,p.2)).bind λ x=>
 bif x.2==0 then
  (px n (x.1.1,x.1.2) (s.1,s.2)).bind λ c=>
  bif c !=0 then
   some ((x.1.1,x.1.2),((0,(0,(0,(0,(0,0))))),(0,(0,(0,(0,(0,0)))))),c)
  else
   (tj n (s.1,s.2)).bind λ a=>
   some ((x.1.1,x.1.2),((a.1.1,(a.1.2.1,(a.1.2.2.1,(a.1.2.2.2.1,(a.1.2.2.2.2.1,a.1.2.2.2.2.2))))),(a.2.1,(a.2.2.1,(a.2.2.2.1,(a.2.2.2.2.1,(a.2.2.2.2.2.1,a.2.2.2.2.2.2)))))),0)
 else
  bif x.2 !=0 then
   some ((x.1.1,x.1.2),((0,(0,(0,(0,(0,0))))),(0,(0,(0,(0,(0,0)))))),x.2)
  else
   (tj n (s.1,s.2)).bind λ b=>
   some ((x.1.1,x.1.2),((b.1.1,(b.1.2.1,(b.1.2.2.1,(b.1.2.2.2.1,(b.1.2.2.2.2.1,b.1.2.2.2.2.2))))),(b.2.1,(b.2.2.1,(b.2.2.2.1,(b.2.2.2.2.1,(b.2.2.2.2.2.1,b.2.2.2.2.2.2)))))),0)
def OA(n:Nat):aq:=(KA n).a 95 ⟨[qG,cN],[],[qG,eB,Z0],λ x y=>Ij n x.1 x.2,false⟩
theorem VP(n:Nat):al Rs.FM.Q (OA n):=dw Rs.FM (h19 n) func95
def JZ(n:Nat)(b:Int)(a:bZ×cn):Option Bool:=
 (mZ n a).bind λ x=>
 (pX n b 0 (b2 .i64 (x- 1))).bind λ c=>
 some c
def NT(n:Nat):aq:=(OA n).a 134 ⟨[Z0],[qG],[.aO],λ x y=>JZ n x y,false⟩
theorem ZE(n:Nat):al Rs.FM.Q (NT n):=dw Rs.FM (VP n) func134
def Ov(n:Nat)(p:bZ×cn)(a:Z1×Int×Int×Int×Int×Int×Int)(m:Int×Int):Option (Z2×Int):=
 ((λ i=>JZ n i (p.1,p.2)) m.1).bind λ x=>
 (bI x ((λ i=>JZ n i (p.1,p.2)) m.2) false).bind λ l=>
 (gk n (x&&l) 6).bind λ t=>
 (za n p.2 (m.1,m.2)).bind λ v=>
 (gk n v 18).bind λ w=>
 (ko n ([t,w]:List Int)).bind λ k=>
 bif k !=0 then
  some (((0,(0,(0,(0,(0,0))))),(0,(0,(0,(0,(0,0)))))),k)
 else
  (cQ m.1 6).bind λ u=>
  (aG [a.1.1,a.1.2.1,a.1.2.2.1,a.1.2.2.2.1,a.1.2.2.2.2.1,a.1.2.2.2.2.2] m.1).bind λ b=>
  (aG p.1 m.2).bind λ e=>
  (cQ m.2 6).bind λ z=>
  (aG [a.1.1,a.1.2.1,a.1.2.2.1,a.1.2.2.2.1,a.1.2.2.2.2.1,a.1.2.2.2.2.2] m.2).bind λ c=>
  (cQ m.1 6).bind λ C=>
  (aG [a.2.1,a.2.2.1,a.2.2.2.1,a.2.2.2.2.1,a.2.2.2.2.2.1,a.2.2.2.2.2.2] m.1).bind λ g=>
  (gk n (decide (b>0)) 12).bind λ y=>
  (gk n (decide ((b2 .i64 (e.2- c))>0)) 16).bind λ o=>
  (cQ m.2 6).bind λ D=>
  (aG [a.2.1,a.2.2.1,a.2.2.2.1,a.2.2.2.2.1,a.2.2.2.2.2.1,a.2.2.2.2.2.2] m.2).bind λ h=>
  (bI (!(h==0)) (cQ m.2 6) ()).bind λ E=>
  (bI (!(h==0)) (aG [a.2.1,a.2.2.1,a.2.2.2.1,a.2.2.2.2.1,a.2.2.2.2.2.1,a.2.2.2.2.2.2] m.2) 0).bind λ q=>
  (gk n ((h==0)|| (q==g)) 13).bind λ r=>
  (ko n ([y,o,r]:List Int)).bind λ j=>
  bif j !=0 then
   some (((0,(0,(0,(0,(0,0))))),(0,(0,(0,(0,(0,0)))))),j)
  else
   (cQ m.1 6).bind λ F=>
   (aG [a.1.1,a.1.2.1,a.1.2.2.1,a.1.2.2.2.1,a.1.2.2.2.2.1,a.1.2.2.2.2.2] m.1).bind λ d=>
   (cQ m.1 6).bind λ G=>
   (cQ m.2 6).bind λ H=>
   (aG [(bif decide (m.1=0)then(b2 .i64 (d- (bu b (b2 .i64 (e.2- c)))))else a.1.1),(bif decide (m.1=1)then(b2 .i64 (d- (bu b (b2 .i64 (e.2- c)))))else a.1.2.1),(bif decide (m.1=2)then(b2 .i64 (d- (bu b (b2 .i64 (e.2- c)))))else a.1.2.2.1),(bif decide (m.1=3)then(b2 .i64 (d- (bu b (b2 .i64 (e.2- c)))))else a.1.2.2.2.1),(bif decide (m.1=4)then(b2 .i64 (d- (bu b (b2 .i64 (e.2- c)))))else a.1.2.2.2.2.1),(bif decide (m.1=5)then(b2 .i64 (d- (bu b (b2 .i64 (e.2- c)))))else a.1.2.2.2.2.2)] m.2).bind λ f=>
   (cQ m.2 6).bind λ I=>
   (cQ m.2 6).bind λ J=>
   (cQ m.1 6).bind λ A=>
   (aG [(bif decide (m.2=0)then(b2 .i64 (f+ (bu b (b2 .i64 (e.2- c)))))else(bif decide (m.1=0)then(b2 .i64 (d- (bu b (b2 .i64 (e.2- c)))))else a.1.1)),(bif decide (m.2=1)then(b2 .i64 (f+ (bu b (b2 .i64 (e.2- c)))))else(bif decide (m.1=1)then(b2 .i64 (d- (bu b (b2 .i64 (e.2- c)))))else a.1.2.1)),(bif decide (m.2=2)then(b2 .i64 (f+ (bu b (b2 .i64 (e.2- c)))))else(bif decide (m.1=2)then(b2 .i64 (d- (bu b (b2 .i64 (e.2- c)))))else a.1.2.2.1)),(bif decide (m.2=3)then(b2 .i64 (f+ (bu b (b2 .i64 (e.2- c)))))else(bif decide (m.1=3)then(b2 .i64 (d- (bu b (b2 .i64 (e.2- c)))))else a.1.2.2.2.1)),(bif decide (m.2=4)then(b2 .i64 (f+ (bu b (b2 .i64 (e.2- c)))))else(bif decide (m.1=4)then(b2 .i64 (d- (bu b (b2 .i64 (e.2- c)))))else a.1.2.2.2.2.1)),(bif decide (m.2=5)then(b2 .i64 (f+ (bu b (b2 .i64 (e.2- c)))))else(bif decide (m.1=5)then(b2 .i64 (d- (bu b (b2 .i64 (e.2- c)))))else a.1.2.2.2.2.2))] m.1).bind λ s=>
   bif s==0 then
    (cQ m.1 6).bind λ B=>
    some ((((bif decide (m.2=0)then(b2 .i64 (f+ (bu b (b2 .i64 (e.2- c)))))else(bif decide (m.1=0)then(b2 .i64 (d- (bu b (b2 .i64 (e.2- c)))))else a.1.1)),((bif decide (m.2=1)then(b2 .i64 (f+ (bu b (b2 .i64 (e.2- c)))))else(bif decide (m.1=1)then(b2 .i64 (d- (bu b (b2 .i64 (e.2- c)))))else a.1.2.1)),((bif decide (m.2=2)then(b2 .i64 (f+ (bu b (b2 .i64 (e.2- c)))))else(bif decide (m.1=2)then(b2 .i64 (d- (bu b (b2 .i64 (e.2- c)))))else a.1.2.2.1)),((bif decide (m.2=3)then(b2 .i64 (f+ (bu b (b2 .i64 (e.2- c)))))else(bif decide (m.1=3)then(b2 .i64 (d- (bu b (b2 .i64 (e.2- c)))))else a.1.2.2.2.1)),((bif decide (m.2=4)then(b2 .i64 (f+ (bu b (b2 .i64 (e.2- c)))))else(bif decide (m.1=4)then(b2 .i64 (d- (bu b (b2 .i64 (e.2- c)))))else a.1.2.2.2.2.1)),(bif decide (m.2=5)then(b2 .i64 (f+ (bu b (b2 .i64 (e.2- c)))))else(bif decide (m.1=5)then(b2 .i64 (d- (bu b (b2 .i64 (e.2- c)))))else a.1.2.2.2.2.2))))))),((bif decide (m.1=0)then 0 else(bif decide (m.2=0)then g else a.2.1)),((bif decide (m.1=1)then 0 else(bif decide (m.2=1)then g else a.2.2.1)),((bif decide (m.1=2)then 0 else(bif decide (m.2=2)then g else a.2.2.2.1)),((bif decide (m.1=3)then 0 else(bif decide (m.2=3)then g else a.2.2.2.2.1)),((bif decide (m.1=4)then 0 else(bif decide (m.2=4)then g else a.2.2.2.2.2.1)),(bif decide (m.1=5)then 0 else(bif decide (m.2=5)then g else a.2.2.2.2.2.2)))))))),0)
   else
    some ((((bif decide (m.2=0)then(b2 .i64 (f+ (bu b (b2 .i64 (e.2- c)))))else(bif decide (m.1=0)then(b2 .i64 (d- (bu b (b2 .i64 (e.2- c)))))else a.1.1)),((bif decide (m.2=1)then(b2 .i64 (f+ (bu b (b2 .i64 (e.2- c)))))else(bif decide (m.1=1)then(b2 .i64 (d- (bu b (b2 .i64 (e.2- c)))))else a.1.2.1)),((bif decide (m.2=2)then(b2 .i64 (f+ (bu b (b2 .i64 (e.2- c)))))else(bif decide (m.1=2)then(b2 .i64 (d- (bu b (b2 .i64 (e.2- c)))))else a.1.2.2.1)),((bif decide (m.2=3)then(b2 .i64 (f+ (bu b (b2 .i64 (e.2- c)))))else(bif decide (m.1=3)then(b2 .i64 (d- (bu b (b2 .i64 (e.2- c)))))else a.1.2.2.2.1)),((bif decide (m.2=4)then(b2 .i64 (f+ (bu b (b2 .i64 (e.2- c)))))else(bif decide (m.1=4)then(b2 .i64 (d- (bu b (b2 .i64 (e.2- c)))))else a.1.2.2.2.2.1)),(bif decide (m.2=5)then(b2 .i64 (f+ (bu b (b2 .i64 (e.2- c)))))else(bif decide (m.1=5)then(b2 .i64 (d- (bu b (b2 .i64 (e.2- c)))))else a.1.2.2.2.2.2))))))),((bif decide (m.2=0)then g else a.2.1),((bif decide (m.2=1)then g else a.2.2.1),((bif decide (m.2=2)then g else a.2.2.2.1),((bif decide (m.2=3)then g else a.2.2.2.2.1),((bif decide (m.2=4)then g else a.2.2.2.2.2.1),(bif decide (m.2=5)then g else a.2.2.2.2.2.2))))))),0)
def Oc(n:Nat):aq:=(NT n).a 103 ⟨[qG,eB,Z3],[],[eB,Z0],λ x y=>Ov n x.1 x.2.1 x.2.2,false⟩
theorem Us(n:Nat):al Rs.FM.Q (Oc n):=dw Rs.FM (ZE n) func103
def IF(n:Nat):aq:=(Oc n).a 133 (PJ n)
theorem PM(n:Nat):al Rs.FM.Q (IF n):=mN (Us n) (ac3 n)
def yw(n:Nat)(a:Z1×Int×Int×Int×Int×Int×Int)(b:Int):Option EM:=
 (kZ b 6).bind λ u=>
 (Gu n (fR (fl b) [a.1.1,a.1.2.1,a.1.2.2.1,a.1.2.2.2.1,a.1.2.2.2.2.1,a.1.2.2.2.2.2])).bind λ x=>
 (kZ b 6).bind λ d=>
 (Gu n (fR (fl b) [a.2.1,a.2.2.1,a.2.2.2.1,a.2.2.2.2.1,a.2.2.2.2.2.1,a.2.2.2.2.2.2])).bind λ c=>
 some ((x,c))
def R2(n:Nat):aq:=(IF n).n [1000002]
theorem aiK(n:Nat):al Rs.FM.Q (R2 n):=IV (PM n) _
def JH(n:Nat):fc:= ⟨[eB,Z0],[],[cN],λ x y=>yw n x.1 x.2,false⟩
theorem YX(n:Nat)(x:ax [eB,Z0])(y:ax []):oI (R2 n) f102 [eB,Z0] [] [cN] false [] x y=(JH n).g x y:=by kernel_rfl
theorem aiN(n:Nat):jf Rs.FM.Q 102 (JH n):=xz (aiK n) Rs.FM.b (Rs.FM.a func102 (by kernel_rfl) (by decide)) (by kernel_rfl) (by kernel_rfl) (O:= []) trivial (YX n)
def Mp(n:Nat):aq:=(IF n).a 102 (JH n)
theorem h24(n:Nat):al Rs.FM.Q (Mp n):=mN (PM n) (aiN n)
def Na(n:Nat)(p:bZ×cn)(s:BW×BW)(m:Int×Int):Option (EM×Int):=
 (Ij n (p.1,p.2) (s.1,s.2)).bind λ x=>
 bif x.2.2==0 then
  (Ov n (x.1.1,x.1.2) ((x.2.1.1.1,(x.2.1.1.2.1,(x.2.1.1.2.2.1,(x.2.1.1.2.2.2.1,(x.2.1.1.2.2.2.2.1,x.2.1.1.2.2.2.2.2))))),(x.2.1.2.1,(x.2.1.2.2.1,(x.2.1.2.2.2.1,(x.2.1.2.2.2.2.1,(x.2.1.2.2.2.2.2.1,x.2.1.2.2.2.2.2.2)))))) (m.1,m.2)).bind λ a=>
  bif a.2 !=0 then
   some ((([]:List Int),([]:List Int)),a.2)
  else
   (mZ n (x.1.1,x.1.2)).bind λ d=>
   (yw n ((a.1.1.1,(a.1.1.2.1,(a.1.1.2.2.1,(a.1.1.2.2.2.1,(a.1.1.2.2.2.2.1,a.1.1.2.2.2.2.2))))),(a.1.2.1,(a.1.2.2.1,(a.1.2.2.2.1,(a.1.2.2.2.2.1,(a.1.2.2.2.2.2.1,a.1.2.2.2.2.2.2)))))) d).bind λ b=>
   some ((b.1,b.2),0)
 else
  bif x.2.2 !=0 then
   some ((([]:List Int),([]:List Int)),x.2.2)
  else
   (mZ n (x.1.1,x.1.2)).bind λ e=>
   (yw n ((x.2.1.1.1,(x.2.1.1.2.1,(x.2.1.1.2.2.1,(x.2.1.1.2.2.2.1,(x.2.1.1.2.2.2.2.1,x.2.1.1.2.2.2.2.2))))),(x.2.1.2.1,(x.2.1.2.2.1,(x.2.1.2.2.2.1,(x.2.1.2.2.2.2.1,(x.2.1.2.2.2.2.2.1,x.2.1.2.2.2.2.2.2)))))) e).bind λ c=>
   some ((c.1,c.2),0)
def Lh(n:Nat):aq:=(Mp n).a 35 ⟨[qG,cN,Z3],[],[cN,Z0],λ x y=>Na n x.1 x.2.1 x.2.2,false⟩
theorem h25(n:Nat):al Rs.FM.Q (Lh n):=dw Rs.FM (h24 n) func35
def LQ(n:Nat):Option qm:=
 (DU n).bind λ x=>
 some (((x.1,x.2),(([4,4,0]:List Int),([0,0,0]:List Int))))
def MH(n:Nat):aq:=(Lh n).a 86 ⟨[],[],[uy],λ x y=>LQ n,false⟩
theorem Mw(n:Nat):al Rs.FM.Q (MH n):=dw Rs.FM (h25 n) func86
def Em(n:Nat)(d:bZ×Int×Int×BW×BW×BW×BW×Unit)(again:(bZ×Int×Int×BW×BW×BW×BW×Unit)->Option Int)(ks:(Unit->Option Int)×(Int×Unit->Option Int)×Unit):Option Int:=
 match d,ks with
 | (f,g,b,t,k,h,i,_),(k0,k1,_)=>
 bif decide (b<g)then
  (aG f b).bind λ e=>
  (aG h b).bind λ a=>
  (aG i b).bind λ c=>
  (bI (!(a==(-1))) (pX n a 0 e.2) false).bind λ x=>
  (bI ((a==(-1))||x) (Dy n c) false).bind λ l=>
  (gk n (((a==(-1))||x)&&l) 2).bind λ m=>
  (gk n ((c==0)|| (a !=0)) 13).bind λ o=>
  (ko n ([m,o]:List Int)).bind λ j=>
  bif j !=0 then
   k1 (j,())
  else
   again (f,g,(b2 .i64 (b+1)),t,k,h,i,())
 else
  k0 (())
def v7(n:Nat)(p:bZ×cn)(t:EM×BW×BW):Option Int:=
 (px n (p.1,p.2) (t.1.1,t.1.2)).bind λ x=>
 (mZ n (p.1,p.2)).bind λ a=>
 (bI ((ea t.2.1:Int)==a) (mZ n (p.1,p.2)) 0).bind λ d=>
 (gk n (((ea t.2.1:Int)==a)&& ((ea t.2.2:Int)==d)) 10).bind λ e=>
 (ko n ([x,e]:List Int)).bind λ b=>
 bif b !=0 then
  some b
 else
  cq (Em n) n (p.1,(ea p.1:Int),0,t.1.1,t.1.2,t.2.1,t.2.2,())
   (λ(_)=>
    some (0),
   λ(c,_)=>
    some (c),())
def QI(n:Nat):aq:=(MH n).a 88 ⟨[qG,uy],[],[Z0],λ x y=>v7 n x.1 x.2,false⟩
theorem UR(n:Nat):al Rs.FM.Q (QI n):=gD Rs.FM (Mw n) func88 (O:= [_]) ⟨gh n (Mw n) (eN 80 [(3,.v (.cu 80 0)),aT 37 dK,aT 38 Z0,aT 39 Z0] [(80,.cp uy [.aj Z8,.aj Z8,.aj Z8,.aj Z8])]) [fq 0 80 [] [],fw 80 [aT 4 Z0] []] (Em n),trivial⟩
def ux(n:Nat)(p:bZ×cn)(t:EM×BW×BW):Option Int:=
 (tx n (p.1,p.2)).bind λ x=>
 bif x.2 !=0 then
  some (x.2)
 else
  (v7 n (x.1.1,x.1.2) ((t.1.1,t.1.2),(t.2.1,t.2.2))).bind λ a=>
  some a
def Rq(n:Nat):aq:=(QI n).a 21 ⟨[qG,uy],[],[Z0],λ x y=>ux n x.1 x.2,false⟩
theorem Uo(n:Nat):al Rs.FM.Q (Rq n):=dw Rs.FM (UR n) func21
def vm(n:Nat)(p:bZ×cn)(t:EM×BW×BW):Option (AU×Int):=
 (ux n (p.1,p.2) ((t.1.1,t.1.2),(t.2.1,t.2.2))).bind λ x=>
 bif x !=0 then
  some ((none:Option EF),x)
 else
  (tj n (t.1.1,t.1.2)).bind λ a=>
  some ((some ((p.1,p.2),(((t.1.1,t.1.2),(t.2.1,t.2.2)),((a.1.1,(a.1.2.1,(a.1.2.2.1,(a.1.2.2.2.1,(a.1.2.2.2.2.1,a.1.2.2.2.2.2))))),(a.2.1,(a.2.2.1,(a.2.2.2.1,(a.2.2.2.2.1,(a.2.2.2.2.2.1,a.2.2.2.2.2.2))))))))),0)
def LP(n:Nat):aq:=(Rq n).a 90 ⟨[qG,uy],[],[xR,Z0],λ x y=>vm n x.1 x.2,false⟩
theorem h29(n:Nat):al Rs.FM.Q (LP n):=dw Rs.FM (Uo n) func90
def Q9(n:Nat):aq:=(LP n).a 147 (MS n)
theorem FF(n:Nat):al Rs.FM.Q (Q9 n):=mN (h29 n) (aaP n)
def Te(n:Nat)(d:Int×Int×bZ×cn×uf×kj×gS×(List LJ)×Unit)(again:(Int×Int×bZ×cn×uf×kj×gS×(List LJ)×Unit)->Option qL)(ks:(bZ×cn×uf×kj×gS×Unit->Option qL)×(um×Bool×Unit->Option qL)×Unit):Option qL:=
 match d,ks with
 | (h,a,p,f,r,g,b,c,_),(k0,k1,_)=>
 bif decide (a<h)then
  (aG c a).bind λ e=>
  (aG c a).bind λ x=>
  bif Option.isSome (j4 (Ty.f eB) r ((x.1.1.1,(x.1.1.2.1,(x.1.1.2.2.1,(x.1.1.2.2.2.1,(x.1.1.2.2.2.2.1,x.1.1.2.2.2.2.2))))),(x.1.2.1,(x.1.2.2.1,(x.1.2.2.2.1,(x.1.2.2.2.2.1,(x.1.2.2.2.2.2.1,x.1.2.2.2.2.2.2)))))))then
   again (h,(b2 .i64 (a+1)),p,f,r,g,b,c,())
  else
   bif decide (((ea (lz (Ty.f eB) r ((x.1.1.1,(x.1.1.2.1,(x.1.1.2.2.1,(x.1.1.2.2.2.1,(x.1.1.2.2.2.2.1,x.1.1.2.2.2.2.2))))),(x.1.2.1,(x.1.2.2.1,(x.1.2.2.2.1,(x.1.2.2.2.2.1,(x.1.2.2.2.2.2.1,x.1.2.2.2.2.2.2)))))) (x.2.1,(((x.2.2.1.1.1,(x.2.2.1.1.2.1,(x.2.2.1.1.2.2.1,(x.2.2.1.1.2.2.2.1,(x.2.2.1.1.2.2.2.2.1,x.2.2.1.1.2.2.2.2.2))))),(x.2.2.1.2.1,(x.2.2.1.2.2.1,(x.2.2.1.2.2.2.1,(x.2.2.1.2.2.2.2.1,(x.2.2.1.2.2.2.2.2.1,x.2.2.1.2.2.2.2.2.2)))))),(x.2.2.2.1,x.2.2.2.2)))):Nat):Int)>4000)then
    k1 ((none:Option EC),false,())
   else
    (jk (ea b+ea ([((x.1.1.1,(x.1.1.2.1,(x.1.1.2.2.1,(x.1.1.2.2.2.1,(x.1.1.2.2.2.2.1,x.1.1.2.2.2.2.2))))),(x.1.2.1,(x.1.2.2.1,(x.1.2.2.2.1,(x.1.2.2.2.2.1,(x.1.2.2.2.2.2.1,x.1.2.2.2.2.2.2))))))]:List Z2))).bind λ u=>
    again (h,(b2 .i64 (a+1)),p,f,(lz (Ty.f eB) r ((x.1.1.1,(x.1.1.2.1,(x.1.1.2.2.1,(x.1.1.2.2.2.1,(x.1.1.2.2.2.2.1,x.1.1.2.2.2.2.2))))),(x.1.2.1,(x.1.2.2.1,(x.1.2.2.2.1,(x.1.2.2.2.2.1,(x.1.2.2.2.2.2.1,x.1.2.2.2.2.2.2)))))) (x.2.1,(((x.2.2.1.1.1,(x.2.2.1.1.2.1,(x.2.2.1.1.2.2.1,(x.2.2.1.1.2.2.2.1,(x.2.2.1.1.2.2.2.2.1,x.2.2.1.1.2.2.2.2.2))))),(x.2.2.1.2.1,(x.2.2.1.2.2.1,(x.2.2.1.2.2.2.1,(x.2.2.1.2.2.2.2.1,(x.2.2.1.2.2.2.2.2.1,x.2.2.1.2.2.2.2.2.2)))))),(x.2.2.2.1,x.2.2.2.2)))),g,(b++ ([((x.1.1.1,(x.1.1.2.1,(x.1.1.2.2.1,(x.1.1.2.2.2.1,(x.1.1.2.2.2.2.1,x.1.1.2.2.2.2.2))))),(x.1.2.1,(x.1.2.2.1,(x.1.2.2.2.1,(x.1.2.2.2.2.1,(x.1.2.2.2.2.2.1,x.1.2.2.2.2.2.2))))))]:List Z2)),c,())
 else
  k0 (p,f,r,g,b,())
def Ta(n:Nat)(d:gS×bZ×cn×uf×kj×Unit)(again:(gS×bZ×cn×uf×kj×Unit)->Option qL)(ks:(uf×kj×Unit->Option qL)×(um×Bool×Unit->Option qL)×Unit):Option qL:=
 match d,ks with
 | (last,p,e,r,b,_),(k0,k1,_)=>
 bif decide ((ea last:Int)>0)then
  (OZ n (p,e) last (ea b:Int)).bind λ x=>
  cq (Te n) n ((ea x:Int),0,p,e,r,b,([]:List Z2),x,())
   (λ(f,g,h,c,a,_)=>
    bif decide ((ea a:Int)>0)then
     (jk (ea c+ea ([a]:List gS))).bind λ k=>
     again (a,f,g,h,(c++ ([a]:List gS)),())
    else
     again (a,f,g,h,c,()),
   λ(i,j,_)=>
    k1 (i,j,()),())
 else
  k0 (r,b,())
def Qs(n:Nat)(p:bZ×cn)(start:Z1×Int×Int×Int×Int×Int×Int):Option qL:=
 (aG ([([((start.1.1,(start.1.2.1,(start.1.2.2.1,(start.1.2.2.2.1,(start.1.2.2.2.2.1,start.1.2.2.2.2.2))))),(start.2.1,(start.2.2.1,(start.2.2.2.1,(start.2.2.2.2.1,(start.2.2.2.2.2.1,start.2.2.2.2.2.2))))))]:List Z2)]:List gS) 0).bind λ e=>
 (aG ([([((start.1.1,(start.1.2.1,(start.1.2.2.1,(start.1.2.2.2.1,(start.1.2.2.2.2.1,start.1.2.2.2.2.2))))),(start.2.1,(start.2.2.1,(start.2.2.2.1,(start.2.2.2.2.1,(start.2.2.2.2.2.1,start.2.2.2.2.2.2))))))]:List Z2)]:List gS) 0).bind λ x=>
 cq (Ta n) n (x,p.1,p.2,(lz (Ty.f eB) ([]:List nk) ((start.1.1,(start.1.2.1,(start.1.2.2.1,(start.1.2.2.2.1,(start.1.2.2.2.2.1,start.1.2.2.2.2.2))))),(start.2.1,(start.2.2.1,(start.2.2.2.1,(start.2.2.2.2.1,(start.2.2.2.2.2.1,start.2.2.2.2.2.2)))))) (0,(((0,(0,(0,(0,(0,0))))),(0,(0,(0,(0,(0,0)))))),(0,0)))),([([((start.1.1,(start.1.2.1,(start.1.2.2.1,(start.1.2.2.2.1,(start.1.2.2.2.2.1,start.1.2.2.2.2.2))))),(start.2.1,(start.2.2.1,(start.2.2.2.1,(start.2.2.2.2.1,(start.2.2.2.2.2.1,start.2.2.2.2.2.2))))))]:List Z2)]:List gS),())
  (λ(a,b,_)=>
   some ((some (a,b)),true),
  λ(c,d,_)=>
   some (c,d),())
def Kp(n:Nat):aq:=(Q9 n).a 124 ⟨[qG,eB],[],[tZ,.aO],λ x y=>Qs n x.1 x.2,false⟩
theorem Lq(n:Nat):al Rs.FM.Q (Kp n):=gD Rs.FM (FF n) func124 (O:= [_]) ⟨B8 n (FF n) (eN 90 [(2,.v (.cu 90 0)),(6,.v (.cu 91 0)),aT 7 qZ] [(90,.cp qG [.aj dK,.aj fh]),(91,.cp xh [.iR 92,.iR 93]),(92,.tU eB Yl),(93,.jH qZ)]) [fq 0 90 [(6,.v (.cu 90 0))] [(90,.cp xh [.iR 91,.iR 92]),(91,.tU eB Yl),(92,.jH qZ)],fw 90 [aT 4 tZ,aT 5 .aO] []] (Ta n) (O:= [_]) ⟨gh n (FF n) (eN 90 [(2,.v (.cu 90 0)),(6,.v (.cu 91 0)),(8,.v (.iR 94)),(38,.v (.iR 95)),aT 39 Z0,aT 40 Z0] [(90,.cp qG [.aj dK,.aj fh]),(91,.cp xh [.iR 92,.iR 93]),(92,.tU eB Yl),(93,.jH qZ),(94,.jH eB),(95,.jH Iq)]) [fq 2 90 [(2,.v (.cu 90 0)),(6,.v (.cu 91 0)),(8,.v (.iR 94))] [(90,.cp qG [.aj dK,.aj fh]),(91,.cp xh [.iR 92,.iR 93]),(92,.tU eB Yl),(93,.jH qZ),(94,.jH eB)],fw 90 [aT 4 tZ,aT 5 .aO] []] (Te n),trivial⟩,trivial⟩
def B4(n:Nat)(d:AU×Int×Int×Int×Int×Int×Int×Int×Int×Int×Int×Int×Int×Int×Int×Unit)(again:(AU×Int×Int×Int×Int×Int×Int×Int×Int×Int×Int×Int×Int×Int×Int×Unit)->Option Bool)(ks:(Unit->Option Bool)×(Bool×Unit->Option Bool)×Unit):Option Bool:=
 match d,ks with
 | (t,g,a,h,i,l,m,o,p,q,r,s,v,j,k,_),(k0,k1,_)=>
 bif decide (a<g)then
  t.bind λ x=>
  (aG x.2.1.2.1 a).bind λ e=>
  (bI (e !=(-1)) t (([],[]),((([],[]),([],[])),((0,(0,(0,(0,(0,0))))),(0,(0,(0,(0,(0,0))))))))).bind λ y=>
  (bI (e !=(-1)) (aG y.2.1.2.1 a) 0).bind λ b=>
  (bI (e !=(-1)) (cQ a 6) ()).bind λ u=>
  (bI (e !=(-1)) (aG [h,i,l,m,o,p] a) 0).bind λ c=>
  (bI (!((e !=(-1))&& (b !=c))) t (([],[]),((([],[]),([],[])),((0,(0,(0,(0,(0,0))))),(0,(0,(0,(0,(0,0))))))))).bind λ z=>
  (bI (!((e !=(-1))&& (b !=c))) (aG z.2.1.2.2 a) 0).bind λ f=>
  (bI ((!((e !=(-1))&& (b !=c)))&& (f !=0)) t (([],[]),((([],[]),([],[])),((0,(0,(0,(0,(0,0))))),(0,(0,(0,(0,(0,0))))))))).bind λ A=>
  (bI ((!((e !=(-1))&& (b !=c)))&& (f !=0)) (aG A.2.1.2.2 a) 0).bind λ w=>
  (bI ((!((e !=(-1))&& (b !=c)))&& (f !=0)) (cQ a 6) ()).bind λ C=>
  (bI ((!((e !=(-1))&& (b !=c)))&& (f !=0)) (aG [q,r,s,v,j,k] a) 0).bind λ B=>
  bif ((e !=(-1))&& (b !=c))|| ((f !=0)&& (w !=B))then
   k1 (false,())
  else
   again (t,g,(b2 .i64 (a+1)),h,i,l,m,o,p,q,r,s,v,j,k,())
 else
  k0 (())
def ud(n:Nat)(t:Option EF)(a:Z1×Int×Int×Int×Int×Int×Int):Option Bool:=
 t.bind λ x=>
 cq (B4 n) n (t,(ea x.1.1:Int),0,a.1.1,a.1.2.1,a.1.2.2.1,a.1.2.2.2.1,a.1.2.2.2.2.1,a.1.2.2.2.2.2,a.2.1,a.2.2.1,a.2.2.2.1,a.2.2.2.2.1,a.2.2.2.2.2.1,a.2.2.2.2.2.2,())
  (λ(_)=>
   some (true),
  λ(b,_)=>
   some (b),())
def SO(n:Nat):aq:=(Kp n).a 92 ⟨[xR,eB],[],[.aO],λ x y=>ud n x.1 x.2,false⟩
theorem L0(n:Nat):al Rs.FM.Q (SO n):=gD Rs.FM (Lq n) func92 (O:= [_]) ⟨gh n (Lq n) (eN 67 [aT 0 xR,(3,.v (.cu 67 0)),aT 12 Z0,aT 13 Z0] [(67,.cp eB [.aj Z0,.aj Z0,.aj Z0,.aj Z0,.aj Z0,.aj Z0,.aj Z0,.aj Z0,.aj Z0,.aj Z0,.aj Z0,.aj Z0])]) [fq 0 67 [] [],fw 67 [aT 4 .aO] []] (B4 n),trivial⟩
def N8(n:Nat)(d:gS×(Z2->Option Bool)×Int×Int×Unit)(again:(gS×(Z2->Option Bool)×Int×Int×Unit)->Option Int)(ks:(Unit->Option Int)×(Int×Unit->Option Int)×Unit):Option Int:=
 match d,ks with
 | (s,f,b,a,_),(k0,k1,_)=>
 bif decide (a<b)then
  (aG s a).bind λ e=>
  (f e).bind λ x=>
  bif x then
   k1 (a,())
  else
   again (s,f,b,(b2 .i64 (a+1)),())
 else
  k0 (())
def Pg(n:Nat)(s:List Z2)(f:Z2->Option Bool):Option Int:=
 cq (N8 n) n (s,f,(ea s:Int),0,())
  (λ(_)=>
   some ((-1)),
  λ(a,_)=>
   some (a),())
def Ti(n:Nat):aq:=(SO n).a 141 ⟨[qZ,Fp],[],[Z0],λ x y=>Pg n x.1 x.2,false⟩
theorem M7(n:Nat):al Rs.FM.Q (Ti n):=gD Rs.FM (L0 n) func141 (O:= [_]) ⟨gh n (L0 n) (eN 19 [aT 0 qZ,aT 1 Fp,aT 7 Z0,aT 8 Z0] []) [fq 0 19 [] [],fw 19 [aT 4 Z0] []] (N8 n),trivial⟩
def T6(n:Nat)(d:AU×um×kj×Int×Int×Int×Int×Int×Int×Int×Int×Int×Int×Int×Int×Int×Int×Unit)(again:(AU×um×kj×Int×Int×Int×Int×Int×Int×Int×Int×Int×Int×Int×Int×Int×Int×Unit)->Option Ah)(ks:(Int×Int×Int×Int×Int×Int×Int×Int×Int×Int×Int×Int×Unit->Option Ah)×(um×Int×Int×Int×Int×Int×Int×Int×Int×Int×Int×Int×Int×Int×Unit->Option Ah)×Unit):Option Ah:=
 match d,ks with
 | (t,r,c,f,b,g,h,k,l,m,o,p,q,s,u,i,j,_),(k0,k1,_)=>
 bif decide (b<f)then
  (aG c b).bind λ e=>
  (Pg n e (λ v=>ud n t v)).bind λ x=>
  bif decide (x>=0)then
   (aG e x).bind λ a=>
   k1 (r,0,a.1.1,a.1.2.1,a.1.2.2.1,a.1.2.2.2.1,a.1.2.2.2.2.1,a.1.2.2.2.2.2,a.2.1,a.2.2.1,a.2.2.2.1,a.2.2.2.2.1,a.2.2.2.2.2.1,a.2.2.2.2.2.2,())
  else
   again (t,r,c,f,(b2 .i64 (b+1)),g,h,k,l,m,o,p,q,s,u,i,j,())
 else
  k0 (g,h,k,l,m,o,p,q,s,u,i,j,())
def Qu(n:Nat)(t:Option EF):Option Ah:=
 t.bind λ x=>
 t.bind λ r=>
 (Qs n x.1 r.2.2).bind λ a=>
 bif !a.2 then
  some ((none:Option EC),((0,(0,(0,(0,(0,0))))),(0,(0,(0,(0,(0,0)))))),8)
 else
  a.1.bind λ b=>
  cq (T6 n) n (t,a.1,b.2,(ea b.2:Int),0,0,0,0,0,0,0,0,0,0,0,0,0,())
   (λ(s,u,v,w,y,z,A,B,C,D,E,F,_)=>
    some ((none:Option EC),((0,(0,(0,(0,(0,0))))),(0,(0,(0,(0,(0,0)))))),12),
   λ(c,q,d,e,f,g,h,i,j,k,l,m,o,p,_)=>
    some (c,((d,(e,(f,(g,(h,i))))),(j,(k,(l,(m,(o,p)))))),q),())
def Nq(n:Nat):aq:=(Ti n).a 113 ⟨[xR],[],[tZ,eB,Z0],λ x y=>Qu n x,false⟩
theorem h34(n:Nat):al Rs.FM.Q (Nq n):=gD Rs.FM (M7 n) func113 (O:= [_]) ⟨gh n (M7 n) (eN 47 [aT 0 xR,(3,.v (.cu 47 0)),aT 5 tZ,aT 28 JO,aT 29 Z0,aT 30 Z0] [(47,.cp eB [.aj Z0,.aj Z0,.aj Z0,.aj Z0,.aj Z0,.aj Z0,.aj Z0,.aj Z0,.aj Z0,.aj Z0,.aj Z0,.aj Z0])]) [fq 0 47 [(3,.v (.cu 47 0))] [(47,.cp eB [.aj Z0,.aj Z0,.aj Z0,.aj Z0,.aj Z0,.aj Z0,.aj Z0,.aj Z0,.aj Z0,.aj Z0,.aj Z0,.aj Z0])],fw 47 [aT 2 tZ,(3,.v (.cu 47 0)),aT 4 Z0] [(47,.cp eB [.aj Z0,.aj Z0,.aj Z0,.aj Z0,.aj Z0,.aj Z0,.aj Z0,.aj Z0,.aj Z0,.aj Z0,.aj Z0,.aj Z0])]] (T6 n),trivial⟩
def OD(n:Nat)(p:bZ×cn)(t:EM×BW×BW):Option Z9:=
 (vm n (p.1,p.2) ((t.1.1,t.1.2),(t.2.1,t.2.2))).bind λ x=>
 bif x.2 !=0 then
  some (0,x.2)
 else
  (Qu n x.1).bind λ a=>
  bif a.2.2 !=0 then
   some (0,a.2.2)
  else
   a.1.bind λ b=>
   some ((Option.getD (j4 (Ty.f eB) b.1 ((a.2.1.1.1,(a.2.1.1.2.1,(a.2.1.1.2.2.1,(a.2.1.1.2.2.2.1,(a.2.1.1.2.2.2.2.1,a.2.1.1.2.2.2.2.2))))),(a.2.1.2.1,(a.2.1.2.2.1,(a.2.1.2.2.2.1,(a.2.1.2.2.2.2.1,(a.2.1.2.2.2.2.2.1,a.2.1.2.2.2.2.2.2))))))) (0,(((0,(0,(0,(0,(0,0))))),(0,(0,(0,(0,(0,0)))))),(0,0)))).1,0)
def Nb(n:Nat):aq:=(Nq n).a 56 ⟨[qG,uy],[],[Z0,Z0],λ x y=>OD n x.1 x.2,false⟩
theorem Zs(n:Nat):al Rs.FM.Q (Nb n):=dw Rs.FM (h34 n) func56
def Tt(n:Nat)(b:Int)(a:bZ×cn):Option Bool:=
 (mZ n a).bind λ x=>
 (pX n b 0 (b2 .i64 (x- 1))).bind λ c=>
 some c
def Ri(n:Nat):aq:=(Nb n).a 98 ⟨[Z0],[qG],[.aO],λ x y=>Tt n x y,false⟩
theorem Kj(n:Nat):al Rs.FM.Q (Ri n):=dw Rs.FM (Zs n) func98
def Lg(n:Nat)(d:pR×(Int->Option Bool)×(List Cu)×Int×Int×bZ×cn×BW×BW×Int×Int×Int×Int×Int×Int×Int×Int×Int×Int×Int×Int×Unit)(again:(pR×(Int->Option Bool)×(List Cu)×Int×Int×bZ×cn×BW×BW×Int×Int×Int×Int×Int×Int×Int×Int×Int×Int×Int×Int×Unit)->Option zp)(ks:(pR×BW×BW×Int×Int×Int×Int×Int×Int×Int×Int×Int×Int×Int×Int×Unit->Option zp)×(Int×Unit->Option zp)×Unit):Option zp:=
 match d,ks with
 | (B,v,z,A,w,p,D,s,y,f,g,h,i,j,k,o,q,r,t,l,m,_),(k0,k1,_)=>
 bif decide (w<A)then
  (aG z w).bind λ e=>
  (v e.1).bind λ x=>
  (bI x (v e.2.1) false).bind λ H=>
  (gk n (x&&H) 6).bind λ N=>
  (gk n (e.1 !=e.2.1) 11).bind λ O=>
  (EJ n e.2.2).bind λ P=>
  (gk n P 2).bind λ Q=>
  (ko n ([N,O,Q]:List Int)).bind λ F=>
  bif F !=0 then
   k1 (F,())
  else
   (cQ e.1 6).bind λ u=>
   (aG [o,q,r,t,l,m] e.1).bind λ c=>
   (cQ e.1 6).bind λ T=>
   (aG [f,g,h,i,j,k] e.1).bind λ R=>
   (gk n (decide (R>=e.2.2)) 12).bind λ S=>
   (cQ e.2.1 6).bind λ W=>
   (aG [f,g,h,i,j,k] e.2.1).bind λ I=>
   (aG p e.2.1).bind λ G=>
   (gk n (decide ((b2 .i64 (I+e.2.2))<=G.2)) 16).bind λ J=>
   (cQ e.2.1 6).bind λ X=>
   (aG [o,q,r,t,l,m] e.2.1).bind λ C=>
   (bI (!(C==0)) (cQ e.2.1 6) ()).bind λ Y=>
   (bI (!(C==0)) (aG [o,q,r,t,l,m] e.2.1) 0).bind λ K=>
   (gk n ((C==0)|| (K==c)) 13).bind λ L=>
   (ko n ([S,J,L]:List Int)).bind λ E=>
   bif E !=0 then
    k1 (E,())
   else
    (cQ e.1 6).bind λ Z=>
    (aG [f,g,h,i,j,k] e.1).bind λ a=>
    (cQ e.1 6).bind λ aa=>
    (cQ e.2.1 6).bind λ ab=>
    (aG [(bif decide (e.1=0)then(b2 .i64 (a- e.2.2))else f),(bif decide (e.1=1)then(b2 .i64 (a- e.2.2))else g),(bif decide (e.1=2)then(b2 .i64 (a- e.2.2))else h),(bif decide (e.1=3)then(b2 .i64 (a- e.2.2))else i),(bif decide (e.1=4)then(b2 .i64 (a- e.2.2))else j),(bif decide (e.1=5)then(b2 .i64 (a- e.2.2))else k)] e.2.1).bind λ b=>
    (cQ e.2.1 6).bind λ ac=>
    (cQ e.2.1 6).bind λ ad=>
    (cQ e.1 6).bind λ U=>
    (aG [(bif decide (e.2.1=0)then(b2 .i64 (b+e.2.2))else(bif decide (e.1=0)then(b2 .i64 (a- e.2.2))else f)),(bif decide (e.2.1=1)then(b2 .i64 (b+e.2.2))else(bif decide (e.1=1)then(b2 .i64 (a- e.2.2))else g)),(bif decide (e.2.1=2)then(b2 .i64 (b+e.2.2))else(bif decide (e.1=2)then(b2 .i64 (a- e.2.2))else h)),(bif decide (e.2.1=3)then(b2 .i64 (b+e.2.2))else(bif decide (e.1=3)then(b2 .i64 (a- e.2.2))else i)),(bif decide (e.2.1=4)then(b2 .i64 (b+e.2.2))else(bif decide (e.1=4)then(b2 .i64 (a- e.2.2))else j)),(bif decide (e.2.1=5)then(b2 .i64 (b+e.2.2))else(bif decide (e.1=5)then(b2 .i64 (a- e.2.2))else k))] e.1).bind λ M=>
    bif M==0 then
     (cQ e.1 6).bind λ V=>
     again (B,v,z,A,(b2 .i64 (w+1)),p,D,s,y,(bif decide (e.2.1=0)then(b2 .i64 (b+e.2.2))else(bif decide (e.1=0)then(b2 .i64 (a- e.2.2))else f)),(bif decide (e.2.1=1)then(b2 .i64 (b+e.2.2))else(bif decide (e.1=1)then(b2 .i64 (a- e.2.2))else g)),(bif decide (e.2.1=2)then(b2 .i64 (b+e.2.2))else(bif decide (e.1=2)then(b2 .i64 (a- e.2.2))else h)),(bif decide (e.2.1=3)then(b2 .i64 (b+e.2.2))else(bif decide (e.1=3)then(b2 .i64 (a- e.2.2))else i)),(bif decide (e.2.1=4)then(b2 .i64 (b+e.2.2))else(bif decide (e.1=4)then(b2 .i64 (a- e.2.2))else j)),(bif decide (e.2.1=5)then(b2 .i64 (b+e.2.2))else(bif decide (e.1=5)then(b2 .i64 (a- e.2.2))else k)),(bif decide (e.1=0)then 0 else(bif decide (e.2.1=0)then c else o)),(bif decide (e.1=1)then 0 else(bif decide (e.2.1=1)then c else q)),(bif decide (e.1=2)then 0 else(bif decide (e.2.1=2)then c else r)),(bif decide (e.1=3)then 0 else(bif decide (e.2.1=3)then c else t)),(bif decide (e.1=4)then 0 else(bif decide (e.2.1=4)then c else l)),(bif decide (e.1=5)then 0 else(bif decide (e.2.1=5)then c else m)),())
    else
     again (B,v,z,A,(b2 .i64 (w+1)),p,D,s,y,(bif decide (e.2.1=0)then(b2 .i64 (b+e.2.2))else(bif decide (e.1=0)then(b2 .i64 (a- e.2.2))else f)),(bif decide (e.2.1=1)then(b2 .i64 (b+e.2.2))else(bif decide (e.1=1)then(b2 .i64 (a- e.2.2))else g)),(bif decide (e.2.1=2)then(b2 .i64 (b+e.2.2))else(bif decide (e.1=2)then(b2 .i64 (a- e.2.2))else h)),(bif decide (e.2.1=3)then(b2 .i64 (b+e.2.2))else(bif decide (e.1=3)then(b2 .i64 (a- e.2.2))else i)),(bif decide (e.2.1=4)then(b2 .i64 (b+e.2.2))else(bif decide (e.1=4)then(b2 .i64 (a- e.2.2))else j)),(bif decide (e.2.1=5)then(b2 .i64 (b+e.2.2))else(bif decide (e.1=5)then(b2 .i64 (a- e.2.2))else k)),(bif decide (e.2.1=0)then c else o),(bif decide (e.2.1=1)then c else q),(bif decide (e.2.1=2)then c else r),(bif decide (e.2.1=3)then c else t),(bif decide (e.2.1=4)then c else l),(bif decide (e.2.1=5)then c else m),())
 else
  k0 (B,s,y,f,g,h,i,j,k,o,q,r,t,l,m,())
def P6(n:Nat)(p:bZ×cn)(s:BW×BW)(l:List Cu):Option zp:=
 (Ij n (p.1,p.2) (s.1,s.2)).bind λ x=>
 (gk n (decide ((ea l:Int)<=20)) 8).bind λ y=>
 (ko n ([x.2.2,y]:List Int)).bind λ b=>
 bif b !=0 then
  some (((([]:List Int),([]:List Int)),(([]:List Int),([]:List Int))),b)
 else
  cq (Lg n) n ((x.1.1,x.1.2),(λ C=>Tt n C (x.1.1,x.1.2)),l,(ea l:Int),0,p.1,p.2,s.1,s.2,x.2.1.1.1,x.2.1.1.2.1,x.2.1.1.2.2.1,x.2.1.1.2.2.2.1,x.2.1.1.2.2.2.2.1,x.2.1.1.2.2.2.2.2,x.2.1.2.1,x.2.1.2.2.1,x.2.1.2.2.2.1,x.2.1.2.2.2.2.1,x.2.1.2.2.2.2.2.1,x.2.1.2.2.2.2.2.2,())
   (λ(a,e,f,h,i,j,k,m,o,q,r,t,u,v,w,_)=>
    (mZ n a).bind λ z=>
    (yw n ((h,(i,(j,(k,(m,o))))),(q,(r,(t,(u,(v,w)))))) z).bind λ c=>
    (tj n (e,f)).bind λ A=>
    (mZ n a).bind λ B=>
    (yw n A B).bind λ d=>
    some (((d.1,d.2),(c.1,c.2)),0),
   λ(g,_)=>
    some (((([]:List Int),([]:List Int)),(([]:List Int),([]:List Int))),g),())
def NF(n:Nat):aq:=(Ri n).a 29 ⟨[qG,cN,(.aH Z4)],[],[uy,Z0],λ x y=>P6 n x.1 x.2.1 x.2.2,false⟩
theorem VK(n:Nat):al Rs.FM.Q (NF n):=gD Rs.FM (Kj n) func29 (O:= [_]) ⟨gh n (Kj n) (eN 173 [(3,.v (.cu 173 0)),(4,.v (.cu 174 0)),(6,.v (.cu 175 0)),(8,.v (.pp qG)),(9,.v (.cu 176 0)),aT 11 (.dP Z0 .aO),aT 37 (.aH Z4),aT 38 Z0,aT 39 Z0] [(173,.cp qG [.aj dK,.aj fh]),(174,.cp cN [.aj Z8,.aj Z8]),(175,.cp uy [.j6,.j6,.j6,.j6]),(176,.cp eB [.aj Z0,.aj Z0,.aj Z0,.aj Z0,.aj Z0,.aj Z0,.aj Z0,.aj Z0,.aj Z0,.aj Z0,.aj Z0,.aj Z0])]) [fq 0 173 [(4,.v (.cu 173 0)),(6,.v (.cu 174 0)),(8,.v (.pp qG)),(9,.v (.cu 175 0))] [(173,.cp cN [.aj Z8,.aj Z8]),(174,.cp uy [.j6,.j6,.j6,.j6]),(175,.cp eB [.aj Z0,.aj Z0,.aj Z0,.aj Z0,.aj Z0,.aj Z0,.aj Z0,.aj Z0,.aj Z0,.aj Z0,.aj Z0,.aj Z0])],fw 173 [(6,.v (.cu 173 0)),aT 7 Z0] [(173,.cp uy [.j6,.j6,.j6,.j6])]] (Lg n),trivial⟩
def Tn(n:Nat):aq:=(NF n).a 157 (M6 n)
theorem h38(n:Nat):al Rs.FM.Q (Tn n):=mN (VK n) (aeb n)
def Nh(n:Nat):aq:=(Tn n).a 184 (T7 n)
theorem h39(n:Nat):al Rs.FM.Q (Nh n):=mN (h38 n) (abx n)
def Gi(n:Nat)(s:List UInt8)(a:List UInt8):Option Int:=
 (BL n s a).bind λ x=>
 some x
def pf(n:Nat):aq:=(Nh n).a 158 ⟨[.aJ,.aJ],[],[Z0],λ x y=>Gi n x.1 x.2,false⟩
theorem El(n:Nat):al Rs.FM.Q (pf n):=dw Rs.FM (h39 n) func158
def Is(n:Nat)(d:dy×Unit)(again:(dy×Unit)->Option qE)(ks:(Unit->Option qE)×(Unit->Option qE)×Unit):Option qE:=
 match d,ks with
 | (a,_),(k0,k1,_)=>
 bif decide ((ea a:Int)>0)then
  (KJ n a).bind λ x=>
  (iB a 0 x.2).bind λ b=>
  tG (α:=dy) b (
   (iB a x.2 (ea a:Int)).bind λ c=>
   again (c,())
   ) (
    k1 (())
   )
 else
  k0 (())
def Gy(n:Nat)(d:dy×dy×Int×Unit)(again:(dy×dy×Int×Unit)->Option qE)(ks:(dy×Unit->Option qE)×(Unit->Option qE)×Unit):Option qE:=
 match d,ks with
 | (b,a,c,_),(k0,k1,_)=>
 (Gi n a b).bind λ x=>
 bif decide (x<0)then
  k0 (a,())
 else
  (iB a 0 (b2 .i64 (x+c))).bind λ e=>
  tG (α:=dy) e (
   (iB a (b2 .i64 (x+ (ea b:Int))) (ea a:Int)).bind λ f=>
   again (b,f,c,())
   ) (
    k1 (())
   )
def Nc(n:Nat)(a:List UInt8)(c1:List UInt8)(c2:Int):Option qE:=
 bif (ea a:Int)==0 then
  cq (Is n) n (c1,())
   (λ(_)=>
    some [],
   λ(_)=>
    some [],())
 else
  cq (Gy n) n (a,c1,c2,())
   (λ(b,_)=>
    tG (α:=dy) b (
     some []
     ) (
      some []
     ),
   λ(_)=>
    some [],())
def IX:cf:= ⟨52,[.aJ],[(0,.v (.sZ)),(2,.v (.cu 52 0))],[(52,.cp .aJ [.aj .aJ])],[]⟩
def Td:List (dN×cf):= [(.ou 0,⟨52,[],[],[],[]⟩),(.sT,⟨52,[],[],[],[]⟩)]
def I4(n:Nat):Ev (List (ax [.aJ])):=mG n (pf n) IX Td (Is n)
theorem UM(n:Nat)(d)(again)(ks):dv (R:=(List (ax [.aJ]))) (pf n) (jP [.aJ]) (iw (lp (bd fH) 0)) [] (mk IX d) (mL (pf n) IX Td again ks)=Is n d again ks:=by kernel_rfl
theorem aeA(n:Nat):eS Rs.FM.Q (jP [.aJ]) false (lp (bd fH) 0) (I4 n):=rk (El n) Rs.FM.b (by kernel_rfl) (O:= []) trivial (UM n)
def Ip:cf:= ⟨52,[.aJ,.aJ,Z0],[(0,.v (.sZ)),(1,.v (.cu 52 0)),(2,.v (.cu 53 0)),(3,.v (.cu 54 0))],[(52,.cp .aJ [.aj .aJ]),(53,.cp .aJ [.aj .aJ]),(54,.cp Z0 [.aj Z0])],[]⟩
def Pn:List (dN×cf):= [(.ou 2,⟨52,[.aJ],[(0,.v (.sZ)),(2,.v (.cu 52 0))],[(52,.cp .aJ [.aj .aJ])],[]⟩),(.sT,⟨52,[],[],[],[]⟩)]
def HL(n:Nat):Ev (List (ax [.aJ])):=mG n (pf n) Ip Pn (Gy n)
theorem ahD(n:Nat)(d)(again)(ks):dv (R:=(List (ax [.aJ]))) (pf n) (jP [.aJ]) (iw (lp (bd fH) 1)) [] (mk Ip d) (mL (pf n) Ip Pn again ks)=Gy n d again ks:=by kernel_rfl
theorem af6(n:Nat):eS Rs.FM.Q (jP [.aJ]) false (lp (bd fH) 1) (HL n):=rk (El n) Rs.FM.b (by kernel_rfl) (O:= []) trivial (ahD n)
def aeW(e:List UInt8)(c1:List UInt8)(c2:Int):au:={N:=52,d:= [],a:=(0,⟨[],true,.v .ku⟩):: [(1,⟨[],true,.v (.dx 0 0 0)⟩),(2,⟨[],true,.v (.dx 1 0 0)⟩),(3,⟨[],true,.v (.dx 2 0 0)⟩)],b:= [(0,(0,.eu .aJ [.aE .aJ e])),(1,(0,.eu .aJ [.aE .aJ c1])),(2,(0,.eu Z0 [.aE Z0 c2]))],c:= []}
theorem aeY(n:Nat)(a:List UInt8)(c1:List UInt8)(c2:Int):dv (R:=(List (ax [.aJ]))) (pf n) (jP [.aJ]) (bd fH) [I4 n,HL n] (aeW a c1 c2) Cb=Nc n a c1 c2:=by kernel_rfl
theorem ahS(n:Nat):eS Rs.FM.Q (jP [.aJ]) false (bd fH) (dv (R:=(List (ax [.aJ]))) (pf n) (jP [.aJ]) (bd fH) [I4 n,HL n]):=ji (El n) Rs.FM.b _ _ (my ⟨aeA n,af6 n,trivial⟩)
def HO(n:Nat)(s t:List UInt8):Option qJ:=Nc n t s 0
theorem YH(n:Nat):Ej Rs.FM.Q 115 .aJ (HO n):=ZA (ahS n) λ s t=>aeY n t s 0
def Pp(n:Nat):aq:=pf n
theorem h41(n:Nat):al Rs.FM.Q (Pp n):=El n
def MB(n:Nat):aq:=(Pp n).a 159 (Ps n)
theorem h42(n:Nat):al Rs.FM.Q (MB n):=mN (h41 n) (ahr n)
def Pa(n:Nat):aq:=(MB n).a 160 (QB n)
theorem TY(n:Nat):al Rs.FM.Q (Pa n):=mN (h42 n) (aeV n)
def Fw(n:Nat)(d:dy×dy×Int×Int×Int×qJ×Unit)(again:(dy×dy×Int×Int×Int×qJ×Unit)->Option qJ)(ks:(dy×Int×qJ×Unit->Option qJ)×Unit):Option qJ:=
 match d,ks with
 | (s,sep,b,c,i,a,_),(k0,_)=>
 bif decide (i<c)then
  (Gi n s sep).bind λ x=>
  bif decide (x<0)then
   k0 (s,i,a,())
  else
   (iB s 0 (b2 .i64 (x+b))).bind λ f=>
   (aG a i).bind λ e=>
   (tD a i f).bind λ l=>
   (iB s (b2 .i64 (x+ (ea sep:Int))) (ea s:Int)).bind λ g=>
   again (g,sep,b,c,(b2 .i64 (i+1)),l,())
 else
  k0 (s,i,a,())
def MC(n:Nat)(s:List UInt8)(sep:List UInt8)(g:Int)(a:Int):Option qJ:=
 bif a==0 then
  some (([]:List dy))
 else
  bif (sep:List UInt8)== []then
   (TI n s a).bind λ x=>
   some x
  else
   bif decide (a<0)then
    (Bp n s sep).bind λ d=>
    (CO (bu (b2 .i64 (d+1)) (b2 .i64 ((ea s:Int)+1)))).bind λ u=>
    cq (Fw n) n (s,sep,g,(b2 .i64 ((bu (b2 .i64 (d+1)) (b2 .i64 ((ea s:Int)+1)))- 1)),0,(en (fl (bu (b2 .i64 (d+1)) (b2 .i64 ((ea s:Int)+1)))) []),())
     (λ(j,b,e,_)=>
      (aG e b).bind λ o=>
      (tD e b j).bind λ h=>
      (iB h 0 (b2 .i64 (b+1))).bind λ l=>
      some (l),())
   else
    (CO (bu a (b2 .i64 ((ea s:Int)+1)))).bind λ q=>
    cq (Fw n) n (s,sep,g,(b2 .i64 ((bu a (b2 .i64 ((ea s:Int)+1)))- 1)),0,(en (fl (bu a (b2 .i64 ((ea s:Int)+1)))) []),())
     (λ(k,c,f,_)=>
      (aG f c).bind λ p=>
      (tD f c k).bind λ i=>
      (iB i 0 (b2 .i64 (c+1))).bind λ m=>
      some (m),())
def M3(n:Nat):aq:=(Pa n).a 146 ⟨[.aJ,.aJ,Z0,Z0],[],[Fc],λ x y=>MC n x.1 x.2.1 x.2.2.1 x.2.2.2,false⟩
theorem h44(n:Nat):al Rs.FM.Q (M3 n):=gD Rs.FM (TY n) func146 (O:= [_]) ⟨gh n (TY n) (eN 66 [aT 0 .aJ,aT 1 .aJ,aT 2 Z0,aT 3 Z0,(9,.v (.iR 66)),aT 10 Z0] [(66,.jH .aJ)]) [fq 0 66 [aT 0 .aJ,(9,.v (.iR 66)),aT 10 Z0] [(66,.jH .aJ)]] (Fw n),trivial⟩
def Qd(n:Nat)(s:List UInt8)(sep:List UInt8):Option qJ:=
 (MC n s sep 0 (-1)).bind λ x=>
 some x
def qA(n:Nat):aq:=(M3 n).a 116 ⟨[.aJ,.aJ],[],[Fc],λ x y=>Qd n x.1 x.2,false⟩
theorem HN(n:Nat):al Rs.FM.Q (qA n):=dw Rs.FM (h44 n) func116
def BN(n:Nat)(d:bZ×cn×Int×cn×Bool×Unit)(y:List UInt8)(again:(bZ×cn×Int×cn×Bool×Unit)->Option Bu)(ks:(Int×Unit->Option Bu)×Unit):Option Bu:=
 match d,ks with
 | (p,h,i,out,missing,_),(k0,_)=>
 (Qd n y [32]).bind λ x=>
 (bI (!((ea x:Int) !=2)) (aG x 0) []).bind λ e=>
 (bI (!(((ea x:Int) !=2)|| ((e:List UInt8)== []))) (aG x 1) []).bind λ c=>
 bif (((ea x:Int) !=2)|| ((e:List UInt8)== []))|| ((c:List UInt8)== [])then
  k0 (7,())
 else
  (aG x 0).bind λ f=>
  (vV n p f).bind λ a=>
  (aG x 1).bind λ g=>
  (vV n p g).bind λ b=>
  (jk (ea out+ea ([(a,b)]:List Z9))).bind λ u=>
  again (p,h,i,(out++ ([(a,b)]:List Z9)),((missing|| (decide (a<0)))|| (decide (b<0))),())
def LL(n:Nat)(p:bZ×cn)(s:List UInt8):Option Bu:=
 (tx n (p.1,p.2)).bind λ x=>
 bif x.2 !=0 then
  some (([]:List Z9),x.2)
 else
  bif (s:List UInt8)== []then
   some (([]:List Z9),0)
  else
   (HO n s [59]).bind λ xs=>
   la (BN n) (λ(c,_)=>
    some (([]:List Z9),c),()) (λ(d,e,f,b,a,_)=>
    bif a then
     some (([]:List Z9),6)
    else
     some (b,0)) xs (p.1,p.2,0,([]:List Z9),false,())
def uc:cf:= ⟨73,[dK,fh,Z0,fh,.aO],[(2,.v (.cu 73 0)),(4,.v (.cu 74 0)),(5,.v (.cu 75 0)),(8,.v (.cu 76 0)),(9,.v (.cu 78 0))],[(73,.cp qG [.aj dK,.aj fh]),(74,.cp fh [.j6]),(75,.cp Z0 [.aj Z0]),(76,.cp fh [.iR 77]),(77,.jH Z3),(78,.cp .aO [.aj .aO])],[]⟩
def Gr:List (dN×cf):= [(.sT,⟨73,[Z0],[(4,.v (.cu 73 0)),(5,.v (.cu 74 0))],[(73,.cp fh [.j6]),(74,.cp Z0 [.aj Z0])],[]⟩)]
theorem aaS(n:Nat)(d)(x)(again)(ks):dv (R:=(ax [fh,Z0])) (qA n) (bT.b (R:=(ax [fh,Z0]))) (D8 (pE 5 (bd f58))) [] (yO uc [2,4,5,8,9] [25] [.aJ] d x) (tH λ st=>dv (R:=(ax [fh,Z0])) (qA n) (bT.b (R:=(ax [fh,Z0]))) (Dt (pE 5 (bd f58))) [] st (wR (qA n) uc [2,4,5,8,9] Gr again ks))=BN n d x again ks:=by kernel_rfl
def JN(n:Nat):fc:= ⟨[qG,.aJ],[],[fh,Z0],λ x y=>LL n x.1 x.2,false⟩
theorem XJ:CD 1 23 24 115 0 25 [59] (pE 5 (bd f58))=true:=by kernel_rfl
theorem WE(n:Nat):qp (R:=(ax [fh,Z0])) Rs.FM.Q (qA n) [.aJ] [25] (D8 (pE 5 (bd f58))) (Dt (pE 5 (bd f58))) [] [] uc [2,4,5,8,9] Gr (BN n):=ab1 (HN n) Rs.FM.b rfl (by decide) (by decide) rfl trivial trivial (aaS n)
theorem abU(d:cR uc.b)(k:Nat)(sl:fX)(h:Map.av (mk uc d).a k=some sl):k≠23/\k≠24:=U7 (T:=uc) (by kernel_rfl) d k sl h
theorem aet(n:Nat)(x:ax [qG,.aJ])(y:ax []):(xP (qA n) (bT.b (R:=(ax [fh,Z0]))) (Eu (qA n) .aJ (.tmp 1) (λ s=>HO n s [59]) uc Gr (BN n) 0) 5 (bd f58)) (uN f58.ntmps [qG,.aJ] [] x y) (xj (qA n) false f58.results.toList [fh,Z0])=(JN n).g x y:=by kernel_rfl
theorem Zf(n:Nat):jf Rs.FM.Q 58 (JN n):=ZQ (HN n) Rs.FM.b (Rs.FM.a func58 (by kernel_rfl) (by decide)) (by kernel_rfl) (by kernel_rfl) (by kernel_rfl) (YH n) XJ (by kernel_rfl) (by decide) (by decide) (by decide) (WE n) abU (aet n)
def Rl(n:Nat):aq:=(qA n).a 58 (JN n)
theorem Tq(n:Nat):al Rs.FM.Q (Rl n):=mN (HN n) (Zf n)
def Pu(n:Nat)(d:BW×BW×Int×Unit)(again:(BW×BW×Int×Unit)->Option Bool)(ks:(Unit->Option Bool)×(Bool×Unit->Option Bool)×Unit):Option Bool:=
 match d,ks with
 | (a,b,i,_),(k0,k1,_)=>
 bif decide (i< (ea a:Int))then
  (aG a i).bind λ e=>
  (aG b i).bind λ c=>
  bif e !=c then
   k1 (false,())
  else
   again (a,b,(b2 .i64 (i+1)),())
 else
  k0 (())
def zL(n:Nat)(a:List Int)(b:List Int):Option Bool:=
 bif (ea a:Int) !=(ea b:Int)then
  some false
 else
  cq (Pu n) n (a,b,0,())
   (λ(_)=>
    some (true),
   λ(c,_)=>
    some (c),())
def Mb(n:Nat):aq:=(Rl n).a 82 ⟨[Z8,Z8],[],[.aO],λ x y=>zL n x.1 x.2,false⟩
theorem h47(n:Nat):al Rs.FM.Q (Mb n):=gD Rs.FM (Tq n) func82 (O:= [_]) ⟨gh n (Tq n) (eN 26 [aT 0 Z8,aT 1 Z8,aT 5 Z0] []) [fq 0 26 [] [],fw 26 [aT 4 .aO] []] (Pu n),trivial⟩
def Mn(n:Nat)(a:BW×BW)(b:BW×BW):Option Bool:=
 (zL n a.1 b.1).bind λ x=>
 (bI x (zL n a.2 b.2) false).bind λ c=>
 some ((x&&c))
def P3(n:Nat):aq:=(Mb n).a 41 ⟨[cN,cN],[],[.aO],λ x y=>Mn n x.1 x.2,false⟩
theorem OJ(n:Nat):al Rs.FM.Q (P3 n):=dw Rs.FM (h47 n) func41
def Sk(n:Nat)(d:cn×cn×Int×Unit)(again:(cn×cn×Int×Unit)->Option Bool)(ks:(Unit->Option Bool)×(Bool×Unit->Option Bool)×Unit):Option Bool:=
 match d,ks with
 | (a,b,i,_),(k0,k1,_)=>
 bif decide (i< (ea a:Int))then
  (aG a i).bind λ e=>
  (aG b i).bind λ c=>
  bif !((e.1==c.1)&& (e.2==c.2))then
   k1 (false,())
  else
   again (a,b,(b2 .i64 (i+1)),())
 else
  k0 (())
def RH(n:Nat)(a:List Z9)(b:List Z9):Option Bool:=
 bif (ea a:Int) !=(ea b:Int)then
  some false
 else
  cq (Sk n) n (a,b,0,())
   (λ(_)=>
    some (true),
   λ(c,_)=>
    some (c),())
def Qo(n:Nat):aq:=(P3 n).a 38 ⟨[fh,fh],[],[.aO],λ x y=>RH n x.1 x.2,false⟩
theorem h49(n:Nat):al Rs.FM.Q (Qo n):=gD Rs.FM (OJ n) func38 (O:= [_]) ⟨gh n (OJ n) (eN 26 [aT 0 fh,aT 1 fh,aT 5 Z0] []) [fq 0 26 [] [],fw 26 [aT 4 .aO] []] (Sk n),trivial⟩
def FJ(n:Nat):Option Bool:=
 (zC n).bind λ x=>
 (DU n).bind λ h=>
 (Na n x h (0,1)).bind λ b=>
 (zC n).bind λ j=>
 (LQ n).bind λ k=>
 (OD n j k).bind λ a=>
 (zC n).bind λ l=>
 (DU n).bind λ m=>
 (P6 n l m ([(0,(1,2)),(1,(2,1))]:List Cu)).bind λ c=>
 (zC n).bind λ o=>
 (LL n o [97,32,98,59,98,32,99]).bind λ e=>
 (bI (b.2==0) (Mn n (b.1.1,b.1.2) (([3,5,0]:List Int),([1,1,0]:List Int))) false).bind λ d=>
 (bI (((((b.2==0)&&d)&& (a.2==0))&& (a.1==7))&& (c.2==0)) (zL n c.1.2.1 ([6,1,1]:List Int)) false).bind λ f=>
 (bI ((((((b.2==0)&&d)&& (a.2==0))&& (a.1==7))&& (c.2==0))&&f) (zL n c.1.2.2 ([1,1,1]:List Int)) false).bind λ g=>
 (bI ((((((((b.2==0)&&d)&& (a.2==0))&& (a.1==7))&& (c.2==0))&&f)&&g)&& (e.2==0)) (RH n e.1 ([(0,1),(1,2)]:List Z9)) false).bind λ i=>
 some ((((((((((b.2==0)&&d)&& (a.2==0))&& (a.1==7))&& (c.2==0))&&f)&&g)&& (e.2==0))&&i))
def Rn(n:Nat):aq:=(Qo n).a 17 ⟨[],[],[.aO],λ x y=>FJ n,false⟩
theorem h50(n:Nat):al Rs.FM.Q (Rn n):=dw Rs.FM (h49 n) func17
def qg(n:Nat)(a:Int)(lo:Int)(b:Int):Option Bool:=
 some (((decide (lo<=a))&& (decide (a<=b))))
def OS(n:Nat):aq:=(Rn n).a 47 ⟨[Z0,Z0,Z0],[],[.aO],λ x y=>qg n x.1 x.2.1 x.2.2,false⟩
theorem LN(n:Nat):al Rs.FM.Q (OS n):=dw Rs.FM (h50 n) func47
def yJ(n:Nat)(d:Int×bZ×cn×Unit)(again:(Int×bZ×cn×Unit)->Option Bool)(ks:(Unit->Option Bool)×(Bool×Unit->Option Bool)×Unit):Option Bool:=
 match d,ks with
 | (i,p,b,_),(k0,k1,_)=>
 bif decide (i< (ea p:Int))then
  (aG p i).bind λ e=>
  (bI (!(decide ((ea e.1:Int)>20))) (aG p i) ([],0)).bind λ a=>
  (bI (!(decide ((ea e.1:Int)>20))) (qg n a.2 11 50) false).bind λ x=>
  bif (decide ((ea e.1:Int)>20))||x then
   k1 (false,())
  else
   again ((b2 .i64 (i+1)),p,b,())
 else
  k0 (())
def xB(n:Nat)(p:bZ×cn):Option Bool:=
 bif ((((decide ((ea p.1:Int)>4))&& (decide ((ea p.1:Int)<=6)))|| (decide ((ea p.1:Int)>8)))|| ((decide ((ea p.2:Int)>14))&& (decide ((ea p.2:Int)<=30))))|| (decide ((ea p.2:Int)>32))then
  some false
 else
  cq (yJ n) n (0,p.1,p.2,())
   (λ(_)=>
    some (true),
   λ(a,_)=>
    some (a),())
def Nw(n:Nat):aq:=(OS n).a 18 ⟨[qG],[],[.aO],λ x y=>xB n x,false⟩
theorem h52(n:Nat):al Rs.FM.Q (Nw n):=gD Rs.FM (LN n) func18 (O:= [_]) ⟨gh n (LN n) (eN 62 [(1,.v (.cu 62 0)),aT 3 Z0] [(62,.cp qG [.aj dK,.aj fh])]) [fq 0 62 [] [],fw 62 [aT 2 .aO] []] (yJ n),trivial⟩
def wX(n:Nat)(s:BW×BW):Option Bool:=
 some (((decide ((ea s.1:Int)<=10))&& (decide ((ea s.2:Int)<=10))))
def Sj(n:Nat):aq:=(Nw n).a 20 ⟨[cN],[],[.aO],λ x y=>wX n x,false⟩
theorem h53(n:Nat):al Rs.FM.Q (Sj n):=dw Rs.FM (h52 n) func20
def wL(n:Nat)(p:bZ×cn):Option pR:=
 (jk (ea ([]:List gv)+ea p.1)).bind λ u=>
 (jk (ea ([]:List Z9)+ea p.2)).bind λ a=>
 some (((([]:List gv)++p.1),(([]:List Z9)++p.2)))
def Sf(n:Nat):aq:=(Sj n).a 22 ⟨[qG],[],[qG],λ x y=>wL n x,false⟩
theorem h54(n:Nat):al Rs.FM.Q (Sf n):=dw Rs.FM (h53 n) func22
def uV(n:Nat)(l:List Int):Option BW:=
 (jk (ea ([]:List Int)+ea l)).bind λ u=>
 some (([]:List Int)++l)
def Mv(n:Nat):aq:=(Sf n).a 89 ⟨[Z8],[],[Z8],λ x y=>uV n x,true⟩
theorem WJ(n:Nat):al Rs.FM.Q (Mv n):=dw Rs.FM (h54 n) func89
def th(n:Nat)(s:BW×BW):Option EM:=
 (uV n s.1).bind λ x=>
 (uV n s.2).bind λ a=>
 some (x,a)
def NG(n:Nat):aq:=(Mv n).a 25 ⟨[cN],[],[cN],λ x y=>th n x,true⟩
theorem h56(n:Nat):al Rs.FM.Q (NG n):=dw Rs.FM (WJ n) func25
def yx(n:Nat)(d:dy×Int×Unit)(again:(dy×Int×Unit)->Option Bool)(ks:(Unit->Option Bool)×(Bool×Unit->Option Bool)×Unit):Option Bool:=
 match d,ks with
 | (s,i,_),(k0,k1,_)=>
 bif decide (i< (ea s:Int))then
  (aG s i).bind λ c=>
  bif (!(((decide (((ee c:Nat):Int)>=97))&& (decide (((ee c:Nat):Int)<=122)))|| ((decide (((ee c:Nat):Int)>=65))&& (decide (((ee c:Nat):Int)<=90)))))&& ((i==0)|| ((((ee c:Nat):Int) !=45)&& ((decide (((ee c:Nat):Int)<48))|| (decide (((ee c:Nat):Int)>57)))))then
   k1 (false,())
  else
   again (s,(b2 .i64 (i+1)),())
 else
  k0 (())
def EH(n:Nat)(s:List UInt8):Option Bool:=
 bif (decide ((ea s:Int)<1))|| (decide ((ea s:Int)>12))then
  some false
 else
  cq (yx n) n (s,0,())
   (λ(_)=>
    some (true),
   λ(a,_)=>
    some (a),())
def Rx(n:Nat):aq:=(NG n).a 110 ⟨[.aJ],[],[.aO],λ x y=>EH n x,false⟩
theorem h57(n:Nat):al Rs.FM.Q (Rx n):=gD Rs.FM (h56 n) func110 (O:= [_]) ⟨gh n (h56 n) (eN 55 [aT 0 .aJ,aT 3 Z0] []) [fq 0 55 [] [],fw 55 [aT 2 .aO] []] (yx n),trivial⟩
def zF(n:Nat)(p:bZ×cn)(a:Int):Option Bool:=
 (qg n a 0 (b2 .i64 ((ea p.1:Int)- 1))).bind λ x=>
 some x
def NB(n:Nat):aq:=(Rx n).a 80 ⟨[qG,Z0],[],[.aO],λ x y=>zF n x.1 x.2,false⟩
theorem Zu(n:Nat):al Rs.FM.Q (NB n):=dw Rs.FM (h57 n) func80
def Ak(n:Nat)(d:Int×Int×bZ×cn×Unit)(again:(Int×Int×bZ×cn×Unit)->Option Z9)(ks:(Int×bZ×cn×Unit->Option Z9)×(Int×Int×Unit->Option Z9)×Unit):Option Z9:=
 match d,ks with
 | (i,a,p,b,_),(k0,k1,_)=>
 bif decide (a<i)then
  (aG p a).bind λ e=>
  (aG p i).bind λ c=>
  bif (e.1:List UInt8)==c.1 then
   k1 (i,5,())
  else
   again (i,(b2 .i64 (a+1)),p,b,())
 else
  k0 (i,p,b,())
def yU(n:Nat)(d:Int×bZ×cn×Unit)(again:(Int×bZ×cn×Unit)->Option Z9)(ks:(bZ×cn×Unit->Option Z9)×(Int×Int×Unit->Option Z9)×Unit):Option Z9:=
 match d,ks with
 | (i,p,b,_),(k0,k1,_)=>
 bif decide (i< (ea p:Int))then
  (aG p i).bind λ e=>
  (EH n e.1).bind λ x=>
  bif !x then
   k1 (i,4,())
  else
   cq (Ak n) n (i,0,p,b,())
    (λ(a,c,g,_)=>
     (aG c a).bind λ f=>
     (qg n f.2 1 50).bind λ k=>
     bif !k then
      k1 (a,2,())
     else
      again ((b2 .i64 (a+1)),c,g,()),
    λ(h,j,_)=>
     k1 (h,j,()),())
 else
  k0 (p,b,())
def yj(n:Nat)(d:Int×Int×bZ×cn×Int×Int×Unit)(again:(Int×Int×bZ×cn×Int×Int×Unit)->Option Z9)(ks:(Int×bZ×cn×Unit->Option Z9)×(Int×Int×Unit->Option Z9)×Unit):Option Z9:=
 match d,ks with
 | (i,b,p,a,h,c,_),(k0,k1,_)=>
 bif decide (b<i)then
  (aG a b).bind λ e=>
  bif (e.1==h)&& (e.2==c)then
   k1 (i,26,())
  else
   again (i,(b2 .i64 (b+1)),p,a,h,c,())
 else
  k0 (i,p,a,())
def zm(n:Nat)(d:Int×bZ×cn×Unit)(again:(Int×bZ×cn×Unit)->Option Z9)(ks:(Unit->Option Z9)×(Int×Int×Unit->Option Z9)×Unit):Option Z9:=
 match d,ks with
 | (i,p,a,_),(k0,k1,_)=>
 bif decide (i< (ea a:Int))then
  (aG a i).bind λ e=>
  (cQ 0 2).bind λ u=>
  (aG [e.1,e.2] 0).bind λ x=>
  (zF n (p,a) x).bind λ b=>
  (bI (!(!b)) (cQ 1 2) ()).bind λ q=>
  (bI (!(!b)) (aG [e.1,e.2] 1) 0).bind λ k=>
  (bI (!(!b)) (zF n (p,a) k) false).bind λ l=>
  bif (!b)|| (!l)then
   k1 (i,6,())
  else
   (cQ 0 2).bind λ r=>
   (aG [e.1,e.2] 0).bind λ m=>
   (cQ 1 2).bind λ s=>
   (aG [e.1,e.2] 1).bind λ o=>
   bif m==o then
    k1 (i,11,())
   else
    cq (yj n) n (i,0,p,a,e.1,e.2,())
     (λ(c,f,g,_)=>
      again ((b2 .i64 (c+1)),f,g,()),
     λ(h,j,_)=>
      k1 (h,j,()),())
 else
  k0 (())
def xy(n:Nat)(p:bZ×cn):Option Z9:=
 bif (ea p.1:Int)==0 then
  some (0,10)
 else
  bif decide ((ea p.1:Int)>6)then
   some (0,8)
  else
   cq (yU n) n (0,p.1,p.2,())
    (λ(b,a,_)=>
     bif decide ((ea a:Int)>30)then
      some (0,8)
     else
      cq (zm n) n (0,b,a,())
       (λ(_)=>
        some (0,0),
       λ(c,e,_)=>
        some (c,e),()),
    λ(d,f,_)=>
     some (d,f),())
def Pm(n:Nat):aq:=(NB n).a 46 ⟨[qG],[],[Z0,Z0],λ x y=>xy n x,false⟩
theorem Oe(n:Nat):al Rs.FM.Q (Pm n):=gD Rs.FM (Zu n) func46 (O:= [_,_]) ⟨B8 n (Zu n) (eN 109 [(1,.v (.cu 109 0)),aT 4 Z0] [(109,.cp qG [.aj dK,.aj fh])]) [fq 0 109 [(1,.v (.cu 109 0))] [(109,.cp qG [.aj dK,.aj fh])],fw 109 [aT 2 Z0,aT 3 Z0] []] (yU n) (O:= [_]) ⟨gh n (Zu n) (eN 109 [(1,.v (.cu 109 0)),aT 4 Z0,aT 5 Z0] [(109,.cp qG [.aj dK,.aj fh])]) [fq 2 109 [(1,.v (.cu 109 0)),aT 4 Z0] [(109,.cp qG [.aj dK,.aj fh])],fw 109 [aT 2 Z0,aT 3 Z0] []] (Ak n),trivial⟩,B8 n (Zu n) (eN 109 [(1,.v (.cu 109 0)),aT 6 Z0] [(109,.cp qG [.aj dK,.aj fh])]) [fq 4 109 [] [],fw 109 [aT 2 Z0,aT 3 Z0] []] (zm n) (O:= [_]) ⟨gh n (Zu n) (eN 109 [(1,.v (.cu 109 0)),aT 6 Z0,(7,.v (.cu 110 0)),aT 8 Z0] [(109,.cp qG [.aj dK,.aj fh]),(110,.cp Z3 [.aj Z0,.aj Z0])]) [fq 6 109 [(1,.v (.cu 109 0)),aT 6 Z0] [(109,.cp qG [.aj dK,.aj fh])],fw 109 [aT 2 Z0,aT 3 Z0] []] (yj n),trivial⟩,trivial⟩
def DI(n:Nat)(d:Int×bZ×cn×BW×BW×Unit)(again:(Int×bZ×cn×BW×BW×Unit)->Option Int)(ks:(Unit->Option Int)×(Int×Unit->Option Int)×Unit):Option Int:=
 match d,ks with
 | (i,p,h,s,a,_),(k0,k1,_)=>
 bif decide (i< (ea p:Int))then
  (aG s i).bind λ e=>
  (aG p i).bind λ b=>
  (qg n e 0 b.2).bind λ x=>
  (bI (!(!x)) (aG a i) 0).bind λ c=>
  (bI (!(!x)) (qg n c 0 3) false).bind λ j=>
  bif (!x)|| (!j)then
   k1 (2,())
  else
   (aG a i).bind λ f=>
   (aG s i).bind λ g=>
   bif !((f==0)==(g==0))then
    k1 (13,())
   else
    again ((b2 .i64 (i+1)),p,h,s,a,())
 else
  k0 (())
def sM(n:Nat)(p:bZ×cn)(s:BW×BW):Option Int:=
 bif ((ea s.1:Int) !=(ea p.1:Int))|| ((ea s.2:Int) !=(ea p.1:Int))then
  some 10
 else
  cq (DI n) n (0,p.1,p.2,s.1,s.2,())
   (λ(_)=>
    some (0),
   λ(a,_)=>
    some (a),())
def Ny(n:Nat):aq:=(Pm n).a 27 ⟨[qG,cN],[],[Z0],λ x y=>sM n x.1 x.2,false⟩
theorem h60(n:Nat):al Rs.FM.Q (Ny n):=gD Rs.FM (Oe n) func27 (O:= [_]) ⟨gh n (Oe n) (eN 64 [(2,.v (.cu 64 0)),(3,.v (.cu 65 0)),aT 5 Z0] [(64,.cp qG [.aj dK,.aj fh]),(65,.cp cN [.aj Z8,.aj Z8])]) [fq 0 64 [] [],fw 64 [aT 4 Z0] []] (DI n),trivial⟩
def s31(n:Nat)(p:bZ×cn)(s:BW×BW):Option Int:=
 (xy n (p.1,p.2)).bind λ x=>
 bif x.2 !=0 then
  some (x.2)
 else
  (sM n (p.1,p.2) (s.1,s.2)).bind λ a=>
  some a
def OF(n:Nat):aq:=(Ny n).a 31 ⟨[qG,cN],[],[Z0],λ x y=>s31 n x.1 x.2,false⟩
theorem zq(n:Nat):al Rs.FM.Q (OF n):=dw Rs.FM (h60 n) func31
def aaO(n:Nat)(d:Int×Int×Int×BW×BW×Unit)(again:(Int×Int×Int×BW×BW×Unit)->Option Int)(ks:(Int×Unit->Option Int)×Unit):Option Int:=
 match d,ks with
 | (c,b,i,s,a,_),(k0,_)=>
 bif decide (i< (ea s:Int))then
  (aG a i).bind λ e=>
  bif e==c then
   (aG s i).bind λ f=>
   again (c,(b2 .i64 (b+f)),(b2 .i64 (i+1)),s,a,())
  else
   again (c,b,(b2 .i64 (i+1)),s,a,())
 else
  k0 (b,())
def tw(n:Nat)(s:BW×BW)(b:Int):Option Int:=
 cq (aaO n) n (b,0,0,s.1,s.2,())
  (λ(a,_)=>
   some (a),())
def Qw(n:Nat):aq:=(OF n).a 34 ⟨[cN,Z0],[],[Z0],λ x y=>tw n x.1 x.2,false⟩
theorem Of(n:Nat):al Rs.FM.Q (Qw n):=gD Rs.FM (zq n) func34 (O:= [_]) ⟨gh n (zq n) (eN 29 [aT 1 Z0,(2,.v (.cu 29 0)),aT 5 Z0,aT 6 Z0] [(29,.cp cN [.aj Z8,.aj Z8])]) [fq 0 29 [aT 5 Z0] []] (aaO n),trivial⟩
def s44(n:Nat)(p:bZ×cn)(s:BW×BW):Option Int:=
 (Ij n (p.1,p.2) (s.1,s.2)).bind λ x=>
 some (x.2.2)
def QL(n:Nat):aq:=(Qw n).a 44 ⟨[qG,cN],[],[Z0],λ x y=>s44 n x.1 x.2,false⟩
theorem Lw(n:Nat):al Rs.FM.Q (QL n):=dw Rs.FM (Of n) func44
def aag(n:Nat)(d:Int×Int×Z1×Int×Int×Int×Int×Int×Int×Int×Int×Int×Int×Int×Int×Int×Unit)(again:(Int×Int×Z1×Int×Int×Int×Int×Int×Int×Int×Int×Int×Int×Int×Int×Int×Unit)->Option Z9)(ks:(Int×Unit->Option Z9)×Unit):Option Z9:=
 match d,ks with
 | (k,c,a,b,e,f,g,h,i,j,o,p,q,r,l,m,_),(k0,_)=>
 bif decide (b<6)then
  (aG [a.1,a.2.1,a.2.2.1,a.2.2.2.1,a.2.2.2.2.1,a.2.2.2.2.2] b).bind λ x=>
  bif x==k then
   (cQ b 6).bind λ u=>
   (aG [e,f,g,h,i,j] b).bind λ s=>
   again (k,(b2 .i64 (c+s)),a,(b2 .i64 (b+1)),e,f,g,h,i,j,o,p,q,r,l,m,())
  else
   again (k,c,a,(b2 .i64 (b+1)),e,f,g,h,i,j,o,p,q,r,l,m,())
 else
  k0 (c,())
def s45(n:Nat)(p:bZ×cn)(s:BW×BW)(a:Int):Option Z9:=
 (Ij n (p.1,p.2) (s.1,s.2)).bind λ x=>
 (pX n a 1 3).bind λ d=>
 (gk n d 2).bind λ e=>
 (ko n ([x.2.2,e]:List Int)).bind λ b=>
 bif b !=0 then
  some (0,b)
 else
  cq (aag n) n (a,0,(x.2.1.2.1,(x.2.1.2.2.1,(x.2.1.2.2.2.1,(x.2.1.2.2.2.2.1,(x.2.1.2.2.2.2.2.1,x.2.1.2.2.2.2.2.2))))),0,x.2.1.1.1,x.2.1.1.2.1,x.2.1.1.2.2.1,x.2.1.1.2.2.2.1,x.2.1.1.2.2.2.2.1,x.2.1.1.2.2.2.2.2,x.2.1.2.1,x.2.1.2.2.1,x.2.1.2.2.2.1,x.2.1.2.2.2.2.1,x.2.1.2.2.2.2.2.1,x.2.1.2.2.2.2.2.2,())
   (λ(c,_)=>
    some (c,0),())
def Qi(n:Nat):aq:=(QL n).a 45 ⟨[qG,cN,Z0],[],[Z0,Z0],λ x y=>s45 n x.1 x.2.1 x.2.2,false⟩
theorem h64(n:Nat):al Rs.FM.Q (Qi n):=gD Rs.FM (Lw n) func45 (O:= [_]) ⟨gh n (Lw n) (eN 47 [aT 2 Z0,(9,.v (.cu 47 0)),aT 11 Z0,aT 31 Z7,aT 32 Z0] [(47,.cp eB [.aj Z0,.aj Z0,.aj Z0,.aj Z0,.aj Z0,.aj Z0,.aj Z0,.aj Z0,.aj Z0,.aj Z0,.aj Z0,.aj Z0])]) [fq 0 47 [aT 11 Z0] []] (aag n),trivial⟩
def s6(n:Nat)(p:bZ×cn)(s:BW×BW)(c:Int):Option Bool:=
 (FJ n).bind λ x=>
 bif !x then
  some false
 else
  (xB n (p.1,p.2)).bind λ d=>
  (bI (!(!d)) (wX n (s.1,s.2)) false).bind λ l=>
  bif (!d)|| (!l)then
   some true
  else
   (wL n (p.1,p.2)).bind λ m=>
   (xg n m).bind λ f=>
   (wL n (p.1,p.2)).bind λ o=>
   (th n (s.1,s.2)).bind λ g=>
   (s44 n o (g.1,g.2)).bind λ q=>
   (wL n (p.1,p.2)).bind λ r=>
   (th n (s.1,s.2)).bind λ h=>
   (s45 n r (h.1,h.2) c).bind λ a=>
   (xy n (p.1,p.2)).bind λ e=>
   bif (f.2 !=e.2)|| (f.1 !=e.1)then
    some false
   else
    (s31 n (p.1,p.2) (s.1,s.2)).bind λ b=>
    bif q !=b then
     some false
    else
     (bI (b==0) (qg n c 1 3) false).bind λ i=>
     bif (b==0)&& (!i)then
      bif 2 !=0 then
       some (((a.2==2)&& (a.1==0)))
      else
       (bI (a.2==0) (tw n (s.1,s.2) c) 0).bind λ j=>
       some (((a.2==0)&& (a.1==j)))
     else
      bif b !=0 then
       some (((a.2==b)&& (a.1==0)))
      else
       (bI (a.2==0) (tw n (s.1,s.2) c) 0).bind λ k=>
       some (((a.2==0)&& (a.1==k)))
def aaE(n:Nat):fc:= ⟨[qG,cN,Z0],[],[.aO],λ x y=>s6 n x.1 x.2.1 x.2.2,false⟩
theorem ace(n:Nat)(x:ax [qG,cN,Z0])(y:ax []):oI (Qi n) f6 [qG,cN,Z0] [] [.aO] false [] x y=(aaE n).g x y:=by kernel_rfl
theorem abw(n:Nat):jf Rs.FM.Q 6 (aaE n):=xz (h64 n) Rs.FM.b (Rs.FM.a func6 (by kernel_rfl) (by decide)) (by kernel_rfl) (by kernel_rfl) (O:= []) trivial (ace n)
def Kv(n:Nat):aq:=(Qi n).a 6 (aaE n)
theorem LO(n:Nat):al Rs.FM.Q (Kv n):=mN (h64 n) (abw n)
end
theorem acS(m:Nat):FJ (m+2000)=some true:=by kernel_rfl
section
local instance:Dr:= ⟨false⟩
abbrev wO:=List UInt8
abbrev Vs:=wO×Int
abbrev Pl:=List Vs×List (Int×Int)
abbrev St:=List Int×List Int
abbrev Tk:=St×St
def jh(l:List Int):Int:=(l.find? λ e=>e !=0).getD 0
def ia(b:Bool)(e:Int):Int:=bif b then 0 else e
def cy(x lo a:Int):Bool:=decide (lo<=x)&&decide (x<=a)
theorem tP(n:Nat)(b:Bool)(e:Int):gk n b e=some (ia b e):=by cases b<;>rfl
theorem Ra(n:Nat)(x lo a:Int):pX n x lo a=some (cy x lo a):=rfl
theorem EO(n:Nat)(x lo a:Int):qg n x lo a=some (cy x lo a):=rfl
theorem afC(n:Nat)(x:Int):EJ n x=some (cy x 1 50):=rfl
theorem Pt(n:Nat)(x:Int):Dy n x=some (cy x 0 3):=rfl
theorem jv{α:Type}(b:Bool)(x d:α):bI b (some x) d=some (bif b then x else d):=by cases b<;>rfl
theorem OH{n:Nat}(l:List Int)(e:l.length<n)(f:l.length<=ej):ko n l=some (jh l):=by
 unfold ko;refine iy (n:=n) l (λ i=>(l,((ea l:Nat):Int),(i:Int),())) (λ i r=>some (jh r)) f ?_ ?_ e
 ·intro i x r j k m b c d again g;simp only[Cv,c,b,d,eb,cond_true];cases a:(x !=0)with
  |true=>simp[jh,eg,a]
  |false=>
   simp only[cond_false];rw[g];simp[jh,eg,a]
 ·intro h again;simp only[Cv,h,cond_false];rfl
theorem BO{n:Nat}(c:1000<=n)(a b:Int):ko n [a,b]=some (jh [a,b]):=OH _ (by simp;omega) (by simp[ej])
theorem QD{n:Nat}(d:1000<=n)(a b c:Int):ko n [a,b,c]=some (jh [a,b,c]):=OH _ (by simp;omega) (by simp[ej])
def AJ(b:Bool)(c:Int):Bool:=(!(((decide (c>=97))&& (decide (c<=122)))|| ((decide (c>=65))&& (decide (c<=90)))))&& (b|| ((c !=45)&& ((decide (c<48))|| (decide (c>57)))))
def xo:Bool->wO->Bool
 |_,[]=>true
 |b,c::r=>!AJ b ((ee c:Nat):Int)&&xo false r
def rQ(s:wO):Bool:=(decide (1<=s.length)&&decide (s.length<=12))&&xo true s
theorem FK(i:Nat):((i:Int)==(0:Int))=decide (i=0):=by
 rw[et];simp
theorem VF{n:Nat}(o:1000<=n)(s:wO):EH n s=some (rQ s):=by
 unfold EH rQ;by_cases b:1<=s.length
 ·by_cases c:s.length<=12
  ·rw[show decide (((ea s:Nat):Int)< (1:Int))=false from decide_eq_false (by omega),show decide (((ea s:Nat):Int)>(12:Int))=false from decide_eq_false (by omega),decide_eq_true b,decide_eq_true c];simp only[ez,cond_false,eQ,Bool.true_and];have:=iy (n:=n) (body:=yx n) (ks:=(λ(_)=>some (true),λ(j,_)=>some (j),())) s (λ i=>(s,(i:Int),())) (λ i r=>some (xo (decide (i=0)) r)) (by unfold ej;omega) ?_ ?_ (by omega)
   ·exact this
   ·intro i x r k l m d f g again h;have e:AJ (decide (i=0)) ((ee x:Nat):Int)=((!(((decide (((ee x:Nat):Int)>=(97:Int)))&& (decide (((ee x:Nat):Int)<=(122:Int))))|| ((decide (((ee x:Nat):Int)>=(65:Int)))&& (decide (((ee x:Nat):Int)<=(90:Int))))))&& (((i:Int)==(0:Int))|| ((((ee x:Nat):Int) !=(45:Int))&& ((decide (((ee x:Nat):Int)< (48:Int)))|| (decide (((ee x:Nat):Int)>(57:Int))))))):=by
     rw[FK];rfl
    simp only[yx,f,d,g,eb,cond_true,<-e];simp only[xo];cases AJ (decide (i=0)) ((ee x:Nat):Int)with
    |true=>rfl
    |false=>
     simp only[cond_false];rw[h];simp
   ·intro a again;simp only[yx,a,cond_false];rfl
  ·rw[show decide (((ea s:Nat):Int)>(12:Int))=true from decide_eq_true (by omega),decide_eq_false c];simp
 ·rw[show decide (((ea s:Nat):Int)< (1:Int))=true from decide_eq_true (by omega),decide_eq_false b];simp
theorem acJ{n:Nat}(s:wO)(q:s.length<n)(p:s.length<=ej):B9 n s=some (rQ s):=by
 unfold B9 rQ;have b:kv s=s.map λ c=>((ee c:Nat):Int):=rfl;have d:(kv s).length=s.length:=by rw[b,List.length_map]
 have:=iy (n:=n) (body:=yM n) (ks:=(λ(f,_)=>some ((((f:List UInt8) != [])&& (decide (((ea f:Nat):Int)<=(12:Int))))),λ(u,_)=>some (u),())) s
  (λ i=>(s,kv s,((ea (kv s):Nat):Int),(i:Int),())) (λ i r=>some (xo (decide (i=0)) r&& (((s:List UInt8) != [])&& (decide (((ea s:Nat):Int)<=(12:Int)))))) p ?_ ?_ q
 ·refine Eq.trans this ?_
  congr 1
  have m:((s:List UInt8) != [])=decide (1<=s.length):=by cases s<;>simp
  have o:decide (((ea s:Nat):Int)<=(12:Int))=decide (s.length<=12):=by congr 1;simp;omega
  rw[m,o,Bool.and_comm];rfl
 ·intro i x r v g w y j l again t;have h:aG (kv s) (i:Int)=some ((ee x:Nat):Int):=by
   rw[oR,b,List.getElem?_map,g];rfl
  have k:decide ((i:Int)< ((ea (kv s):Nat):Int))=true:=by rw[d];exact j
  have e:AJ (decide (i=0)) ((ee x:Nat):Int)=((!(((decide (((ee x:Nat):Int)>=(97:Int)))&& (decide (((ee x:Nat):Int)<=(122:Int))))|| ((decide (((ee x:Nat):Int)>=(65:Int)))&& (decide (((ee x:Nat):Int)<=(90:Int))))))&& (((i:Int)==(0:Int))|| ((((ee x:Nat):Int) !=(45:Int))&& ((decide (((ee x:Nat):Int)< (48:Int)))|| (decide (((ee x:Nat):Int)>(57:Int))))))):=by
   rw[FK];rfl
  simp only[yM,k,h,l,eb,cond_true,<-e];simp only[xo];cases AJ (decide (i=0)) ((ee x:Nat):Int)with
  |true=>rfl
  |false=>
   simp only[cond_false];rw[t];simp
 ·intro a again;have a':decide ((s.length:Int)< ((ea (kv s):Nat):Int))=false:=by rw[d];exact a
  simp only[yM,a',cond_false];rfl
theorem ahd{n:Nat}(l:List Vs)(name:wO)(m:l.length<n)(o:l.length<=ej):∃q,vV n l name=some q/\decide (q<0)=!(l.any λ x=>x.1==name):=by
 have:=iy (n:=n) (body:=xO n) (ks:=(λ(_)=>some ((-1:Int)),λ(s,_)=>some (s),())) l (λ i=>(l,(λ(c:Vs)=>some (c.1==name)),((ea l:Nat):Int),(i:Int),()))
  (λ i r=>some (match r.findIdx? λ x=>x.1==name with|some k=>((i+k:Nat):Int)|none=> -1)) o ?_ ?_ m
 ·refine⟨match l.findIdx? λ x=>x.1==name with|some k=>((0+k:Nat):Int)|none=> -1,?_,?_⟩
  ·unfold vV IH;rw[show cq (xO n) n (l,(λ c=>Jr n c name),((ea l:Nat):Int),(0:Int),()) _=_ from this];rfl
  ·cases d:l.findIdx? λ x=>x.1==name with
   |none=>
    have:(l.any λ x=>x.1==name)=false:=by
     rw[Bool.eq_false_iff];intro h;obtain⟨x,b,a⟩:=eH.1 h;have:=eL.1 d x b;rw[this]at a;cases a
    rw[this];rfl
   |some k=>
    obtain⟨b,a,_⟩:=ev.1 d;have:(l.any λ x=>x.1==name)=true:=eH.2 ⟨_,fu b,a⟩;rw[this];simp
 ·intro i x r b a t f g j again p;simp only[xO,g,f,j,eb,cond_true];cases e:(x.1==name)with
  |true=>simp[eo,e]
  |false=>
   simp only[cond_false];rw[p,eo,e];cases r.findIdx? λ x=>x.1==name with
   |none=>rfl
   |some k=>simp;omega
 ·intro h again;simp only[xO,h,cond_false];rfl
theorem V1{n:Nat}(l:List (Int×Int))(v:Int×Int)(t:l.length<n)(u:l.length<=ej):∃q,ym n l v=some q/\(decide (q>=0))=decide (v∈l):=by
 unfold ym;have:=iy (n:=n) (body:=AI n) (ks:=(λ(_)=>some ((-1:Int)),λ(z,_)=>some (z),())) l (λ i=>(l,((ea l:Nat):Int),(i:Int),v.1,v.2,()))
  (λ i r=>some (match r.findIdx? λ e=>e==v with|some k=>((i+k:Nat):Int)|none=> -1)) u ?_ ?_ t
 ·refine⟨_,this,?_⟩;cases j:l.findIdx? λ e=>e==v with
  |none=>
   have:v∉l:=λ w=>by
    have:=eL.1 j v w;simp at this
   simp[this]
  |some k=>
   have:v∈l:=by
    obtain⟨f,g,_⟩:=ev.1 j;have:=eq_of_beq g;rw[<-this];exact fu f
   simp[this]
 ·intro i x r f g A o p s again y;simp only[AI,p,o,s,eb,cond_true];have e:((v.1==x.1)&& (v.2==x.2))=(x==v):=by
   obtain⟨a,b⟩:=v;obtain⟨c,d⟩:=x;rw[et];simp only[ep,beq_iff_eq,Prod.mk.injEq];constructor<;>rintro⟨rfl,rfl⟩<;>exact⟨rfl,rfl⟩
  rw[e];cases m:(x==v)with
  |true=>simp[eo,m]
  |false=>
   simp only[cond_false];rw[y,eo,m];cases r.findIdx? λ e=>e==v with
   |none=>rfl
   |some k=>simp;omega
 ·intro h again;simp only[AI,h,cond_false];rfl
theorem afi{n:Nat}(l:List (Int×Int))(v:Int×Int)(c:l.length<n)(d:l.length<=ej):za n l v=some (decide (v∈l)):=by
 obtain⟨q,a,b⟩:=V1 l v c d;unfold za;rw[show ym n l (v.1,v.2)=some q from a];simp only[eb,b]
end
section
local instance:Dr:= ⟨false⟩
def wi(pre:List Vs)(v:Vs):Int:=jh [ia (rQ v.1) 4,ia (!(pre.any λ x=>x.1==v.1)) 5,ia (cy v.2 1 50) 2]
def ix:Nat->List Vs->List Vs->Int×Int
 |_,_,[]=>(0,0)
 |i,pre,v::r=>bif wi pre v==0 then ix (i+1) (pre++ [v]) r else((i:Int),wi pre v)
def sx(m:Int)(pre:List (Int×Int))(h:Int×Int):Int:=jh [ia (cy h.1 0 (m- 1)&&cy h.2 0 (m- 1)) 6,ia (h.1 !=h.2) 11,ia (!(decide (h∈pre))) 26]
def iq(m:Int):Nat->List (Int×Int)->List (Int×Int)->Int×Int
 |_,_,[]=>(0,0)
 |i,pre,h::r=>bif sx m pre h==0 then iq m (i+1) (pre++ [h]) r else((i:Int),sx m pre h)
def mQ(p:Pl):Int×Int:=
 bif decide (p.1.length=0)then(0,10)else bif decide (6<p.1.length)then(0,8)else
  bif (ix 0 [] p.1).2==0 then(bif decide (30<p.2.length)then(0,8)else iq p.1.length 0 [] p.2)else ix 0 [] p.1
structure jg(p:Pl):Prop where
 v:p.1.length<=8
 h:p.2.length<=32
 n:∀v∈p.1,v.1.length<=20
theorem Tg(a b c:Int):jh [a,b,c]=bif a !=0 then a else bif b !=0 then b else c:=by
 unfold jh;cases d:(a !=0)with
 |true=>simp[eg,d]
 |false=>
  cases e:(b !=0)with
  |true=>simp[eg,d,e]
  |false=>
   cases f:(c !=0)with
   |true=>simp[eg,d,e,f]
   |false=>
    have:c=0:=by simpa using f
    simp[eg,d,e,this]
theorem Jo(a b:Int):jh [a,b]=bif a !=0 then a else b:=by
 unfold jh;cases c:(a !=0)with
 |true=>simp[eg,c]
 |false=>
  cases d:(b !=0)with
  |true=>simp[eg,c,d]
  |false=>
   have:b=0:=by simpa using d
   simp[eg,c,this]
theorem Hh(m:Int):(l:List (Int×Int))->(i:Nat)->(pre:List (Int×Int))->((iq m i pre l).2==0)=true->iq m i pre l=(0,0)
 | [],_,_,_=>rfl
 |v::r,i,pre,h=>by
  simp only[iq]at h⊢;cases a:(sx m pre v==0)
  ·rw[a]at h;simp only[cond_false]at h;rw[a]at h;cases h
  ·rw[a]at h;exact Hh m r _ _ h
theorem BD{α:Type}{l:List α}{i:Nat}{x:α}(h:l[i]?=some x):l.take (i+1)=l.take i++ [x]:=by rw[List.take_add_one,h];rfl
theorem SF{α:Type}{l:List α}(h:l.length<=1000):b2 .i64 (((ea l:Nat):Int)- 1)=(l.length:Int)- 1:=by rw[nu]<;>omega
theorem i2(a b:Int):aG [a,b] 0=some a/\aG [a,b] 1=some b:= ⟨rfl,rfl⟩
theorem r2:cQ (0:Int) 2=some ()/\cQ (1:Int) 2=some ():= ⟨rfl,rfl⟩
theorem aiO{n:Nat}(g:1000<=n){p:Pl}(hp:jg p)(k0:List Vs×List (Int×Int)×Unit->Option (Int×Int))(k1:Int×Int×Unit->Option (Int×Int)):
 cq (Au n) n (p.1,((ea p.1:Nat):Int),(0:Int),p.1,p.2,()) (k0,k1,())=bif (ix 0 [] p.1).2==0 then k0 (p.1,p.2,())else k1 ((ix 0 [] p.1).1,(ix 0 [] p.1).2,()):=by
 have s:=hp.v;refine iy p.1 (λ i=>(p.1,((ea p.1:Nat):Int),(i:Int),p.1,p.2,())) (λ i r=>bif (ix i (p.1.take i) r).2==0 then k0 (p.1,p.2,())else k1 ((ix i (p.1.take i) r).1,(ix i (p.1.take i) r).2,())) (by unfold ej;omega) ?_ ?_ (by omega)
 ·intro i x r m a o b c d again j;have t:=hp.n x (List.mem_of_getElem? a);obtain⟨q,k,l⟩:=ahd (n:=n) (p.1.take i) x.1 (by simp;omega) (by simp[ej];omega);simp only[Au,c,cond_true,b,eb,d,xV p.1 i (by omega),acJ (n:=n) x.1 (by omega) (by unfold ej;omega),tP,k,l,afC,QD g];rw[j,BD a];have e:jh [ia (rQ x.1) 4,ia (!((p.1.take i).any λ y=>y.1==x.1)) 5,ia (cy x.2 1 50) 2]=wi (p.1.take i) x:=rfl;rw[e];simp only[ix,bne];cases h:(wi (p.1.take i) x==0)<;>simp[h]
 ·intro f again;simp only[Au,f,cond_false,ix];rfl
theorem ab7{n:Nat}(k:1000<=n){p:Pl}(hp:jg p)(k0:Unit->Option (Int×Int))(k1:Int×Int×Unit->Option (Int×Int)):
 cq (Ag n) n ((p.1,p.2),(λ a=>vO n a (p.1,p.2)),p.2,((ea p.2:Nat):Int),(0:Int),()) (k0,k1,())=bif (iq p.1.length 0 [] p.2).2==0 then k0 ()else k1 ((iq p.1.length 0 [] p.2).1,(iq p.1.length 0 [] p.2).2,()):=by
 have q:=hp.h;have s:=hp.v;have b:∀z,vO n z (p.1,p.2)=some (cy z 0 ((p.1.length:Int)- 1)):=λ z=>by
  unfold vO;show(pX n z 0 (b2 .i64 (((ea p.1:Nat):Int)- 1))).bind _=_;rw[SF (by omega)];rfl
 rw[show(λ a=>vO n a (p.1,p.2))=λ z=>some (cy z 0 ((p.1.length:Int)- 1))from funext b];refine iy p.2 (λ i=>((p.1,p.2),(λ z=>some (cy z 0 ((p.1.length:Int)- 1))),p.2,((ea p.2:Nat):Int),(i:Int),())) (λ i r=>bif (iq p.1.length i (p.2.take i) r).2==0 then k0 ()else k1 ((iq p.1.length i (p.2.take i) r).1,(iq p.1.length i (p.2.take i) r).2,())) (by unfold ej;omega) ?_ ?_ (by omega)
 ·intro i x r m c o d f g again l;simp only[Ag,f,cond_true,d,eb,g,r2.1,r2.2,(i2 x.1 x.2).1,(i2 x.1 x.2).2,jv,tP,xV p.2 i (by omega),afi (n:=n) (p.2.take i) (x.1,x.2) (by simp;omega) (by simp[ej];omega),QD k];rw[l,BD c];have e:jh [ia (cy x.1 0 ((p.1.length:Int)- 1)&&bif cy x.1 0 ((p.1.length:Int)- 1)then cy (bif cy x.1 0 ((p.1.length:Int)- 1)then x.2 else 0) 0 ((p.1.length:Int)- 1)else false) 6,ia (x.1 !=x.2) 11,ia (!(decide ((x.1,x.2)∈p.2.take i))) 26]=sx p.1.length (p.2.take i) x:=by
   unfold sx;cases cy x.1 0 ((p.1.length:Int)- 1)<;>rfl
  rw[e];simp only[iq,bne];cases h:(sx p.1.length (p.2.take i) x==0)<;>simp[h]
 ·intro j again;simp only[Ag,j,cond_false,iq];rfl
theorem gt0(m:Nat):decide ((m:Int)>(0:Int))=!decide (m=0):=by
 by_cases h:m=0
 ·simp[h]
 ·rw[decide_eq_false h];simp;omega
theorem YO(m k:Nat):decide ((m:Int)<=(k:Int))=!decide (k<m):=by
 by_cases h:k<m
 ·rw[decide_eq_true h];simp;omega
 ·rw[decide_eq_false h];simp;omega
theorem Ig(m k:Nat):decide ((m:Int)>(k:Int))=decide (k<m):=by
 congr 1
 simp
theorem Ym{n:Nat}(a:1000<=n){p:Pl}(hp:jg p):xg n p=some (mQ p):=by
 unfold xg mQ;rw[tP,eb,tP,eb,BO a,eb,gt0,show decide ((p.1.length:Int)<=(6:Int))=!decide (6<p.1.length)from YO p.1.length 6];cases b:decide (p.1.length=0)with
 |true=>
  have:¬6<p.1.length:=by have:=of_decide_eq_true b;omega
  rw[decide_eq_false this];rfl
 |false=>
  cases e:decide (6<p.1.length)with
  |true=>rfl
  |false=>
   simp only[ei,ia,cond_true,cond_false];rw[show jh [(0:Int),0]=0 from rfl];simp only[bne_self_eq_false,cond_false];rw[aiO a hp];cases f:((ix 0 [] p.1).2==0)with
   |false=>rfl
   |true=>
    simp only[cond_true];rw[show decide (((ea p.2:Nat):Int)>(30:Int))=decide (30<p.2.length)from Ig p.2.length 30];cases d:decide (30<p.2.length)with
    |true=>rfl
    |false=>
     simp only[cond_false];rw[ab7 a hp];cases c:((iq p.1.length 0 [] p.2).2==0)with
     |false=>rfl
     |true=>
      rw[Hh _ _ _ _ c];rfl
theorem Km{D c R:Type}{body:D->(D->Option R)->c->Option R}{ks:c}{α:Type}{n:Nat}(l:List α)(i:Nat)(v:i<=l.length)(f:α->Bool)(F:Nat->D)(yes no:Option R)(o:i<=ej)(p:i<n)
 (q:∀k x,k<i->l[k]?=some x->decide ((k:Int)< (i:Int))=true->b2 .i64 ((k:Int)+1)=((k+1:Nat):Int)->aG l (k:Int)=some x->∀again,body (F k) again ks=bif f x then yes else again (F (k+1)))
 (m:decide ((i:Int)< (i:Int))=false->∀again,body (F i) again ks=no):cq body n (F 0) ks=bif (l.take i).any f then yes else no:=by
 have a:(l.take i).length=i:=by simp;omega
 have:=iy (n:=n) (body:=body) (ks:=ks) (l.take i) F (λ _ r=>bif r.any f then yes else no) (by rw[a];exact o) ?_ ?_ (by rw[a];exact p)
 ·exact this
 ·intro k x r b d t u g j again s;rw[a]at b g;have e:l[k]?=some x:=by rw[List.getElem?_take,if_pos b]at d;exact d
  rw[q k x b e g j (by rw[oR];exact e) again];rw[s];simp only[List.any_cons];cases f x<;>rfl
 ·intro h again;rw[a]at h⊢;rw[m h again];rfl
theorem air{n:Nat}(m:1000<=n){p:Pl}(hp:jg p)(k0:List Vs×List (Int×Int)×Unit->Option (Int×Int))(k1:Int×Int×Unit->Option (Int×Int)):
 cq (yU n) n ((0:Int),p.1,p.2,()) (k0,k1,())=bif (ix 0 [] p.1).2==0 then k0 (p.1,p.2,())else k1 ((ix 0 [] p.1).1,(ix 0 [] p.1).2,()):=by
 have w:=hp.v;refine iy p.1 (λ i=>((i:Int),p.1,p.2,())) (λ i r=>bif (ix i (p.1.take i) r).2==0 then k0 (p.1,p.2,())else k1 ((ix i (p.1.take i) r).1,(ix i (p.1.take i) r).2,())) (by unfold ej;omega) ?_ ?_ (by omega)
 ·intro i x r t h u a j c again o;simp only[yU,j,cond_true,a,eb,c,VF m];simp only[ix];have g:wi (p.1.take i) x=bif !rQ x.1 then 4 else bif (p.1.take i).any λ y=>y.1==x.1 then 5 else bif !cy x.2 1 50 then 2 else 0:=by
   unfold wi;rw[Tg];cases rQ x.1<;>cases(p.1.take i).any (λ y=>y.1==x.1)<;>cases cy x.2 1 50<;>rfl
  rw[g];cases v:rQ x.1 with
  |false=>rfl
  |true=>
   simp only[ef,cond_false];refine(Km (n:=n) (body:=Ak n) p.1 i (by omega) (λ y=>y.1==x.1) (λ k=>((i:Int),(k:Int),p.1,p.2,())) (k1 ((i:Int),5,())) (bif !cy x.2 1 50 then k1 ((i:Int),2,())else again (((i+1:Nat):Int),p.1,p.2,())) (by unfold ej;omega) (by omega)
    (λ k y q s d e f again=>by simp only[Ak,d,cond_true,f,a,eb,e]) (λ b again=>by simp only[Ak,b,cond_false,a,eb,EO,c])).trans ?_
   cases(p.1.take i).any (λ y=>y.1==x.1)with
   |true=>rfl
   |false=>
    simp only[cond_false];cases cy x.2 1 50 with
    |false=>rfl
    |true=>
     simp only[ef,cond_false,show((0:Int)==0)=true from rfl,cond_true];rw[o,BD h]
 ·intro l again;simp only[yU,l,cond_false,ix];rfl
theorem adi{n:Nat}(H:1000<=n){p:Pl}(hp:jg p)(k0:Unit->Option (Int×Int))(k1:Int×Int×Unit->Option (Int×Int)):
 cq (zm n) n ((0:Int),p.1,p.2,()) (k0,k1,())=bif (iq p.1.length 0 [] p.2).2==0 then k0 ()else k1 ((iq p.1.length 0 [] p.2).1,(iq p.1.length 0 [] p.2).2,()):=by
 have F:=hp.h;have I:=hp.v;refine iy p.2 (λ i=>((i:Int),p.1,p.2,())) (λ i r=>bif (iq p.1.length i (p.2.take i) r).2==0 then k0 ()else k1 ((iq p.1.length i (p.2.take i) r).1,(iq p.1.length i (p.2.take i) r).2,())) (by unfold ej;omega) ?_ ?_ (by omega)
 ·intro i x r C q D s t a again w;have h:∀z,zF n (p.1,p.2) z=some (cy z 0 ((p.1.length:Int)- 1)):=λ z=>by
   unfold zF;show(qg n z 0 (b2 .i64 (((ea p.1:Nat):Int)- 1))).bind _=_;rw[SF (by omega)];rfl
  simp only[zm,t,cond_true,s,eb,a,r2.1,r2.2,(i2 x.1 x.2).1,(i2 x.1 x.2).2,h,jv];simp only[iq];have u:((p.2.take i).any λ y=>y.1==x.1&&y.2==x.2)=decide (x∈p.2.take i):=by
   rw[et];simp only[eH,ep,beq_iff_eq,decide_eq_true_eq];constructor
   ·rintro⟨y,l,m,o⟩;have:y=x:=Prod.ext m o;rw[<-this];exact l
   ·exact λ g=> ⟨x,g,rfl,rfl⟩
  have j:sx p.1.length (p.2.take i) x=bif !(cy x.1 0 ((p.1.length:Int)- 1))||!(cy x.2 0 ((p.1.length:Int)- 1))then 6 else bif x.1==x.2 then 11 else bif (p.2.take i).any λ y=>y.1==x.1&&y.2==x.2 then 26 else 0:=by
   unfold sx;rw[Tg,u];simp only[bne];cases cy x.1 0 ((p.1.length:Int)- 1)<;>cases cy x.2 0 ((p.1.length:Int)- 1)<;>cases(x.1==x.2)<;>cases decide (x∈p.2.take i)<;>rfl
  rw[j];have f:((!(cy x.1 0 ((p.1.length:Int)- 1)))||!(bif !(!(cy x.1 0 ((p.1.length:Int)- 1)))then cy (bif !(!(cy x.1 0 ((p.1.length:Int)- 1)))then x.2 else 0) 0 ((p.1.length:Int)- 1)else false))=(!(cy x.1 0 ((p.1.length:Int)- 1))||!(cy x.2 0 ((p.1.length:Int)- 1))):=by
   cases cy x.1 0 ((p.1.length:Int)- 1)
   ·rfl
   ·simp only[ef,ei,cond_true]
  rw[f];cases G:(!(cy x.1 0 ((p.1.length:Int)- 1))||!(cy x.2 0 ((p.1.length:Int)- 1)))with
  |true=>rfl
  |false=>
   simp only[cond_false];cases E:(x.1==x.2)with
   |true=>rfl
   |false=>
    simp only[cond_false];refine(Km (n:=n) (body:=yj n) p.2 i (by omega) (λ y=>y.1==x.1&&y.2==x.2) (λ k=>((i:Int),(k:Int),p.1,p.2,x.1,x.2,())) (k1 ((i:Int),26,())) (again (((i+1:Nat):Int),p.1,p.2,())) (by unfold ej;omega) (by omega)
     (λ k y A B c d e again=>by simp only[yj,c,cond_true,e,eb,d]) (λ b again=>by simp only[yj,b,cond_false,a])).trans ?_
    cases(p.2.take i).any (λ y=>y.1==x.1&&y.2==x.2)with
    |true=>rfl
    |false=>
     simp only[cond_false,show((0:Int)==0)=true from rfl,cond_true];rw[w,BD q]
 ·intro v again;simp only[zm,v,cond_false,iq];rfl
theorem v46{n:Nat}(a:1000<=n){p:Pl}(hp:jg p):xy n p=some (mQ p):=by
 unfold xy mQ;rw[FK,show decide (((ea p.1:Nat):Int)>(6:Int))=decide (6<p.1.length)from Ig p.1.length 6];cases d:decide (p.1.length=0)with
 |true=>rfl
 |false=>
  cases e:decide (6<p.1.length)with
  |true=>rfl
  |false=>
   simp only[cond_false];rw[air a hp];cases f:((ix 0 [] p.1).2==0)with
   |false=>rfl
   |true=>
    simp only[cond_true];rw[show decide (((ea p.2:Nat):Int)>(30:Int))=decide (30<p.2.length)from Ig p.2.length 30];cases c:decide (30<p.2.length)with
    |true=>rfl
    |false=>
     simp only[cond_false];rw[adi a hp];cases b:((iq p.1.length 0 [] p.2).2==0)with
     |false=>rfl
     |true=>
      rw[Hh _ _ _ _ b];rfl
theorem v87{n:Nat}(a:1000<=n){p:Pl}(hp:jg p):tx n p=some (p,(mQ p).2):=by
 unfold tx;rw[show xg n (p.1,p.2)=xg n p from rfl,Ym a hp];rfl
end
section
local instance:Dr:= ⟨false⟩
theorem yG(a b:Nat):((a:Int) !=(b:Int))=!decide (a=b):=by
 rw[bne,et];simp;omega
theorem kG{α:Type}{s:List α}{i:Nat}(h:i<s.length):∃c,aG s (i:Int)=some c/\s.drop i=c::s.drop (i+1)/\s[i]?=some c:= ⟨s[i],by rw[oR,eV h],List.drop_eq_getElem_cons h,eV h⟩
def qV(z c w:Int):Int:=jh [ia (cy c 0 z&&cy w 0 3) 2,ia ((c==0)==(w==0)) 13]
def xr:List Vs->List Int->List Int->Int
 |v::vs,c::cs,w::ws=>bif qV v.2 c w==0 then xr vs cs ws else qV v.2 c w
 |_,_,_=>0
def j5(p:Pl)(s:St):Int:=bif decide (s.1.length=p.1.length)&&decide (s.2.length=p.1.length)then xr p.1 s.1 s.2 else 10
theorem Sr(v:Vs)(vs:List Vs)(c w:Int)(cs a:List Int):xr (v::vs) (c::cs) (w::a)=bif qV v.2 c w==0 then xr vs cs a else qV v.2 c w:=rfl
theorem SZ{n:Nat}(l:1000<=n){p:Pl}(hp:jg p)(s:St):px n p s=some (j5 p s):=by
 have y:=hp.v;unfold px j5;rw[show mZ n (p.1,p.2)=some ((ea p.1:Nat):Int)from rfl];simp only[eb,jv,yG];cases g:decide (s.1.length=p.1.length)with
 |false=>rfl
 |true=>
  simp only[ef,ei,cond_true,fb,Bool.true_and,yG];cases j:decide (s.2.length=p.1.length)with
  |false=>rfl
  |true=>
   simp only[ef,cond_false,cond_true];have u:=of_decide_eq_true g;have v:=of_decide_eq_true j;refine iy p.1 (λ i=>(p.1,((ea p.1:Nat):Int),(i:Int),s.1,s.2,())) (λ i r=>some (xr r (s.1.drop i) (s.2.drop i))) (by unfold ej;omega) ?_ ?_ (by omega)
   ·intro i x r o q t a b d again m;obtain⟨c,f,c2,_⟩:=kG (s:=s.1) (i:=i) (by omega);obtain⟨w,w1,w2,_⟩:=kG (s:=s.2) (i:=i) (by omega);simp only[Co,b,cond_true,a,f,w1,eb,d,Ra,Pt,jv,tP,BO l,m,c2,w2,Sr];have e:jh [ia (cy c 0 x.2&&bif cy c 0 x.2 then cy w 0 3 else false) 2,ia ((c==0)==(w==0)) 13]=qV x.2 c w:=by
     unfold qV;cases cy c 0 x.2<;>rfl
    rw[e];simp only[bne];cases h:(qV x.2 c w==0)<;>simp[h]
   ·intro k again;simp only[Co,k,cond_false];rfl
theorem Mc{n:Nat}(z:1000<=n){p:Pl}(hp:jg p)(s:St):sM n p s=some (j5 p s):=by
 have A:=hp.v;unfold sM j5;simp only[yG];cases g:decide (s.1.length=p.1.length)with
 |false=>rfl
 |true=>
  cases h:decide (s.2.length=p.1.length)with
  |false=>rfl
  |true=>
   simp only[ef,ez,cond_false,eQ,cond_true];have q:=of_decide_eq_true g;have t:=of_decide_eq_true h;refine iy p.1 (λ i=>((i:Int),p.1,p.2,s.1,s.2,())) (λ i r=>some (xr r (s.1.drop i) (s.2.drop i))) (by unfold ej;omega) ?_ ?_ (by omega)
   ·intro i x r l m o a b d again k;obtain⟨c,e,c2,_⟩:=kG (s:=s.1) (i:=i) (by omega);obtain⟨w,w1,w2,_⟩:=kG (s:=s.2) (i:=i) (by omega);simp only[DI,b,cond_true,a,e,w1,eb,d,EO,jv,k,c2,w2,Sr];have f:qV x.2 c w=bif !(cy c 0 x.2)||!(cy w 0 3)then 2 else bif !((w==0)==(c==0))then 13 else 0:=by
     unfold qV;rw[Jo];cases cy c 0 x.2<;>cases cy w 0 3<;>cases(c==0)<;>cases(w==0)<;>rfl
    rw[f];cases u:cy c 0 x.2 with
    |false=>rfl
    |true=>
     simp only[ef,ei,cond_true,fb];cases v:cy w 0 3 with
     |false=>rfl
     |true=>
      simp only[ef,cond_false];cases y:((w==0)==(c==0))<;>rfl
   ·intro j again;simp only[DI,j,cond_false];rfl
def tc(p:Pl)(s:St):Int:=bif (mQ p).2==0 then j5 p s else(mQ p).2
theorem v31{n:Nat}(a:1000<=n){p:Pl}(hp:jg p)(s:St):s31 n p s=some (tc p s):=by
 unfold s31 tc;rw[show xy n (p.1,p.2)=xy n p from rfl,v46 a hp,show sM n (p.1,p.2) (s.1,s.2)=sM n p s from rfl,Mc a hp];simp only[eb,bne];cases h:((mQ p).2==0)<;>rfl
abbrev I6:=Int×Int×Int×Int×Int×Int
def i6(l:List Int):I6:=(l[0]?.getD 0,l[1]?.getD 0,l[2]?.getD 0,l[3]?.getD 0,l[4]?.getD 0,l[5]?.getD 0)
def l6(x:I6):List Int:= [x.1,x.2.1,x.2.2.1,x.2.2.2.1,x.2.2.2.2.1,x.2.2.2.2.2]
def nd(s:St):I6×I6:=(i6 s.1,i6 s.2)
theorem r6{i:Nat}(a:i<6):cQ (i:Int) 6=some ():=by
 unfold cQ;rw[if_pos ⟨by omega,by omega⟩]
structure uv(p:Pl)(s:St):Prop where
 c:s.1.length=p.1.length
 w:s.2.length=p.1.length
end
section
local instance:Dr:= ⟨false⟩
abbrev aeu:=Pl×Tk×I6×I6
theorem F1{p:Pl}{s:St}(h:j5 p s=0):uv p s:=by
 unfold j5 at h;cases a:decide (s.1.length=p.1.length)with
 |false=>rw[a]at h;exact absurd (show(10:Int)=0 from h) (by decide)
 |true=>
  cases b:decide (s.2.length=p.1.length)with
  |false=>rw[a,b]at h;exact absurd (show(10:Int)=0 from h) (by decide)
  |true=>exact⟨of_decide_eq_true a,of_decide_eq_true b⟩
theorem abj{p:Pl}{s:St}(h:tc p s=0):(mQ p).2=0/\j5 p s=0:=by
 unfold tc at h;cases a:((mQ p).2==0)with
 |false=>rw[a]at h;simp only[cond_false]at h;simp[h]at a
 |true=>rw[a]at h;exact⟨by simpa using a,h⟩
theorem aaK{p:Pl}(h:(mQ p).2=0):1<=p.1.length/\p.1.length<=6/\p.2.length<=30:=by
 unfold mQ at h;cases a:decide (p.1.length=0)with
 |true=>rw[a]at h;exact absurd (show(10:Int)=0 from h) (by decide)
 |false=>
  cases b:decide (6<p.1.length)with
  |true=>rw[a,b]at h;exact absurd (show(8:Int)=0 from h) (by decide)
  |false=>
   rw[a,b]at h;simp only[cond_false]at h;have e:=of_decide_eq_false a;have f:=of_decide_eq_false b;cases c:((ix 0 [] p.1).2==0)with
   |false=>rw[c]at h;simp only[cond_false]at h;simp[h]at c
   |true=>
    rw[c]at h;simp only[cond_true]at h;cases d:decide (30<p.2.length)with
    |true=>rw[d]at h;exact absurd (show(8:Int)=0 from h) (by decide)
    |false=>
     have:=of_decide_eq_false d;exact⟨by omega,by omega,by omega⟩
def GC(p:Pl)(t:Tk):aeu:=(p,t,nd t.1)
theorem v22(n:Nat){p:Pl}(hp:jg p):wL n p=some p:=by
 unfold wL;have:=hp.v;have:=hp.h;rw[zG (by simp;omega),eb,zG (by simp;omega),eb];rfl
theorem Df(n:Nat)(l:List Int)(h:l.length<=1000):uV n l=some l:=by
 unfold uV;rw[zG (by simp;omega),eb];rfl
theorem MK(n:Nat)(s:St)(h1:s.1.length<=1000)(h2:s.2.length<=1000):th n s=some s:=by
 unfold th;rw[Df n _ h1,eb,Df n _ h2,eb]
theorem v18{n:Nat}(u:1000<=n)(p:Pl):∃b,xB n p=some b/\(b=true->jg p):=by
 unfold xB;generalize a:(((((decide (((ea p.1:Nat):Int)>(4:Int)))&& (decide (((ea p.1:Nat):Int)<=(6:Int))))|| (decide (((ea p.1:Nat):Int)>(8:Int))))|| ((decide (((ea p.2:Nat):Int)>(14:Int)))&& (decide (((ea p.2:Nat):Int)<=(30:Int)))))|| (decide (((ea p.2:Nat):Int)>(32:Int))))=f;cases f with
 |true=>exact⟨_,rfl,λ h=>by cases h⟩
 |false=>
  simp only[cond_false];have l:p.1.length<=8:=by
   by_cases h:p.1.length<=8
   ·exact h
   ·rw[show decide (((ea p.1:Nat):Int)>(8:Int))=true from decide_eq_true (by omega)]at a;simp at a
  have g:p.2.length<=32:=by
   by_cases h:p.2.length<=32
   ·exact h
   ·rw[show decide (((ea p.2:Nat):Int)>(32:Int))=true from decide_eq_true (by omega)]at a;simp at a
  have:=iy (n:=n) (body:=yJ n) (ks:=(λ(_)=>some (true),λ(o,_)=>some (o),())) p.1 (λ i=>((i:Int),p.1,p.2,())) (λ i r=>some (r.all λ v=>decide (v.1.length<=20)&&!(cy v.2 11 50))) (by unfold ej;omega) ?_ ?_ (by omega)
  ·refine⟨_,this,λ h=> ⟨l,g,λ v k=>?_⟩⟩;have:=List.all_eq_true.1 h v k;simp only[ep,decide_eq_true_eq]at this;exact this.1
  ·intro i x r q s t c d e again m;simp only[yJ,d,cond_true,c,eb,e,EO,jv,m,List.all_cons];rw[show decide (((ea x.1:Nat):Int)>(20:Int))=!decide (x.1.length<=20)from by
    by_cases h:x.1.length<=20
    ·rw[decide_eq_true h,decide_eq_false (by omega)];rfl
    ·rw[decide_eq_false h,decide_eq_true (by omega)];rfl]
   cases decide (x.1.length<=20)with
   |false=>rfl
   |true=>
    simp only[ef,ei,cond_true,fb,Bool.true_and];cases cy x.2 11 50<;>rfl
  ·intro j again;simp only[yJ,j,cond_false];rfl
theorem v20(n:Nat)(s:St):∃b,wX n s=some b/\(b=true->s.1.length<=10/\s.2.length<=10):=by
 refine⟨_,rfl,λ h=>?_⟩;simp only[ep,decide_eq_true_eq]at h;omega
end
section
local instance:Dr:= ⟨false⟩
def z6:I6:=(0,0,0,0,0,0)
theorem v95{n:Nat}(a:1000<=n){p:Pl}(hp:jg p)(s:St):Ij n p s=some (p,bif tc p s==0 then nd s else(z6,z6),tc p s):=by
 unfold Ij tc;rw[show tx n (p.1,p.2)=tx n p from rfl,v87 a hp,eb];simp only[bne];cases h:((mQ p).2==0)with
 |true=>
  simp only[cond_true];rw[show px n (p.1,p.2) (s.1,s.2)=px n p s from rfl,SZ a hp,eb];cases b:(j5 p s==0)with
  |true=>
   have e:j5 p s=0:=by simpa using b
   rw[e];rfl
  |false=>rfl
 |false=>
  simp only[cond_false,ei,cond_true,h];rfl
def tG(b:Int):Int->List Int->List Int->Int
 |a,c::cs,w::ws=>tG b (bif w==b then b2 .i64 (a+c)else a) cs ws
 |a,_,_=>a
theorem aac(b a c w:Int)(cs d:List Int):tG b a (c::cs) (w::d)=tG b (bif w==b then b2 .i64 (a+c)else a) cs d:=rfl
theorem aa1{b:Int}(h:(0==b)=false):(k:Nat)->(a:Int)->(cs:List Int)->tG b a cs (en k 0)=a
 |0,a,[]=>rfl
 |0,a,_::_=>rfl
 |k+1,a,[]=>rfl
 |k+1,a,c::cs=>by
  rw[List.replicate_succ,aac,h,cond_false,aa1 h k]
theorem aaY{d:Int}(h:(0==d)=false)(k:Nat):(cs b:List Int)->cs.length=b.length->(a:Int)->(e:List Int)->tG d a (cs++e) (b++en k 0)=tG d a cs b
 | [],[],_,a,e=>by
  rw[fz,fz,aa1 h];rfl
 |c::cs,w::b,hl,a,e=>by
  rw[fv,fv,aac,aac];exact aaY h k cs b (by simpa using hl) _ e
theorem abG:(l:List Int)->l.length<=6->l6 (i6 l)=l++en (6- l.length) 0
 | [],_=>rfl
 | [_],_=>rfl
 | [_,_],_=>rfl
 | [_,_,_],_=>rfl
 | [_,_,_,_],_=>rfl
 | [_,_,_,_,_],_=>rfl
 | [_,_,_,_,_,_],_=>rfl
 |_::_::_::_::_::_::_::_,h=>by simp at h
theorem v34{n:Nat}(o:1000<=n)(s:St)(b:Int)(h1:s.1.length<=900)(h2:s.2.length=s.1.length):tw n s b=some (tG b 0 s.1 s.2):=by
 unfold tw;refine abv (n:=n) s.1 (λ i a=>(b,a,(i:Int),s.1,s.2,())) (λ i a r=>some (tG b a r (s.2.drop i))) (λ _ _=>True) (by unfold ej;omega) ?_ ?_ 0 trivial (by omega)
 ·intro i g x r k l m c d f _ again j;obtain⟨w,w1,w2,_⟩:=kG (s:=s.2) (i:=i) (by omega);simp only[aaO,d,cond_true,w1,c,f,eb,w2,aac];cases e:(w==b)<;>exact j _ trivial
 ·intro g h _ again;simp only[aaO,h,cond_false];rw[List.drop_eq_nil_of_le (by omega)];cases s.1<;>rfl
theorem ack{n:Nat}(A:1000<=n)(c w:I6)(b:Int):cq (aag n) n (b,(0:Int),w,(0:Int),c.1,c.2.1,c.2.2.1,c.2.2.2.1,c.2.2.2.2.1,c.2.2.2.2.2,w.1,w.2.1,w.2.2.1,w.2.2.2.1,w.2.2.2.2.1,w.2.2.2.2.2,())
 (λ(v,_)=>some (v,(0:Int)),())=some (tG b 0 (l6 c) (l6 w),0):=by
 refine abv (n:=n) (l6 w) (λ i a=>(b,a,w,(i:Int),c.1,c.2.1,c.2.2.1,c.2.2.2.1,c.2.2.2.2.1,c.2.2.2.2.2,w.1,w.2.1,w.2.2.1,w.2.2.2.1,w.2.2.2.2.1,w.2.2.2.2.2,())) (λ i a r=>some (tG b a ((l6 c).drop i) r,0)) (λ _ _=>True) (by show 6<=ej;decide) ?_ ?_ 0 trivial (by show 6<n;omega)
 ·intro i m x r g y z j k l _ again u;have f:i<6:=g;obtain⟨d,d1,d2,_⟩:=kG (s:=l6 c) (i:=i) f;have q:decide ((i:Int)< (6:Int))=true:=k;have p:aG [w.1,w.2.1,w.2.2.1,w.2.2.2.1,w.2.2.2.2.1,w.2.2.2.2.2] (i:Int)=some x:=j;have o:aG [c.1,c.2.1,c.2.2.1,c.2.2.2.1,c.2.2.2.2.1,c.2.2.2.2.2] (i:Int)=some d:=d1;simp only[aag,q,cond_true,p,o,r6 f,l,eb,d2,aac];cases e:(x==b)<;>exact u _ trivial
 ·intro m h _ again;have t:decide (((l6 w).length:Int)< (6:Int))=false:=h;simp only[aag,t,cond_false];rfl
theorem v45{n:Nat}(b:1000<=n){p:Pl}(hp:jg p)(s:St)(a:Int):s45 n p s a=some (bif tc p s==0 then(bif cy a 1 3 then(tG a 0 s.1 s.2,0)else(0,2))else(0,tc p s)):=by
 unfold s45;rw[show Ij n (p.1,p.2) (s.1,s.2)=Ij n p s from rfl,v95 b hp,eb,Ra,eb,tP,eb];simp only[BO b,Jo,eb];cases h:(tc p s==0)with
 |false=>simp only[bne,h,ei,cond_true,cond_false]
 |true=>
  cases d:cy a 1 3 with
  |false=>simp[bne,h,ia]
  |true=>
   simp only[bne,h,ia,ef,cond_false,cond_true,beq_self_eq_true];obtain⟨k1,f⟩:=abj (by simpa using h);have c:=F1 f;have j:=(aaK k1).2.1;have g:=c.c;have i:=c.w;have e:((0:Int)==a)=false:=by
    unfold cy at d;simp at d⊢;omega
   refine(ack b (nd s).1 (nd s).2 a).trans ?_;rw[show(nd s).1=i6 s.1 from rfl,show(nd s).2=i6 s.2 from rfl,abG s.1 (by omega),abG s.2 (by omega),aaY e _ _ _ (by omega)]
theorem v44{n:Nat}(a:1000<=n){p:Pl}(hp:jg p)(s:St):s44 n p s=some (tc p s):=by
 unfold s44;rw[show Ij n (p.1,p.2) (s.1,s.2)=Ij n p s from rfl,v95 a hp,eb]
theorem ac8(m:Nat)(p:Pl)(s:St)(c:Int):s6 (m+2000) p s c=some true:=by
 generalize u:m+2000=n;have a:1000<=n:=by omega
 unfold s6;obtain⟨b,q,t⟩:=v18 a p;obtain⟨k,r,v⟩:=v20 n s;rw[show FJ n=some true from u▸acS m,eb,show xB n (p.1,p.2)=xB n p from rfl,q,show wX n (s.1,s.2)=wX n s from rfl,r];simp only[jv,eb];cases b with
 |false=>rfl
 |true=>
  cases k with
  |false=>rfl
  |true=>
   have hp:=t rfl;obtain⟨C,D⟩:=v rfl;simp only[ef,ez,cond_false];have i:wL n (p.1,p.2)=some p:=v22 n hp;have f:th n (s.1,s.2)=some s:=MK n s (by omega) (by omega);have g:s44 n p (s.1,s.2)=some (tc p s):=v44 a hp s;have x:s45 n p (s.1,s.2) c=_:=v45 a hp s c;have j:xy n (p.1,p.2)=some (mQ p):=v46 a hp;have l:s31 n (p.1,p.2) (s.1,s.2)=some (tc p s):=v31 a hp s;simp only[i,f,Ym a hp,g,x,j,l,eb,bne_self_eq_false,ez,cond_false,EO,jv];cases h:(tc p s==0)with
   |false=>
    simp only[bne,h,cond_false,Bool.false_and,ei,cond_true,beq_self_eq_true,eQ,jv,eb];rfl
   |true=>
    obtain⟨k1,w⟩:=abj (by simpa using h);have e:=F1 w;have A:=(aaK k1).2.1;have y:=e.c;have z:=e.w;have o:tw n (s.1,s.2) c=some (tG c 0 s.1 s.2):=v34 a s c (by omega) (by omega);have d:tc p s=0:=by simpa using h
    cases B:cy c 1 3 with
    |false=>simp[d,jv]
    |true=>simp[d,o,jv]
end
end Go.Abs.R
namespace Go.Rs
open Go.ChangeShapes Go.Conc Go.Proofs
theorem acj:ownKnob Tryz.prog.godebug=none:=by kernel_rfl
theorem RY:laidOutB Tryz.prog=true:=by kernel_rfl
theorem Gv:TP.globals.size=3:=by kernel_rfl
theorem VJ(g:Nat)(h:g<3):(((begin TP (λ _ _=>0) default).world.heap[g]?).bind Obj.row?).isSome=true:=by
 match g,h with
 |0,_=>exact(by kernel_rfl:(((begin TP (λ _ _=>0) default).world.heap[0]?).bind Obj.row?).isSome=true)
 |1,_=>exact(by kernel_rfl:(((begin TP (λ _ _=>0) default).world.heap[1]?).bind Obj.row?).isSome=true)
 |2,_=>exact(by kernel_rfl:(((begin TP (λ _ _=>0) default).world.heap[2]?).bind Obj.row?).isSome=true)
theorem V2(w:World)(c:w.ShapedOpen TP):TP.globals.size<=w.heap.size/\vx w:=by
 have key:∀g,g<3->∃cs t,w.heap[g]?=some (.cells cs t):=λ g a=>by
  obtain⟨⟨z,t⟩,d⟩:=Option.isSome_iff_exists.1 (VJ g a);obtain⟨cs,b,_⟩:=c.1 g z t (by rw[Gv];exact a) d;exact⟨cs,t,b⟩
 refine⟨?_,λ g a=>?_⟩
 ·obtain⟨cs,t,h⟩:=key 2 (by omega);have:=(Array.getElem?_eq_some_iff.1 h).1;rw[Gv];omega
 ·have a:Nat.blt g TP.globals.size=true:=a;rw[Gv]at a;obtain⟨cs,t,h⟩:=key g (by simpa using a);exact S8 h
end Go.Rs
namespace Go
theorem Rs.ajf(d:Looks){p:Pinned}{s:OpenSpec}{c:OpenClaim}(kinds:List LaidKind)(e:Bool)(a:Bool×String)(b g:Bool)
 (l:c.holds p s) (w:c.wfByText s=true)
 (v:c.laidByTextAt d p kinds e)
 (u:c.start= .entering) (r:c.noBlocks=false/\c.again=false) (o:p.checked.prog.mainIs=some (a.1,a.2.toList)) (q:(!a.1&&a.2.isEmpty&&!b)=false)
 (n:∀f fn,p.checked.prog.funcNamed c.func=some f->p.checked.prog.funcs[f]?=some fn->b=p.checked.prog.looks []/\∀(j:Nat)t,fn.params[j]?=some t->p.checked.prog.wantsStandIn t=false)
 (m:g=c.goesBy p.checked.prog):
 Claim7.holds p (.plain s) {stood:={row:=c,standIns:= [],harness:=a,looks:=b},kinds:= [],alts:= [],goes:=g,laidByText:=true,laidKinds:=kinds,laidTests:=e,laidLooks:=d}:=by
 have i:fx {stood:={row:=c,standIns:= [],harness:=a,looks:=b},kinds:= []}=false:=by simpa[fx]using q
 have key:=Claim7.tied_new_at d kinds e (Claim7.new_of_sixth l a b u r o i n) w;refine⟨?_,(λ D k=>by cases k),v,(λ h=>by cases h),m⟩;exact key
end Go
