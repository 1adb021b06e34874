/- Part of a proof that the statement holds. No conditions. -/
import Derived.SevenTiedAt
import Derived.Test.YtbppbacfffndaaaGreatDoorD7
set_option linter.all false
set_option maxRecDepth 100000
open List renaming length->fH,length_append->u7,getElem?_eq_some_iff->u9,range'->wS,replicate->x5,length_singleton->x8,mem_of_getElem?->y7,length_pos_iff->y8,mem_singleton->zY,getElem?_append_left->z7,mem_cons->z8,mem_append->C8,flatMap_cons->EX,mem_flatMap->K2,cons_append->K4,length_nil->K6,any_cons->P8,getElem?_eq_getElem->P9,length_eq_zero_iff->TH,length_range'->aac,nodup_append->aaw,append_assoc->aaZ,find?_cons->abJ,nil_append->abY,mem_map->acw,take->ad2
open Go.IntKind renaming wrap->ov
open Option renaming bind_some->o5,isSome_iff_exists->K8
open Bool renaming not_true->o7,not_false->u6,and_self->wH,or_self->x6,and_eq_true->abh,false_or->ab0
open Go renaming maxLen->r8,World->ack,Value->ads
open UInt8 renaming toNat->u5
open Nat renaming beq->K7,le_refl->T2,zero_add->acM,add_zero->acX
open Go.Proofs.Body2 renaming n15->K9
open Int renaming toNat->TT
open Go.RowKit.Below renaming refl->TV
open Go.Lib renaming run_eql_slice_nil->T0
open Eq renaming trans->Xs
open Go.Claim7 renaming isSixth->abr
open Go.RowKit renaming Below->ac1
open Go.Proofs.Tryz renaming f156->adV
noncomputable section
namespace Go.Proofs
open Go.Lib Go.RowKit Go.Shelf
section
abbrev rnT(T:Nat):Ren:= ⟨λ _=>0,λ x=>bif K7 x 22 then T else x,λ x=>x⟩
def qc(T:Nat)(g:Func):Func:={g with body:=(K9 (rnT T)).body,ntmps:=8,results:=(K9 (rnT T)).results}
section
variable{P:Program}{T e F sz byt:Nat}{g:Func}{z:ads}
set_option maxRecDepth 100000 in
set_option maxHeartbeats 2000000 in
theorem alp(h:P.follows .mixedOrders=true)(d:P.funcs[F]?=some (qc T g))(f:P.underlying T=some (.slice e))(j:P.underlying 4=some .bool)(n c:Nat)(w:ack):
 Calls P F #[.slice none n c] w λ e w'=>e= .returned (.slice none 0 0)/\w'=w:=by
 have i:∀(w:ack)(a:Option Addr)(n c b c':Nat),(binOp .eql T (.slice a n c) (.slice none b c')).run P w= .ok (.bool a.isNone) w:=λ w a n c b c'=>T0 w _ _ a n c b c' f
 go_enter d,(show(qc T g).ntmps=8 from rfl)
 unfold qc K9;simp only[show K7 22 22=true from rfl,show K7 4 22=false from rfl,cond_true,cond_false]
 go_wp2
 go_ret
 trivial
set_option maxRecDepth 100000 in
set_option maxHeartbeats 2000000 in
theorem alX(I:P.follows .mixedOrders=true)(v:P.funcs[F]?=some (qc T g))(h:P.underlying T=some (.slice e))(K:P.underlying 4=some .bool)(i3:(P.info? e).map (λ i=>(i.zero,i.size,i.bytes))=some (some z,sz,byt))(r:z.cells.size=sz)(p:0<sz)
 (ad:Addr)(n c:Nat)(b:List ads)(w:ack)(o:b.length=n*sz)(l:∀j u,b[j]?=some u->w.cell? (ad.add j)=some u)(h1:∀u∈b,u.oneCell'=true)(Lw:n<=r8)(k:n*byt<=140737488355328):
 Calls P F #[.slice (some ad) n c] w λ t w'=>∃v',t= .returned v'/\w'.ownsRow w.heap.size e sz v' n b/\v'≠ .slice none 0 0/\ac1 w.heap.size w w':=by
 obtain⟨D,m,B,q,C⟩:=info_parts i3
 have J:∀(w:ack)(a:Option Addr)(n c f c':Nat),(binOp .eql T (.slice a n c) (.slice none f c')).run P w= .ok (.bool a.isNone) w:=λ w a n c f c'=>T0 w _ _ a n c f c' h
 have M:∀w,(Go.sizeOf e).run P w= .ok sz w:=λ w=>by simp[Go.sizeOf,typeInfo,m,q]
 have L:∀w,Sem.run P (underlying T) w= .ok (TypeDesc.slice e) w:=run_underlying h
 have A:Aside (∀j u,b[j]?=some u->w.cell? (ad.add j)=some u):=l
 have E:Aside (∀u∈b,u.oneCell'=true):=h1
 have s:Aside (b.length=n*sz):=o
 have d:Aside (n<=r8/\n*byt<=140737488355328/\0<sz/\z.cells.size=sz):= ⟨Lw,k,p,r⟩
 clear l h1 o Lw k p r i3
 go_enter v,(show(qc T g).ntmps=8 from rfl)
 unfold qc K9;simp only[show K7 22 22=true from rfl,show K7 4 22=false from rfl,show K7 3 22=false from rfl,cond_true,cond_false]
 go_wp2_with (at_builtin; refine wpList_append_own _ rfl _ _ T rfl w.heap.size e D z sz byt h m B q C d.out.2.2.2 d.out.2.2.1 _ _ _ rfl (World.ownsRow_made w #[] 0 (T2 _) (Nat.zero_le _) (by simp)) ad n c b rfl ?qc1 ?qc2 ?qc3 ?qc4 ?qc5 ?qc6 ?_)
 case qc1=>exact s.out
 case qc2=>
  intro j u y;refine Lib.cell?_alloc_some _ ?_;exact A.out j u y
 case qc3=>trivial
 case qc4=>have:=d.out.1;omega
 case qc5=>have:=d.out.2.1;grind
 case qc6=>simp
 intro v' w1 H x G
 go_wp2
 go_ret
 refine⟨v',rfl,by omega,?_,?_⟩
 ·omega
 ·exact((TV _ w).alloc (T2 _) _).grown x (by simp) (by grind[Value.ownBlock])
end
end
end Go.Proofs
namespace Go.Abs.R
open Go Go.Abs
local instance:Dr:= ⟨false⟩
theorem akN{P:Program}{t:Ty}{T e F byt:Nat}{g:Func}{z:ads}(l:P.funcs[F]?=some (Proofs.qc T g))(a:lE P F)(M:P.follows .mixedOrders=true)(N:P.underlying T=some (.slice e))(O:P.underlying 4=some .bool)
 (i3:(P.info? e).map (λ i=>(i.zero,i.size,i.bytes))=some (some z,t.a,byt))(ae:z.cells.size=t.a)(J:0<t.a)(U:byt<=32768):
 jf P F ⟨[.aH t],[],[.aH t],λ x _=>(jk (fH (α:=t.b) x)).bind λ _=>some x,true⟩:=by
 refine⟨a,λ w ok vs cs x y r ab ac K=>?_⟩
 obtain⟨us,rfl,L⟩:=ab
 have V:cs= []:=ac
 subst V
 have K:(jk (fH (α:=t.b) x)).bind (λ _=>some x)=some r:=K
 have D:fH (α:=t.b) x<=iZ/\r=x:=by grind[jk]
 obtain⟨D,rfl⟩:=D
 obtain⟨ad,cap,rfl,aj,_⟩:=id L
 obtain⟨o,af,ag,Q,n,I⟩:=Ug J L
 cases Q
 have X:fH (α:=t.b) r<=4294967296:=D
 have fin:∀(w':ack)(v':ads),((v'= .slice none 0 0/\r= [])\/w'.ownsRow w.heap.size e t.a v' (fH (α:=t.b) r) o)->ac1 w.heap.size w w'->
  ∃v,Ending.returned v'= .returned v/\cm w w'/\iL P w' (ft ok w) [.aH t] v r/\(true=true->kz P w.heap.size w' (ft ok w) [.aH t] v r):=by
  intro w' v' Z a
  have l:rj P w.heap.size w' (ft ok w) t v' r:=by
   rcases Z with h|⟨_,⟨k,f⟩|⟨g,c,p,k,f,q,s,A,G,B⟩⟩
   ·exact .inl h
   ·exact .inl (by grind)
   ·refine .inr ⟨g,0,c,p,e,k,f,q,s,A,by grind,λ i z m=>?_⟩
    have W:i< (fH (α:=t.b) r):=(u9.1 m).1
    have al:i*t.a+t.a<=fH (α:=t.b) r*t.a:=by rw[<-Nat.succ_mul];exact Nat.mul_le_mul_right _ W
    have:aS p.toList (0+i*t.a) t.a=aS o (i*t.a) t.a:=by
     rw[acM,<-B];unfold aS;rw[List.drop_take,List.take_take,Nat.min_eq_left (by omega)]
    rw[this];exact(n.2.2 i z m).b t ⟨a.size,λ b _ h=>a.block b h⟩ λ b R H=> ⟨.inl R,by omega⟩
  refine⟨_,rfl,⟨a.os,a.tape,⟨a.output,λ d=>(by cases d)⟩,a.size,a.block⟩,⟨[v'],rfl,?_⟩,λ _=>l⟩
  rcases l with⟨k,f⟩|⟨g,off,c,p,E,k,f,q,s,A,G,B⟩
  ·exact⟨none,0,by rw[k,f];rfl,by rw[f];simp,.inl rfl⟩
  ·exact⟨_,c,by rw[k],s,.inr ⟨g,_,_,_,_,rfl,.inr f,q,G,.inr A,λ i x m=>(B i x m).b t ⟨T2 _,λ _ _ _=>rfl⟩ λ b h _=>h.1⟩⟩
 show Calls P F #[.slice ad (fH (α:=t.b) r) cap] w _
 cases ad with
 |none=>
  have Y:r= []:=by
   rcases I with h|⟨b,off,cs,E,fr,h,_⟩
   ·exact h.1
   ·cases h
  subst Y;refine(Proofs.alp M l N O _ _ w).mono ?_;simp_all[TV]
 |some ad=>
  refine(Proofs.alX M l N O i3 ae J ad _ cap o w n.1 (λ j u C=>?_) (λ v aa=>V7 (n.2.1 v aa)) (by unfold r8;omega) ?_).mono ?_
  ·rcases I with h|⟨b,off,cs,E,fr,h,H,ah,S⟩
   ·grind
   ·cases h;rw[qf];have am:=n.1
    have ak:j<o.length:=(u9.1 C).1
    rw[cell_of_row w b _ _ _ _ H];rw[<-S]at C;obtain⟨_,ai⟩:=Ct C
    grind
  ·have:=Nat.mul_le_mul X U;omega
  grind
abbrev amI(t:Ty):fc:= ⟨[.aH t],[],[.aH t],λ x _=>(jk (fH (α:=t.b) x)).bind λ _=>some x,true⟩
theorem aks{t:Ty}{T e F byt:Nat}{g:Func}{z:ads}(a:Rs.FM.Q.funcs[F]?=some g)(d:g=Proofs.qc T g:=by kernel_rfl)(b:((g.name== "runtime.NumGoroutine")=false/\g.body.isNone=false):=by constructor<;>kernel_rfl)(j:Rs.FM.Q.underlying T=some (.slice e):=by kernel_rfl)
 (i3:(Rs.FM.Q.info? e).map (λ i=>(i.zero,i.size,i.bytes))=some (some z,t.a,byt):=by kernel_rfl)(h:z.cells.size=t.a:=by kernel_rfl)(f:0<t.a:=by decide)(c:byt<=32768:=by decide):jf Rs.FM.Q F (amI t):=
 akN (a.trans (congrArg some d)) ⟨_,a,b⟩ Rs.FM.b j (by kernel_rfl) i3 h f c
end Go.Abs.R
end
namespace Go.Abs.R
open Go.Abs Go.Proofs.Tryz
open Go.Abs.N(IY H2 zQ vk yf BY C5 En Gt tN Hv yp tR xA)
section
local instance:Dr:= ⟨false⟩
noncomputable section
abbrev o6(D A R:Type):=D->(D->Option R)->(A->Option R)×Unit->Option R
abbrev a8(D A B R:Type):=D->(D->Option R)->(A->Option R)×(B->Option R)×Unit->Option R
abbrev akP(D Y A R:Type):=D->Y->(D->Option R)->(A->Option R)×Unit->Option R
abbrev J3(T:Type):=Int×Int×Int×T
abbrev J5(T:Type):=Int×Int×Int×Int×Int×T
abbrev oH(T:Type):=Int×Int×Int×Int×Int×Int×Int×Int×Int×Int×Int×Int×T
abbrev Eo(E:aq):=al Rs.FM.Q E
variable(n:Nat)
abbrev Z0:Ty:=.ay .i64
abbrev Z1:=J5 Int
abbrev Z2:=Z1×J5 Int
abbrev Z3:Ty:=.aF Z0 Z0
abbrev Z4:Ty:=.aH Z0
abbrev Z5:Ty:=.aF Z0 Z3
abbrev Z6:Ty:=.aF Z0 Z5
abbrev Z7:Ty:=.aF Z0 Z6
abbrev Z8:Ty:=.aF Z0 Z7
abbrev Z9:=List Int
abbrev dy:Ty:=.aF .aJ Z0
abbrev gH:=Int×Int
abbrev BW:=List UInt8
abbrev eB:=BW×Int
abbrev fh:Ty:=.aF Z4 Z4
abbrev dK:Ty:=.aH dy
abbrev gv:Ty:=.aH Z3
abbrev qG:Ty:=.aF dK gv
abbrev cN:Ty:=.aF Z8 Z8
abbrev aZ:=List gH
abbrev bZ:=List eB
abbrev cn:=Int×Z2×Int×Int
abbrev gS:Ty:=.aF fh fh
abbrev nk:=Z9×Z9
abbrev QG:=nk×Z9×Z9
abbrev Yl:=bZ×aZ
abbrev uy:=Yl×QG×Z1×J5 Int
abbrev kj:=List Z2
abbrev qZ:=Z2×cn
abbrev EM:Ty:=.aF cN Z3
abbrev qm:Ty:=.aF Z0 EM
abbrev uf:=List kj
abbrev EC:=Yl×QG×Int
abbrev um:Ty:=.aH cN
abbrev pR:=List qZ
abbrev EF:=pR×uf
abbrev Lb:=Option EF
abbrev JO:Ty:=.cO cN qm
abbrev xh:Ty:=.aH um
abbrev qL:Ty:=.aF JO xh
abbrev Z40:Ty:=.aF gS cN
abbrev QQ:Ty:=.aF qG Z40
abbrev qE:=Lb×Bool
abbrev Ah:=List BW
abbrev qJ:=Option uy
abbrev Cu:=Lb×Z2×Int
abbrev tZ:Ty:=.ec QQ
abbrev AU:=List BW
abbrev zp:=Int×Int×Int
abbrev xR:Ty:=.ec qL
abbrev LJ:=QG×Int
abbrev Bu:=Z2×Int×Z2×Int×Int
abbrev Fp:=aZ×Int
abbrev Jz:Ty:=.dP cN .aO
abbrev Iq:Ty:=.dP dy .aO
abbrev Fc:Ty:=.aF cN qm
abbrev Z56:Ty:=.aH .aJ
abbrev X0(k:Nat):Nat×mS:=(k,.cp qG [.aj dK,.aj gv])
abbrev X1(k:Nat):Nat×mS:=(k,.cp gS [.j6,.j6,.j6,.j6])
abbrev X2(k:Nat):Nat×mS:=(k,.cp qG [.j6,.j6])
abbrev X3(k:Nat):Nat×mS:=(k,.cp cN (x5 12 (.aj Z0)))
abbrev X4(k:Nat):Nat×mS:=(k,.cp fh [.aj Z4,.aj Z4])
abbrev X5(k:Nat):Nat×mS:=(k,.cp gS [.aj Z4,.aj Z4,.aj Z4,.aj Z4])
abbrev X6(k:Nat):Nat×mS:=(k,.cp .aJ [.aj .aJ])
abbrev Xb(k a:Nat):Nat×ki:=(k,.v (.cu a 0))
abbrev Xp(k:Nat)(t:Ty):Nat×ki:=(k,.v (.pp t))
def O6(n:Nat)(s:List eB):Option bZ:=(jk (fH s)).bind λ _=>some s
def akz:fc:= ⟨[.aH dy],[],[.aH dy],λ x y=>O6 n x,true⟩
theorem amd:jf Rs.FM.Q 139 (akz n):=aks (T:=22) (e:=136) (byt:=24) (z:= .agg #[.string ⟨⟨[]⟩⟩,.int .i64 0]) (Rs.FM.a func139 (by kernel_rfl) (by decide))
def JR(n:Nat)(s:List gH):Option aZ:=(jk (fH s)).bind λ _=>some s
def ac8:fc:= ⟨[.aH Z3],[],[.aH Z3],λ x y=>JR n x,true⟩
theorem akY:jf Rs.FM.Q 140 (ac8 n):=aks (T:=23) (e:=168) (byt:=16) (z:= .agg #[.int .i64 0,.int .i64 0]) (Rs.FM.a func140 (by kernel_rfl) (by decide))
def OZ(n:Nat)(b:eU)(a:List bS)(num:Int):Option (List bA):=Rs.CG b a num
def MS:fc:= ⟨wM,[],[.aH bq],λ x _=>OZ n x.1 x.2.1 x.2.2,true⟩
theorem aaP:jf Rs.FM.Q 147 (MS n):=Rs.Ww
def KJ(n:Nat)(s:BW):Option gH:=none
def M6:fc:= ⟨[.aJ],[],[.ay .i32,.ay .i64],λ x y=>KJ n x,false⟩
theorem aeb(n:Nat):jf Rs.FM.Q 157 (M6 n):=by
 refine⟨⟨_,Rs.iC func157 (by kernel_rfl) (by decide),by kernel_rfl,by kernel_rfl⟩,?_⟩;intro w ok vs cs x y r b c a;cases a
def gT:List (Nat×eZ):= [(3,⟨Z0,0,false⟩),(4,⟨.aO,0,false⟩),(5,⟨(.ay .u8),0,false⟩),(9,⟨.aJ,0,false⟩),(21,⟨(.ay .i32),0,false⟩),(22,⟨dK,0,false⟩),(23,⟨gv,0,false⟩),(25,⟨qG,2,false⟩),(26,⟨Z4,0,false⟩),(28,⟨fh,2,false⟩),(30,⟨gS,3,false⟩),(35,⟨Z0,0,false⟩),(46,⟨(.aH Z5),0,false⟩),(56,⟨Z3,2,false⟩),(59,⟨gv,0,false⟩),(134,⟨Z5,3,false⟩),(136,⟨dy,2,false⟩),(138,⟨qG,1,false⟩),(143,⟨tZ,1,false⟩),(147,⟨Z8,6,true⟩),(149,⟨cN,2,false⟩),(151,⟨QQ,3,false⟩),(152,⟨Jz,0,false⟩),(168,⟨Z3,2,true⟩),(173,⟨xR,1,false⟩),(177,⟨qm,3,false⟩),(178,⟨JO,0,false⟩),(179,⟨xh,0,false⟩),(181,⟨qL,2,false⟩),(182,⟨Z56,0,false⟩),(191,⟨um,0,false⟩),(205,⟨Z4,0,false⟩),(207,⟨(.aH (.ay .u8)),0,false⟩),(209,⟨Iq,0,false⟩),(228,⟨(.aH Fc),0,false⟩),(231,⟨Fc,2,false⟩)]
def gQ:List (Nat×Ty):= [(56,Z3),(136,dy),(168,Z3)]
theorem q56:zP Rs.FM.Q 56 Z3:=JF (d:=40) (by decide) (by kernel_rfl) rfl (by kernel_rfl)
theorem al0:zP Rs.FM.Q 136 dy:=JF (d:=40) (by decide) (by kernel_rfl) rfl (by kernel_rfl)
theorem XI:zP Rs.FM.Q 168 Z3:=JF (d:=40) (by decide) (by kernel_rfl) rfl (by kernel_rfl)
theorem amQ{P:Program}{E:aq}(h:al P E){G Q}(g:al P ⟨G,[],Q,[],[]      ⟩):al P ⟨G,E.C,Q,E.I,[]      ⟩:={g with h:=h.h,j:=h.j}
def e0(n:Nat):aq:= ⟨gT,(N.qH n).C,gQ,(N.qH n).I,[]      ⟩
theorem h0:Eo (e0 n):=amQ (N.xm Rs.FM n) (GI (GI (GI (IN (by kernel_rfl)) XI) al0) q56)
def zC(n:Nat):Option Yl:=some (([([97],8),([98],5),([99],3)]:List eB),([(0,1),(0,2),(1,0),(1,2),(2,0),(2,1)]:List gH))
def e1:=(e0 n).a 84 ⟨[],[],[qG],λ x y=>zC n,false⟩
theorem h1:Eo (e1 n):=dw Rs.FM (h0 n) func84
def DU(n:Nat):Option nk:=some (([8,0,0]:List Int),([1,0,0]:List Int))
def e2:=(e1 n).a 85 ⟨[],[],[fh],λ x y=>DU n,false⟩
theorem h2:Eo (e2 n):=dw Rs.FM (h1 n) func85
def yM(n:Nat):a8 (BW×Z9×Int×Int×Unit) (BW×Unit) (Bool×Unit) Bool:=λ(s,b,c,a,_) again (k0,k1,_)=>bif decide (a<c)then(aG b a).bind λ e=>bif (!(((decide (e>=97))&& (decide (e<=122)))|| ((decide (e>=65))&& (decide (e<=90)))))&& ((a==0)|| ((e !=45)&& ((decide (e<48))|| (decide (e>57)))))then k1 (false,())else again (s,b,c,(ov .i64 (a+1)),())else k0 (s,())
def B9(s:BW):Option Bool:=cq (yM n) n (s,(kv s),((fH (kv s):Nat):Int),0,()) (λ(a,_)=>some ((a != [])&& (decide ((fH a:Int)<=12))),λ(b,_)=>some b,())
def e5:=(e2 n).a 106 ⟨[.aJ],[],[.aO],λ x y=>B9 n x,false⟩
theorem h5:Eo (e5 n):=gD Rs.FM (h2 n) func106 (O:= [_]) ⟨gh n (h2 n) (eN 54 [aT 0 .aJ,aT 7 (.aH (.ay .u8)),aT 8 Z0,aT 9 Z0] []) [fq 0 54 [aT 0 .aJ] [],fw 54 [aT 2 .aO] []] (yM n),trivial⟩
def Jr(n:Nat)(v:BW×Int)(a:BW):Option Bool:=some (v.1==a)
def e6:=(e5 n).a 137 ⟨[dy],[.aJ],[.aO],λ x y=>Jr n x y,false⟩
theorem h6:Eo (e6 n):=dw Rs.FM (h5 n) func137
def xO(n:Nat):a8 (bZ×(eB->Option Bool)×Int×Int×Unit) Unit (Int×Unit) Int:=λ(s,f,b,a,_) again (k0,k1,_)=>bif decide (a<b)then(aG s a).bind λ e=>(f e).bind λ x=>bif x then k1 (a,())else again (s,f,b,(ov .i64 (a+1)),())else k0 ()
def IH(s:List eB)(f:eB->Option Bool):Option Int:=cq (xO n) n (s,f,(fH s:Int),0,()) (λ(_)=>some (-1),λ(a,_)=>some a,())
def e7:=(e6 n).a 136 ⟨[dK,Iq],[],[Z0],λ x y=>IH n x.1 x.2,false⟩
theorem h7:Eo (e7 n):=gD Rs.FM (h6 n) func136 (O:= [_]) ⟨gh n (h6 n) (eN 19 [aT 0 dK,aT 1 Iq,aT 7 Z0,aT 8 Z0] []) [fq 0 19 [] [],fw 19 [aT 4 Z0] []] (xO n),trivial⟩
def vV(l:List eB)(name:BW):Option Int:=(IH n l (λ a=>Jr n a name)).bind λ x=>some x
def e8:=(e7 n).a 107 ⟨[dK,.aJ],[],[Z0],λ x y=>vV n x.1 x.2,false⟩
theorem h8:Eo (e8 n):=dw Rs.FM (h7 n) func107
def EJ(a:Int):Option Bool:=(H2 n a 1 50).bind λ x=>some x
def Lr:=(e8 n).a 101 ⟨[Z0],[],[.aO],λ x y=>EJ n x,false⟩
theorem h10:Eo (Lr n):=dw Rs.FM (h8 n) func101
def vO(b:Int)(a:bZ×aZ):Option Bool:=(H2 n b 0 (ov .i64 ((fH a.1:Int)- 1))).bind λ x=>some x
def OO:=(Lr n).a 108 ⟨[Z0],[qG],[.aO],λ x y=>vO n x y,false⟩
theorem Sp:Eo (OO n):=dw Rs.FM (h10 n) func108
def Au:a8 (bZ×Int×Int×bZ×aZ×Unit) (bZ×aZ×Unit) (Int×Int×Unit) gH:=λ(c,d,a,p,b,_) again (k0,k1,_)=>bif decide (a<d)then(aG c a).bind λ e=>(B9 n e.1).bind λ x=>(vk n x 4).bind λ g=>(iB p 0 a).bind λ h=>(vV n h e.1).bind λ i=>(vk n (decide (i<0)) 5).bind λ j=>(EJ n e.2).bind λ k=>(vk n k 2).bind λ l=>(C5 n ([g,j,l]:List Int)).bind λ f=>bif f !=0 then k1 (a,f,())else again (c,d,(ov .i64 (a+1)),p,b,())else k0 (p,b,())
def Ag:a8 (Yl×(Int->Option Bool)×aZ×Int×Int×Unit) Unit (Int×Int×Unit) gH:=λ(p,c,d,f,a,_) again (k0,k1,_)=>bif decide (a<f)then(aG d a).bind λ e=>(cQ 0 2).bind λ u=>(aG [e.1,e.2] 0).bind λ x=>(c x).bind λ b=>(bI b (cQ 1 2) ()).bind λ s=>(bI b (aG [e.1,e.2] 1) 0).bind λ i=>(bI b (c i) false).bind λ j=>(vk n (b&&j) 6).bind λ k=>(cQ 0 2).bind λ t=>(aG [e.1,e.2] 0).bind λ l=>(cQ 1 2).bind λ v=>(aG [e.1,e.2] 1).bind λ m=>(vk n (l !=m) 11).bind λ o=>(iB p.2 0 a).bind λ q=>(BY n q e).bind λ r=>(vk n (!r) 26).bind λ h=>(C5 n ([k,o,h]:List Int)).bind λ g=>bif g !=0 then k1 (a,g,())else again (p,c,d,f,(ov .i64 (a+1)),())else k0 ()
def xg(p:bZ×aZ):Option gH:=(vk n (decide ((fH p.1:Int)>0)) 10).bind λ x=>(vk n (decide ((fH p.1:Int)<=6)) 8).bind λ h=>(C5 n ([x,h]:List Int)).bind λ c=>bif c !=0 then some (0,c)else cq (Au n) n (p.1,(fH p.1:Int),0,p.1,p.2,()) (λ(b,a,_)=>bif decide ((fH a:Int)>30)then some (0,8)else cq (Ag n) n ((b,a),(λ i=>vO n i (b,a)),a,(fH a:Int),0,()) (λ(_)=>some (0,0),λ(d,f,_)=>some (d,f),()),λ(e,g,_)=>some (e,g),())
def QX:=(OO n).a 43 ⟨[qG],[],[Z0,Z0],λ x y=>xg n x,false⟩
theorem h14:Eo (QX n):=gD Rs.FM (Sp n) func43 (O:= [_,_]) ⟨gh n (Sp n) (eN 104 [Xb 1 104,aT 28 dK,aT 29 Z0,aT 30 Z0] [X0 104]) [fq 0 104 [Xb 1 104] [X0 104],fw 104 [aT 2 Z0,aT 3 Z0] []] (Au n),gh n (Sp n) (eN 104 [Xp 1 qG,aT 8 (.dP Z0 .aO),aT 65 gv,aT 66 Z0,aT 67 Z0] []) [fq 2 104 [] [],fw 104 [aT 2 Z0,aT 3 Z0] []] (Ag n),trivial⟩
def tx(p:bZ×aZ):Option (Yl×Int):=(xg n p).bind λ x=>some (p,x.2)
def Rf:=(QX n).a 87 ⟨[qG],[],[qG,Z0],λ x y=>tx n x,false⟩
theorem Vw:Eo (Rf n):=dw Rs.FM (h14 n) func87
def Dy(a:Int):Option Bool:=(H2 n a 0 3).bind λ x=>some x
def NZ:=(Rf n).a 132 ⟨[Z0],[],[.aO],λ x y=>Dy n x,false⟩
theorem NP:Eo (NZ n):=dw Rs.FM (Vw n) func132
def Co:a8 (bZ×Int×Int×Z9×Z9×Unit) Unit (Int×Unit) Int:=λ(f,g,a,s,d,_) again (k0,k1,_)=>bif decide (a<g)then(aG f a).bind λ e=>(aG s a).bind λ b=>(aG d a).bind λ c=>(H2 n b 0 e.2).bind λ x=>(bI x (Dy n c) false).bind λ i=>(vk n (x&&i) 2).bind λ j=>(vk n ((b==0)==(c==0)) 13).bind λ k=>(C5 n ([j,k]:List Int)).bind λ h=>bif h !=0 then k1 (h,())else again (f,g,(ov .i64 (a+1)),s,d,())else k0 ()
def px(p:bZ×aZ)(s:Z9×Z9):Option Int:=(IY n p).bind λ x=>(bI (!((fH s.1:Int) !=x)) (IY n p) 0).bind λ b=>bif ((fH s.1:Int) !=x)|| ((fH s.2:Int) !=b)then some 10 else cq (Co n) n (p.1,(fH p.1:Int),0,s.1,s.2,()) (λ(_)=>some 0,λ(a,_)=>some a,())
def JC:=(NZ n).a 91 ⟨[qG,fh],[],[Z0],λ x y=>px n x.1 x.2,false⟩
theorem NC:Eo (JC n):=gD Rs.FM (NP n) func91 (O:= [_]) ⟨gh n (NP n) (eN 64 [Xb 3 64,aT 26 dK,aT 27 Z0,aT 28 Z0] [X4 64]) [fq 0 64 [] [],fw 64 [aT 4 Z0] []] (Co n),trivial⟩
def tj(n:Nat)(s:Z9×Z9):Option Z2:=(kZ 6 6).bind λ u=>(kZ 6 6).bind λ a=>some (((bif decide (0<6)then(s.1[0]?).getD 0 else 0),(bif decide (1<6)then(s.1[1]?).getD 0 else 0),(bif decide (2<6)then(s.1[2]?).getD 0 else 0),(bif decide (3<6)then(s.1[3]?).getD 0 else 0),(bif decide (4<6)then(s.1[4]?).getD 0 else 0),(bif decide (5<6)then(s.1[5]?).getD 0 else 0)),(bif decide (0<6)then(s.2[0]?).getD 0 else 0),(bif decide (1<6)then(s.2[1]?).getD 0 else 0),(bif decide (2<6)then(s.2[2]?).getD 0 else 0),(bif decide (3<6)then(s.2[3]?).getD 0 else 0),(bif decide (4<6)then(s.2[4]?).getD 0 else 0),(bif decide (5<6)then(s.2[5]?).getD 0 else 0))
def Oo:aq:=(JC n).n [5,10]
theorem agq:al Rs.FM.Q (Oo n):=IV (NC n) _
def HC:fc:= ⟨[fh],[],[cN],λ x y=>tj n x,false⟩
theorem aax(x:ax [fh])(y:ax []):oI (Oo n) f93 [fh] [] [cN] false [] x y=(HC n).g x y:=by kernel_rfl
theorem XG:jf Rs.FM.Q 93 (HC n):=xz (agq n) Rs.FM.b (Rs.FM.a func93 (by kernel_rfl) (by decide)) (by kernel_rfl) (by kernel_rfl) (O:= []) trivial (aax n)
def KA:=(JC n).a 93 (HC n)
theorem h19:Eo (KA n):=mN (NC n) (XG n)
def Ij(p:bZ×aZ)(s:Z9×Z9):Option (Yl×Z2×Int):=(tx n p).bind λ x=>bif x.2==0 then(px n x.1 s).bind λ a=>bif a !=0 then some (x.1,((0,0,0,0,0,0),0,0,0,0,0,0),a)else(tj n s).bind λ b=>some (x.1,b,0)else bif x.2 !=0 then some (x.1,((0,0,0,0,0,0),0,0,0,0,0,0),x.2)else(tj n s).bind λ c=>some (x.1,c,0)
def OA:=(KA n).a 95 ⟨[qG,fh],[],[qG,cN,Z0],λ x y=>Ij n x.1 x.2,false⟩
theorem VP:Eo (OA n):=dw Rs.FM (h19 n) func95
def IF:=(OA n).a 133 (PJ n)
theorem PM:Eo (IF n):=mN (VP n) (ac3 n)
def yw(a:Z1×J5 Int)(b:Int):Option nk:=(kZ b 6).bind λ u=>(Gu n (ad2 (TT b) [a.1.1,a.1.2.1,a.1.2.2.1,a.1.2.2.2.1,a.1.2.2.2.2.1,a.1.2.2.2.2.2])).bind λ x=>(kZ b 6).bind λ d=>(Gu n (ad2 (TT b) [a.2.1,a.2.2.1,a.2.2.2.1,a.2.2.2.2.1,a.2.2.2.2.2.1,a.2.2.2.2.2.2])).bind λ c=>some (x,c)
def R2:aq:=(IF n).n [1000002]
theorem aiK:al Rs.FM.Q (R2 n):=IV (PM n) _
def JH:fc:= ⟨[cN,Z0],[],[fh],λ x y=>yw n x.1 x.2,false⟩
theorem YX(x:ax [cN,Z0])(y:ax []):oI (R2 n) f102 [cN,Z0] [] [fh] false [] x y=(JH n).g x y:=by kernel_rfl
theorem aiN:jf Rs.FM.Q 102 (JH n):=xz (aiK n) Rs.FM.b (Rs.FM.a func102 (by kernel_rfl) (by decide)) (by kernel_rfl) (by kernel_rfl) (O:= []) trivial (YX n)
def Mp:=(IF n).a 102 (JH n)
theorem h24:Eo (Mp n):=mN (PM n) (aiN n)
def Na(p:bZ×aZ)(s:Z9×Z9)(m:Int×Int):Option (nk×Int):=(Ij n p s).bind λ x=>bif x.2.2==0 then(En n x.1 x.2.1 m).bind λ a=>bif a.2 !=0 then some ((([]:List Int),([]:List Int)),a.2)else(IY n x.1).bind λ b=>(yw n a.1 b).bind λ c=>some (c,0)else bif x.2.2 !=0 then some ((([]:List Int),([]:List Int)),x.2.2)else(IY n x.1).bind λ d=>(yw n x.2.1 d).bind λ e=>some (e,0)
def Lh:=(Mp n).a 35 ⟨[qG,fh,Z3],[],[fh,Z0],λ x y=>Na n x.1 x.2.1 x.2.2,false⟩
theorem h25:Eo (Lh n):=dw Rs.FM (h24 n) func35
def LQ:Option QG:=(DU n).bind λ x=>some (x,([4,4,0]:List Int),([0,0,0]:List Int))
def MH:=(Lh n).a 86 ⟨[],[],[gS],λ x y=>LQ n,false⟩
theorem Mw:Eo (MH n):=dw Rs.FM (h25 n) func86
def Em:a8 (bZ×Int×Int×Z9×Z9×Z9×Z9×Unit) Unit (Int×Unit) Int:=λ(d,f,b,t,j,g,h,_) again (k0,k1,_)=>bif decide (b<f)then(aG d b).bind λ e=>(aG g b).bind λ a=>(aG h b).bind λ c=>(bI (!(a==(-1))) (H2 n a 0 e.2) false).bind λ x=>(bI ((a==(-1))||x) (Dy n c) false).bind λ k=>(vk n (((a==(-1))||x)&&k) 2).bind λ l=>(vk n ((c==0)|| (a !=0)) 13).bind λ m=>(C5 n ([l,m]:List Int)).bind λ i=>bif i !=0 then k1 (i,())else again (d,f,(ov .i64 (b+1)),t,j,g,h,())else k0 ()
def v7(p:bZ×aZ)(t:nk×Z9×Z9):Option Int:=(px n p t.1).bind λ x=>(IY n p).bind λ a=>(bI ((fH t.2.1:Int)==a) (IY n p) 0).bind λ d=>(vk n (((fH t.2.1:Int)==a)&& ((fH t.2.2:Int)==d)) 10).bind λ e=>(C5 n ([x,e]:List Int)).bind λ b=>bif b !=0 then some b else cq (Em n) n (p.1,(fH p.1:Int),0,t.1.1,t.1.2,t.2.1,t.2.2,()) (λ(_)=>some 0,λ(c,_)=>some c,())
def QI:=(MH n).a 88 ⟨[qG,gS],[],[Z0],λ x y=>v7 n x.1 x.2,false⟩
theorem UR:Eo (QI n):=gD Rs.FM (Mw n) func88 (O:= [_]) ⟨gh n (Mw n) (eN 80 [Xb 3 80,aT 37 dK,aT 38 Z0,aT 39 Z0] [X5 80]) [fq 0 80 [] [],fw 80 [aT 4 Z0] []] (Em n),trivial⟩
def ux(p:bZ×aZ)(t:nk×Z9×Z9):Option Int:=(tx n p).bind λ x=>bif x.2 !=0 then some x.2 else(v7 n x.1 t).bind λ a=>some a
def Rq:=(QI n).a 21 ⟨[qG,gS],[],[Z0],λ x y=>ux n x.1 x.2,false⟩
theorem Uo:Eo (Rq n):=dw Rs.FM (UR n) func21
def vm(p:bZ×aZ)(t:nk×Z9×Z9):Option (qJ×Int):=(ux n p t).bind λ x=>bif x !=0 then some ((none:Option uy),x)else(tj n t.1).bind λ a=>some ((some (p,t,a)),0)
def LP:=(Rq n).a 90 ⟨[qG,gS],[],[tZ,Z0],λ x y=>vm n x.1 x.2,false⟩
theorem h29:Eo (LP n):=dw Rs.FM (Uo n) func90
def Q9:=(LP n).a 147 (MS n)
theorem FF:Eo (Q9 n):=mN (h29 n) (aaP n)
def Te(n:Nat):a8 (Int×Int×bZ×aZ×pR×uf×kj×(List Bu)×Unit) (bZ×aZ×pR×uf×kj×Unit) (Lb×Bool×Unit) qE:=λ(g,a,p,d,r,f,b,c,_) again (k0,k1,_)=>bif decide (a<g)then(aG c a).bind λ e=>(aG c a).bind λ x=>bif Option.isSome (j4 (Ty.f cN) r x.1)then again (g,(ov .i64 (a+1)),p,d,r,f,b,c,())else bif decide (((fH (lz (Ty.f cN) r x.1 x.2):Nat):Int)>4000)then k1 ((none:Option EF),false,())else(jk (fH b+fH ([x.1]:List Z2))).bind λ u=>again (g,(ov .i64 (a+1)),p,d,(lz (Ty.f cN) r x.1 x.2),f,(b++ ([x.1]:List Z2)),c,())else k0 (p,d,r,f,b,())
def Ta:a8 (kj×bZ×aZ×pR×uf×Unit) (pR×uf×Unit) (Lb×Bool×Unit) qE:=λ(last,p,d,r,b,_) again (k0,k1,_)=>bif decide ((fH last:Int)>0)then(OZ n (p,d) last (fH b:Int)).bind λ x=>cq (Te n) n ((fH x:Int),0,p,d,r,b,([]:List Z2),x,()) (λ(e,f,g,c,a,_)=>bif decide ((fH a:Int)>0)then(jk (fH c+fH ([a]:List kj))).bind λ j=>again (a,e,f,g,(c++ ([a]:List kj)),())else again (a,e,f,g,c,()),λ(h,i,_)=>k1 (h,i,()),())else k0 (r,b,())
def Qs(p:bZ×aZ)(start:Z1×J5 Int):Option qE:=(aG ([([start]:List Z2)]:List kj) 0).bind λ e=>(aG ([([start]:List Z2)]:List kj) 0).bind λ x=>cq (Ta n) n (x,p.1,p.2,(lz (Ty.f cN) ([]:List qZ) start (0,((0,0,0,0,0,0),0,0,0,0,0,0),0,0)),([([start]:List Z2)]:List kj),()) (λ(a,b,_)=>some ((some (a,b)),true),λ(c,d,_)=>some (c,d),())
def Kp:=(Q9 n).a 124 ⟨[qG,cN],[],[xR,.aO],λ x y=>Qs n x.1 x.2,false⟩
theorem Lq:Eo (Kp n):=gD Rs.FM (FF n) func124 (O:= [_]) ⟨B8 n (FF n) (eN 90 [Xb 2 90,Xb 6 91,aT 7 um] [X0 90,(91,.cp qL [.iR 92,.iR 93]),(92,.tU cN qm),(93,.jH um)]) [fq 0 90 [Xb 6 90] [(90,.cp qL [.iR 91,.iR 92]),(91,.tU cN qm),(92,.jH um)],fw 90 [aT 4 xR,aT 5 .aO] []] (Ta n) (O:= [_]) ⟨gh n (FF n) (eN 90 [Xb 2 90,Xb 6 91,(8,.v (.iR 94)),(38,.v (.iR 95)),aT 39 Z0,aT 40 Z0] [X0 90,(91,.cp qL [.iR 92,.iR 93]),(92,.tU cN qm),(93,.jH um),(94,.jH cN),(95,.jH Fc)]) [fq 2 90 [Xb 2 90,Xb 6 91,(8,.v (.iR 94))] [X0 90,(91,.cp qL [.iR 92,.iR 93]),(92,.tU cN qm),(93,.jH um),(94,.jH cN)],fw 90 [aT 4 xR,aT 5 .aO] []] (Te n),trivial⟩,trivial⟩
def B4(n:Nat):a8 (qJ×oH (Int×Int×Unit)) Unit (Bool×Unit) Bool:=λ(t,f,a,g,h,k,l,m,o,p,q,r,s,i,j,_) again (k0,k1,_)=>bif decide (a<f)then t.bind λ x=>(aG x.2.1.2.1 a).bind λ e=>(bI (e !=(-1)) t (([],[]),(([],[]),[],[]),(0,0,0,0,0,0),0,0,0,0,0,0)).bind λ w=>(bI (e !=(-1)) (aG w.2.1.2.1 a) 0).bind λ b=>(bI (e !=(-1)) (cQ a 6) ()).bind λ u=>(bI (e !=(-1)) (aG [g,h,k,l,m,o] a) 0).bind λ c=>(bI (!((e !=(-1))&& (b !=c))) t (([],[]),(([],[]),[],[]),(0,0,0,0,0,0),0,0,0,0,0,0)).bind λ y=>(bI (!((e !=(-1))&& (b !=c))) (aG y.2.1.2.2 a) 0).bind λ d=>(bI ((!((e !=(-1))&& (b !=c)))&& (d !=0)) t (([],[]),(([],[]),[],[]),(0,0,0,0,0,0),0,0,0,0,0,0)).bind λ z=>(bI ((!((e !=(-1))&& (b !=c)))&& (d !=0)) (aG z.2.1.2.2 a) 0).bind λ v=>(bI ((!((e !=(-1))&& (b !=c)))&& (d !=0)) (cQ a 6) ()).bind λ B=>(bI ((!((e !=(-1))&& (b !=c)))&& (d !=0)) (aG [p,q,r,s,i,j] a) 0).bind λ A=>bif ((e !=(-1))&& (b !=c))|| ((d !=0)&& (v !=A))then k1 (false,())else again (t,f,(ov .i64 (a+1)),g,h,k,l,m,o,p,q,r,s,i,j,())else k0 ()
def ud(t:Option uy)(a:Z1×J5 Int):Option Bool:=t.bind λ x=>cq (B4 n) n (t,(fH x.1.1:Int),0,a.1.1,a.1.2.1,a.1.2.2.1,a.1.2.2.2.1,a.1.2.2.2.2.1,a.1.2.2.2.2.2,a.2.1,a.2.2.1,a.2.2.2.1,a.2.2.2.2.1,a.2.2.2.2.2.1,a.2.2.2.2.2.2,()) (λ(_)=>some true,λ(b,_)=>some b,())
def SO:=(Kp n).a 92 ⟨[tZ,cN],[],[.aO],λ x y=>ud n x.1 x.2,false⟩
theorem L0:Eo (SO n):=gD Rs.FM (Lq n) func92 (O:= [_]) ⟨gh n (Lq n) (eN 67 [aT 0 tZ,Xb 3 67,aT 12 Z0,aT 13 Z0] [X3 67]) [fq 0 67 [] [],fw 67 [aT 4 .aO] []] (B4 n),trivial⟩
def N8(n:Nat):a8 (kj×(Z2->Option Bool)×Int×Int×Unit) Unit (Int×Unit) Int:=λ(s,f,b,a,_) again (k0,k1,_)=>bif decide (a<b)then(aG s a).bind λ e=>(f e).bind λ x=>bif x then k1 (a,())else again (s,f,b,(ov .i64 (a+1)),())else k0 ()
def Pg(s:List Z2)(f:Z2->Option Bool):Option Int:=cq (N8 n) n (s,f,(fH s:Int),0,()) (λ(_)=>some (-1),λ(a,_)=>some a,())
def Ti:=(SO n).a 141 ⟨[um,Jz],[],[Z0],λ x y=>Pg n x.1 x.2,false⟩
theorem M7:Eo (Ti n):=gD Rs.FM (L0 n) func141 (O:= [_]) ⟨gh n (L0 n) (eN 19 [aT 0 um,aT 1 Jz,aT 7 Z0,aT 8 Z0] []) [fq 0 19 [] [],fw 19 [aT 4 Z0] []] (N8 n),trivial⟩
def T6:a8 (qJ×Lb×uf×oH (Int×Int×Unit)) (oH Unit) (Lb×oH (Int×Unit)) Cu:=λ(t,r,c,d,b,f,g,j,k,l,m,o,p,q,s,h,i,_) again (k0,k1,_)=>bif decide (b<d)then(aG c b).bind λ e=>(Pg n e (λ u=>ud n t u)).bind λ x=>bif decide (x>=0)then(aG e x).bind λ a=>k1 (r,0,a.1.1,a.1.2.1,a.1.2.2.1,a.1.2.2.2.1,a.1.2.2.2.2.1,a.1.2.2.2.2.2,a.2.1,a.2.2.1,a.2.2.2.1,a.2.2.2.2.1,a.2.2.2.2.2.1,a.2.2.2.2.2.2,())else again (t,r,c,d,(ov .i64 (b+1)),f,g,j,k,l,m,o,p,q,s,h,i,())else k0 (f,g,j,k,l,m,o,p,q,s,h,i,())
def Qu(t:Option uy):Option Cu:=t.bind λ x=>t.bind λ r=>(Qs n x.1 r.2.2).bind λ a=>bif !a.2 then some ((none:Option EF),((0,0,0,0,0,0),0,0,0,0,0,0),8)else a.1.bind λ b=>cq (T6 n) n (t,a.1,b.2,(fH b.2:Int),0,0,0,0,0,0,0,0,0,0,0,0,0,()) (λ(s,u,v,w,y,z,A,B,C,D,E,F,_)=>some ((none:Option EF),((0,0,0,0,0,0),0,0,0,0,0,0),12),λ(c,q,d,e,f,g,h,i,j,k,l,m,o,p,_)=>some (c,((d,e,f,g,h,i),j,k,l,m,o,p),q),())
def Nq:=(Ti n).a 113 ⟨[tZ],[],[xR,cN,Z0],λ x y=>Qu n x,false⟩
theorem h34:Eo (Nq n):=gD Rs.FM (M7 n) func113 (O:= [_]) ⟨gh n (M7 n) (eN 47 [aT 0 tZ,Xb 3 47,aT 5 xR,aT 28 xh,aT 29 Z0,aT 30 Z0] [X3 47]) [fq 0 47 [Xb 3 47] [X3 47],fw 47 [aT 2 xR,Xb 3 47,aT 4 Z0] [X3 47]] (T6 n),trivial⟩
def OD(p:bZ×aZ)(t:nk×Z9×Z9):Option gH:=(vm n p t).bind λ x=>bif x.2 !=0 then some (0,x.2)else(Qu n x.1).bind λ a=>bif a.2.2 !=0 then some (0,a.2.2)else a.1.bind λ b=>some ((Option.getD (j4 (Ty.f cN) b.1 a.2.1) (0,((0,0,0,0,0,0),0,0,0,0,0,0),0,0)).1,0)
def Nb:=(Nq n).a 56 ⟨[qG,gS],[],[Z0,Z0],λ x y=>OD n x.1 x.2,false⟩
theorem Zs:Eo (Nb n):=dw Rs.FM (h34 n) func56
def Tt(b:Int)(a:bZ×aZ):Option Bool:=(IY n a).bind λ x=>(H2 n b 0 (ov .i64 (x- 1))).bind λ c=>some c
def Ri:=(Nb n).a 98 ⟨[Z0],[qG],[.aO],λ x y=>Tt n x y,false⟩
theorem Kj:Eo (Ri n):=dw Rs.FM (Zs n) func98
def Lg:a8 (Yl×(Int->Option Bool)×(List zp)×Int×Int×bZ×aZ×Z9×Z9×oH Unit) (Yl×Z9×Z9×oH Unit) (Int×Unit) LJ:=λ(A,t,y,z,v,p,C,s,w,d,f,g,h,i,j,m,o,q,r,k,l,_) again (k0,k1,_)=>bif decide (v<z)then(aG y v).bind λ e=>(t e.1).bind λ x=>(bI x (t e.2.1) false).bind λ G=>(vk n (x&&G) 6).bind λ M=>(vk n (e.1 !=e.2.1) 11).bind λ N=>(EJ n e.2.2).bind λ O=>(vk n O 2).bind λ P=>(C5 n ([M,N,P]:List Int)).bind λ E=>bif E !=0 then k1 (E,())else(cQ e.1 6).bind λ u=>(aG [m,o,q,r,k,l] e.1).bind λ c=>(cQ e.1 6).bind λ S=>(aG [d,f,g,h,i,j] e.1).bind λ Q=>(vk n (decide (Q>=e.2.2)) 12).bind λ R=>(cQ e.2.1 6).bind λ V=>(aG [d,f,g,h,i,j] e.2.1).bind λ H=>(aG p e.2.1).bind λ F=>(vk n (decide ((ov .i64 (H+e.2.2))<=F.2)) 16).bind λ I=>(cQ e.2.1 6).bind λ W=>(aG [m,o,q,r,k,l] e.2.1).bind λ B=>(bI (!(B==0)) (cQ e.2.1 6) ()).bind λ X=>(bI (!(B==0)) (aG [m,o,q,r,k,l] e.2.1) 0).bind λ J=>(vk n ((B==0)|| (J==c)) 13).bind λ K=>(C5 n ([R,I,K]:List Int)).bind λ D=>bif D !=0 then k1 (D,())else(cQ e.1 6).bind λ Y=>(aG [d,f,g,h,i,j] e.1).bind λ a=>(cQ e.1 6).bind λ Z=>(cQ e.2.1 6).bind λ aa=>(aG [(bif decide (e.1=0)then(ov .i64 (a- e.2.2))else d),(bif decide (e.1=1)then(ov .i64 (a- e.2.2))else f),(bif decide (e.1=2)then(ov .i64 (a- e.2.2))else g),(bif decide (e.1=3)then(ov .i64 (a- e.2.2))else h),(bif decide (e.1=4)then(ov .i64 (a- e.2.2))else i),(bif decide (e.1=5)then(ov .i64 (a- e.2.2))else j)] e.2.1).bind λ b=>(cQ e.2.1 6).bind λ ab=>(cQ e.2.1 6).bind λ ac=>(cQ e.1 6).bind λ T=>(aG [(bif decide (e.2.1=0)then(ov .i64 (b+e.2.2))else(bif decide (e.1=0)then(ov .i64 (a- e.2.2))else d)),(bif decide (e.2.1=1)then(ov .i64 (b+e.2.2))else(bif decide (e.1=1)then(ov .i64 (a- e.2.2))else f)),(bif decide (e.2.1=2)then(ov .i64 (b+e.2.2))else(bif decide (e.1=2)then(ov .i64 (a- e.2.2))else g)),(bif decide (e.2.1=3)then(ov .i64 (b+e.2.2))else(bif decide (e.1=3)then(ov .i64 (a- e.2.2))else h)),(bif decide (e.2.1=4)then(ov .i64 (b+e.2.2))else(bif decide (e.1=4)then(ov .i64 (a- e.2.2))else i)),(bif decide (e.2.1=5)then(ov .i64 (b+e.2.2))else(bif decide (e.1=5)then(ov .i64 (a- e.2.2))else j))] e.1).bind λ L=>bif L==0 then(cQ e.1 6).bind λ U=>again (A,t,y,z,(ov .i64 (v+1)),p,C,s,w,(bif decide (e.2.1=0)then(ov .i64 (b+e.2.2))else(bif decide (e.1=0)then(ov .i64 (a- e.2.2))else d)),(bif decide (e.2.1=1)then(ov .i64 (b+e.2.2))else(bif decide (e.1=1)then(ov .i64 (a- e.2.2))else f)),(bif decide (e.2.1=2)then(ov .i64 (b+e.2.2))else(bif decide (e.1=2)then(ov .i64 (a- e.2.2))else g)),(bif decide (e.2.1=3)then(ov .i64 (b+e.2.2))else(bif decide (e.1=3)then(ov .i64 (a- e.2.2))else h)),(bif decide (e.2.1=4)then(ov .i64 (b+e.2.2))else(bif decide (e.1=4)then(ov .i64 (a- e.2.2))else i)),(bif decide (e.2.1=5)then(ov .i64 (b+e.2.2))else(bif decide (e.1=5)then(ov .i64 (a- e.2.2))else j)),(bif decide (e.1=0)then 0 else(bif decide (e.2.1=0)then c else m)),(bif decide (e.1=1)then 0 else(bif decide (e.2.1=1)then c else o)),(bif decide (e.1=2)then 0 else(bif decide (e.2.1=2)then c else q)),(bif decide (e.1=3)then 0 else(bif decide (e.2.1=3)then c else r)),(bif decide (e.1=4)then 0 else(bif decide (e.2.1=4)then c else k)),(bif decide (e.1=5)then 0 else(bif decide (e.2.1=5)then c else l)),())else again (A,t,y,z,(ov .i64 (v+1)),p,C,s,w,(bif decide (e.2.1=0)then(ov .i64 (b+e.2.2))else(bif decide (e.1=0)then(ov .i64 (a- e.2.2))else d)),(bif decide (e.2.1=1)then(ov .i64 (b+e.2.2))else(bif decide (e.1=1)then(ov .i64 (a- e.2.2))else f)),(bif decide (e.2.1=2)then(ov .i64 (b+e.2.2))else(bif decide (e.1=2)then(ov .i64 (a- e.2.2))else g)),(bif decide (e.2.1=3)then(ov .i64 (b+e.2.2))else(bif decide (e.1=3)then(ov .i64 (a- e.2.2))else h)),(bif decide (e.2.1=4)then(ov .i64 (b+e.2.2))else(bif decide (e.1=4)then(ov .i64 (a- e.2.2))else i)),(bif decide (e.2.1=5)then(ov .i64 (b+e.2.2))else(bif decide (e.1=5)then(ov .i64 (a- e.2.2))else j)),(bif decide (e.2.1=0)then c else m),(bif decide (e.2.1=1)then c else o),(bif decide (e.2.1=2)then c else q),(bif decide (e.2.1=3)then c else r),(bif decide (e.2.1=4)then c else k),(bif decide (e.2.1=5)then c else l),())else k0 (A,s,w,d,f,g,h,i,j,m,o,q,r,k,l,())
def P6(p:bZ×aZ)(s:Z9×Z9)(l:List zp):Option LJ:=(Ij n p s).bind λ x=>(vk n (decide ((fH l:Int)<=20)) 8).bind λ v=>(C5 n ([x.2.2,v]:List Int)).bind λ b=>bif b !=0 then some (((([]:List Int),([]:List Int)),([]:List Int),([]:List Int)),b)else cq (Lg n) n (x.1,(λ C=>Tt n C x.1),l,(fH l:Int),0,p.1,p.2,s.1,s.2,x.2.1.1.1,x.2.1.1.2.1,x.2.1.1.2.2.1,x.2.1.1.2.2.2.1,x.2.1.1.2.2.2.2.1,x.2.1.1.2.2.2.2.2,x.2.1.2.1,x.2.1.2.2.1,x.2.1.2.2.2.1,x.2.1.2.2.2.2.1,x.2.1.2.2.2.2.2.1,x.2.1.2.2.2.2.2.2,()) (λ(a,c,d,f,g,h,i,j,k,m,o,q,r,t,u,_)=>(IY n a).bind λ w=>(yw n ((f,g,h,i,j,k),m,o,q,r,t,u) w).bind λ y=>(tj n (c,d)).bind λ z=>(IY n a).bind λ A=>(yw n z A).bind λ B=>some ((B,y),0),λ(e,_)=>some (((([]:List Int),([]:List Int)),([]:List Int),([]:List Int)),e),())
def NF:=(Ri n).a 29 ⟨[qG,fh,(.aH Z5)],[],[gS,Z0],λ x y=>P6 n x.1 x.2.1 x.2.2,false⟩
theorem VK:Eo (NF n):=gD Rs.FM (Kj n) func29 (O:= [_]) ⟨gh n (Kj n) (eN 173 [Xb 3 173,Xb 4 174,Xb 6 175,Xp 8 qG,Xb 9 176,aT 11 (.dP Z0 .aO),aT 37 (.aH Z5),aT 38 Z0,aT 39 Z0] [X0 173,X4 174,X1 175,X3 176]) [fq 0 173 [Xb 4 173,Xb 6 174,Xp 8 qG,Xb 9 175] [X4 173,X1 174,X3 175],fw 173 [Xb 6 173,aT 7 Z0] [X1 173]] (Lg n),trivial⟩
def Tn:=(NF n).a 157 (M6 n)
theorem h38:Eo (Tn n):=mN (VK n) (aeb n)
def Nh:=(Tn n).a 184 (T7 n)
theorem h39:Eo (Nh n):=mN (h38 n) (abx n)
def Gi(s a:BW):Option Int:=(BL n s a).bind λ x=>some x
def pf:=(Nh n).a 158 ⟨[.aJ,.aJ],[],[Z0],λ x y=>Gi n x.1 x.2,false⟩
theorem El:Eo (pf n):=dw Rs.FM (h39 n) func158
def Is:a8 (BW×Unit) Unit Unit Ah:=λ(a,_) again (k0,k1,_)=>bif decide ((fH a:Int)>0)then(KJ n a).bind λ x=>(iB a 0 x.2).bind λ b=>tG (α:=BW) b ((iB a x.2 (fH a:Int)).bind λ c=>again (c,())) (k1 ())else k0 ()
def Gy:a8 (BW×BW×Int×Unit) (BW×Unit) Unit Ah:=λ(b,a,c,_) again (k0,k1,_)=>(Gi n a b).bind λ x=>bif decide (x<0)then k0 (a,())else(iB a 0 (ov .i64 (x+c))).bind λ d=>tG (α:=BW) d ((iB a (ov .i64 (x+ (fH b:Int))) (fH a:Int)).bind λ e=>again (b,e,c,())) (k1 ())
def Nc(a c1:BW)(c2:Int):Option Ah:=bif (fH a:Int)==0 then cq (Is n) n (c1,()) (λ(_)=>some [],λ(_)=>some [],())else cq (Gy n) n (a,c1,c2,()) (λ(b,_)=>tG (α:=BW) b (some []) (some []),λ(_)=>some [],())
def IX:cf:= ⟨52,[.aJ],[(0,.v (.sZ)),Xb 2 52],[X6 52],[]⟩
def Td:List (dN×cf):= [(.ou 0,⟨52,[],[],[],[]⟩),(.sT,⟨52,[],[],[],[]⟩)]
def I4:Ev (List (ax [.aJ])):=mG n (pf n) IX Td (Is n)
theorem UM d again ks:dv (R:=(List (ax [.aJ]))) (pf n) (jP [.aJ]) (iw (lp (bd adV) 0)) [] (mk IX d) (mL (pf n) IX Td again ks)=Is n d again ks:=by kernel_rfl
theorem aeA:eS Rs.FM.Q (jP [.aJ]) false (lp (bd adV) 0) (I4 n):=rk (El n) Rs.FM.b (by kernel_rfl) (O:= []) trivial (UM n)
def Ip:cf:= ⟨52,[.aJ,.aJ,Z0],[(0,.v (.sZ)),Xb 1 52,Xb 2 53,Xb 3 54],[X6 52,X6 53,(54,.cp Z0 [.aj Z0])],[]⟩
def Pn:List (dN×cf):= [(.ou 2,⟨52,[.aJ],[(0,.v (.sZ)),Xb 2 52],[X6 52],[]⟩),(.sT,⟨52,[],[],[],[]⟩)]
def HL:Ev (List (ax [.aJ])):=mG n (pf n) Ip Pn (Gy n)
theorem ahD d again ks:dv (R:=(List (ax [.aJ]))) (pf n) (jP [.aJ]) (iw (lp (bd adV) 1)) [] (mk Ip d) (mL (pf n) Ip Pn again ks)=Gy n d again ks:=by kernel_rfl
theorem af6:eS Rs.FM.Q (jP [.aJ]) false (lp (bd adV) 1) (HL n):=rk (El n) Rs.FM.b (by kernel_rfl) (O:= []) trivial (ahD n)
def aeW(e c1:BW)(c2:Int):au:={N:=52,d:= [],a:=(0,⟨[],true,.v .ku⟩):: [(1,⟨[],true,.v (.dx 0 0 0)⟩),(2,⟨[],true,.v (.dx 1 0 0)⟩),(3,⟨[],true,.v (.dx 2 0 0)⟩)],b:= [(0,0,.eu .aJ [.aE .aJ e]),(1,0,.eu .aJ [.aE .aJ c1]),(2,0,.eu Z0 [.aE Z0 c2])],c:= []}
theorem aeY(a:BW)(c1:BW)(c2:Int):dv (R:=(List (ax [.aJ]))) (pf n) (jP [.aJ]) (bd adV) [I4 n,HL n] (aeW a c1 c2) Cb=Nc n a c1 c2:=by kernel_rfl
theorem ahS:eS Rs.FM.Q (jP [.aJ]) false (bd adV) (dv (R:=(List (ax [.aJ]))) (pf n) (jP [.aJ]) (bd adV) [I4 n,HL n]):=ji (El n) Rs.FM.b _ _ (my ⟨aeA n,af6 n,trivial⟩)
def HO(s t:BW):Option AU:=Nc n t s 0
theorem YH:Ej Rs.FM.Q 115 .aJ (HO n):=ZA (ahS n) λ s t=>aeY n t s 0
def Pp:=pf n
theorem h41:Eo (Pp n):=El n
def MB:=(Pp n).a 159 (Ps n)
theorem h42:Eo (MB n):=mN (h41 n) (ahr n)
def Pa:=(MB n).a 160 (QB n)
theorem TY:Eo (Pa n):=mN (h42 n) (aeV n)
def Fw:o6 (BW×BW×J3 (AU×Unit)) (BW×Int×AU×Unit) AU:=λ(s,sep,b,c,i,a,_) again (k0,_)=>bif decide (i<c)then(Gi n s sep).bind λ x=>bif decide (x<0)then k0 (s,i,a,())else(iB s 0 (ov .i64 (x+b))).bind λ d=>(aG a i).bind λ e=>(tD a i d).bind λ l=>(iB s (ov .i64 (x+ (fH sep:Int))) (fH s:Int)).bind λ f=>again (f,sep,b,c,(ov .i64 (i+1)),l,())else k0 (s,i,a,())
def MC(s sep:BW)(g a:Int):Option AU:=bif a==0 then some ([]:List BW)else bif sep== []then(TI n s a).bind λ x=>some x else bif decide (a<0)then(Bp n s sep).bind λ d=>(CO (bu (ov .i64 (d+1)) (ov .i64 ((fH s:Int)+1)))).bind λ u=>cq (Fw n) n (s,sep,g,(ov .i64 ((bu (ov .i64 (d+1)) (ov .i64 ((fH s:Int)+1)))- 1)),0,(x5 (TT (bu (ov .i64 (d+1)) (ov .i64 ((fH s:Int)+1)))) []),()) (λ(j,b,e,_)=>(aG e b).bind λ o=>(tD e b j).bind λ h=>(iB h 0 (ov .i64 (b+1))).bind λ l=>some l,())else(CO (bu a (ov .i64 ((fH s:Int)+1)))).bind λ q=>cq (Fw n) n (s,sep,g,(ov .i64 ((bu a (ov .i64 ((fH s:Int)+1)))- 1)),0,(x5 (TT (bu a (ov .i64 ((fH s:Int)+1)))) []),()) (λ(k,c,f,_)=>(aG f c).bind λ p=>(tD f c k).bind λ i=>(iB i 0 (ov .i64 (c+1))).bind λ m=>some m,())
def M3:=(Pa n).a 146 ⟨[.aJ,.aJ,Z0,Z0],[],[Z56],λ x y=>MC n x.1 x.2.1 x.2.2.1 x.2.2.2,false⟩
theorem h44:Eo (M3 n):=gD Rs.FM (TY n) func146 (O:= [_]) ⟨gh n (TY n) (eN 66 [aT 0 .aJ,aT 1 .aJ,aT 2 Z0,aT 3 Z0,(9,.v (.iR 66)),aT 10 Z0] [(66,.jH .aJ)]) [fq 0 66 [aT 0 .aJ,(9,.v (.iR 66)),aT 10 Z0] [(66,.jH .aJ)]] (Fw n),trivial⟩
def Qd(s sep:BW):Option AU:=(MC n s sep 0 (-1)).bind λ x=>some x
def qA:=(M3 n).a 116 ⟨[.aJ,.aJ],[],[Z56],λ x y=>Qd n x.1 x.2,false⟩
theorem HN:Eo (qA n):=dw Rs.FM (h44 n) func116
def BN:akP (bZ×aZ×Int×aZ×Bool×Unit) BW (Int×Unit) Fp:=λ(p,g,h,out,missing,_) y again (k0,_)=>(Qd n y [32]).bind λ x=>(bI (!((fH x:Int) !=2)) (aG x 0) []).bind λ e=>(bI (!(((fH x:Int) !=2)|| (e== []))) (aG x 1) []).bind λ c=>bif (((fH x:Int) !=2)|| (e== []))|| (c== [])then k0 (7,())else(aG x 0).bind λ d=>(vV n p d).bind λ a=>(aG x 1).bind λ f=>(vV n p f).bind λ b=>(jk (fH out+fH ([(a,b)]:List gH))).bind λ u=>again (p,g,h,(out++ ([(a,b)]:List gH)),((missing|| (decide (a<0)))|| (decide (b<0))),())
def LL(p:bZ×aZ)(s:BW):Option Fp:=(tx n p).bind λ x=>bif x.2 !=0 then some (([]:List gH),x.2)else bif s== []then some (([]:List gH),0)else(HO n s [59]).bind λ xs=>la (BN n) (λ(c,_)=>some (([]:List gH),c),()) (λ(d,e,f,b,a,_)=>bif a then some (([]:List gH),6)else some (b,0)) xs (p.1,p.2,0,([]:List gH),false,())
def uc:cf:= ⟨73,[dK,gv,Z0,gv,.aO],[Xb 2 73,Xb 4 74,Xb 5 75,Xb 8 76,Xb 9 78],[X0 73,(74,.cp gv [.j6]),(75,.cp Z0 [.aj Z0]),(76,.cp gv [.iR 77]),(77,.jH Z3),(78,.cp .aO [.aj .aO])],[]⟩
def Gr:List (dN×cf):= [(.sT,⟨73,[Z0],[Xb 4 73,Xb 5 74],[(73,.cp gv [.j6]),(74,.cp Z0 [.aj Z0])],[]⟩)]
theorem aaS(d)(x)(again)(ks):dv (R:=(ax [gv,Z0])) (qA n) (bT.b (R:=(ax [gv,Z0]))) (D8 (pE 5 (bd f58))) [] (yO uc [2,4,5,8,9] [25] [.aJ] d x) (tH λ st=>dv (R:=(ax [gv,Z0])) (qA n) (bT.b (R:=(ax [gv,Z0]))) (Dt (pE 5 (bd f58))) [] st (wR (qA n) uc [2,4,5,8,9] Gr again ks))=BN n d x again ks:=by kernel_rfl
def JN:fc:= ⟨[qG,.aJ],[],[gv,Z0],λ x y=>LL n x.1 x.2,false⟩
theorem XJ:CD 1 23 24 115 0 25 [59] (pE 5 (bd f58))=true:=by kernel_rfl
theorem WE:qp (R:=(ax [gv,Z0])) Rs.FM.Q (qA n) [.aJ] [25] (D8 (pE 5 (bd f58))) (Dt (pE 5 (bd f58))) [] [] uc [2,4,5,8,9] Gr (BN n):=ab1 (HN n) Rs.FM.b rfl (by decide) (by decide) rfl trivial trivial (aaS n)
theorem abU(d:cR uc.b)(k:Nat)(sl:fX)(h:Map.av (mk uc d).a k=some sl):k≠23/\k≠24:=U7 (T:=uc) (by kernel_rfl) d k sl h
theorem aet(x:ax [qG,.aJ])(y:ax []):(xP (qA n) (bT.b (R:=(ax [gv,Z0]))) (Eu (qA n) .aJ (.tmp 1) (λ s=>HO n s [59]) uc Gr (BN n) 0) 5 (bd f58)) (uN f58.ntmps [qG,.aJ] [] x y) (xj (qA n) false f58.results.toList [gv,Z0])=(JN n).g x y:=by kernel_rfl
theorem Zf:jf Rs.FM.Q 58 (JN n):=ZQ (HN n) Rs.FM.b (Rs.FM.a func58 (by kernel_rfl) (by decide)) (by kernel_rfl) (by kernel_rfl) (by kernel_rfl) (YH n) XJ (by kernel_rfl) (by decide) (by decide) (by decide) (WE n) abU (aet n)
def Rl:=(qA n).a 58 (JN n)
theorem Tq:Eo (Rl n):=mN (HN n) (Zf n)
def Pu(n:Nat):a8 (Z9×Z9×Int×Unit) Unit (Bool×Unit) Bool:=λ(a,b,i,_) again (k0,k1,_)=>bif decide (i< (fH a:Int))then(aG a i).bind λ e=>(aG b i).bind λ c=>bif e !=c then k1 (false,())else again (a,b,(ov .i64 (i+1)),())else k0 ()
def zL(a b:List Int):Option Bool:=bif (fH a:Int) !=(fH b:Int)then some false else cq (Pu n) n (a,b,0,()) (λ(_)=>some true,λ(c,_)=>some c,())
def Mb:=(Rl n).a 82 ⟨[Z4,Z4],[],[.aO],λ x y=>zL n x.1 x.2,false⟩
theorem h47:Eo (Mb n):=gD Rs.FM (Tq n) func82 (O:= [_]) ⟨gh n (Tq n) (eN 26 [aT 0 Z4,aT 1 Z4,aT 5 Z0] []) [fq 0 26 [] [],fw 26 [aT 4 .aO] []] (Pu n),trivial⟩
def Mn(a b:Z9×Z9):Option Bool:=(zL n a.1 b.1).bind λ x=>(bI x (zL n a.2 b.2) false).bind λ c=>some (x&&c)
def P3:=(Mb n).a 41 ⟨[fh,fh],[],[.aO],λ x y=>Mn n x.1 x.2,false⟩
theorem OJ:Eo (P3 n):=dw Rs.FM (h47 n) func41
def Sk(n:Nat):a8 (aZ×aZ×Int×Unit) Unit (Bool×Unit) Bool:=λ(a,b,i,_) again (k0,k1,_)=>bif decide (i< (fH a:Int))then(aG a i).bind λ e=>(aG b i).bind λ c=>bif !((e.1==c.1)&& (e.2==c.2))then k1 (false,())else again (a,b,(ov .i64 (i+1)),())else k0 ()
def RH(a b:List gH):Option Bool:=bif (fH a:Int) !=(fH b:Int)then some false else cq (Sk n) n (a,b,0,()) (λ(_)=>some true,λ(c,_)=>some c,())
def Qo:=(P3 n).a 38 ⟨[gv,gv],[],[.aO],λ x y=>RH n x.1 x.2,false⟩
theorem h49:Eo (Qo n):=gD Rs.FM (OJ n) func38 (O:= [_]) ⟨gh n (OJ n) (eN 26 [aT 0 gv,aT 1 gv,aT 5 Z0] []) [fq 0 26 [] [],fw 26 [aT 4 .aO] []] (Sk n),trivial⟩
def FJ:Option Bool:=(zC n).bind λ x=>(DU n).bind λ h=>(Na n x h (0,1)).bind λ b=>(zC n).bind λ j=>(LQ n).bind λ k=>(OD n j k).bind λ a=>(zC n).bind λ l=>(DU n).bind λ m=>(P6 n l m ([(0,1,2),(1,2,1)]:List zp)).bind λ c=>(zC n).bind λ o=>(LL n o [97,32,98,59,98,32,99]).bind λ e=>(bI (b.2==0) (Mn n b.1 (([3,5,0]:List Int),([1,1,0]:List Int))) false).bind λ d=>(bI (((((b.2==0)&&d)&& (a.2==0))&& (a.1==7))&& (c.2==0)) (zL n c.1.2.1 ([6,1,1]:List Int)) false).bind λ f=>(bI ((((((b.2==0)&&d)&& (a.2==0))&& (a.1==7))&& (c.2==0))&&f) (zL n c.1.2.2 ([1,1,1]:List Int)) false).bind λ g=>(bI ((((((((b.2==0)&&d)&& (a.2==0))&& (a.1==7))&& (c.2==0))&&f)&&g)&& (e.2==0)) (RH n e.1 ([(0,1),(1,2)]:List gH)) false).bind λ i=>some (((((((((b.2==0)&&d)&& (a.2==0))&& (a.1==7))&& (c.2==0))&&f)&&g)&& (e.2==0))&&i)
def Rn:=(Qo n).a 17 ⟨[],[],[.aO],λ x y=>FJ n,false⟩
theorem h50:Eo (Rn n):=dw Rs.FM (h49 n) func17
def qg(n:Nat)(a lo b:Int):Option Bool:=some ((decide (lo<=a))&& (decide (a<=b)))
def OS:=(Rn n).a 47 ⟨[Z0,Z0,Z0],[],[.aO],λ x y=>qg n x.1 x.2.1 x.2.2,false⟩
theorem LN:Eo (OS n):=dw Rs.FM (h50 n) func47
def yJ:a8 (Int×bZ×aZ×Unit) Unit (Bool×Unit) Bool:=λ(i,p,b,_) again (k0,k1,_)=>bif decide (i< (fH p:Int))then(aG p i).bind λ e=>(bI (!(decide ((fH e.1:Int)>20))) (aG p i) ([],0)).bind λ a=>(bI (!(decide ((fH e.1:Int)>20))) (qg n a.2 11 50) false).bind λ x=>bif (decide ((fH e.1:Int)>20))||x then k1 (false,())else again ((ov .i64 (i+1)),p,b,())else k0 ()
def xB(p:bZ×aZ):Option Bool:=bif ((((decide ((fH p.1:Int)>4))&& (decide ((fH p.1:Int)<=6)))|| (decide ((fH p.1:Int)>8)))|| ((decide ((fH p.2:Int)>14))&& (decide ((fH p.2:Int)<=30))))|| (decide ((fH p.2:Int)>32))then some false else cq (yJ n) n (0,p.1,p.2,()) (λ(_)=>some true,λ(a,_)=>some a,())
def Nw:=(OS n).a 18 ⟨[qG],[],[.aO],λ x y=>xB n x,false⟩
theorem h52:Eo (Nw n):=gD Rs.FM (LN n) func18 (O:= [_]) ⟨gh n (LN n) (eN 62 [Xb 1 62,aT 3 Z0] [X0 62]) [fq 0 62 [] [],fw 62 [aT 2 .aO] []] (yJ n),trivial⟩
def wX(n:Nat)(s:Z9×Z9):Option Bool:=some ((decide ((fH s.1:Int)<=10))&& (decide ((fH s.2:Int)<=10)))
def Sj:=(Nw n).a 20 ⟨[fh],[],[.aO],λ x y=>wX n x,false⟩
theorem h53:Eo (Sj n):=dw Rs.FM (h52 n) func20
def zS(t:nk×Z9×Z9):Option Bool:=(wX n t.1).bind λ x=>some ((x&& (decide ((fH t.2.1:Int)<=10)))&& (decide ((fH t.2.2:Int)<=10)))
def Sf:=(Sj n).a 19 ⟨[gS],[],[.aO],λ x y=>zS n x,false⟩
theorem h54:Eo (Sf n):=dw Rs.FM (h53 n) func19
def wL(n:Nat)(p:bZ×aZ):Option Yl:=(jk (fH ([]:List eB)+fH p.1)).bind λ u=>(jk (fH ([]:List gH)+fH p.2)).bind λ a=>some ((([]:List eB)++p.1),(([]:List gH)++p.2))
def Mv:=(Sf n).a 22 ⟨[qG],[],[qG],λ x y=>wL n x,true⟩
theorem WJ:Eo (Mv n):=dw Rs.FM (h54 n) func22
def uV(n:Nat)(l:List Int):Option Z9:=(jk (fH ([]:List Int)+fH l)).bind λ u=>some (([]:List Int)++l)
def NG:=(Mv n).a 89 ⟨[Z4],[],[Z4],λ x y=>uV n x,true⟩
theorem h56:Eo (NG n):=dw Rs.FM (WJ n) func89
def th(s:Z9×Z9):Option nk:=(uV n s.1).bind λ x=>(uV n s.2).bind λ a=>some (x,a)
def Rx:=(NG n).a 25 ⟨[fh],[],[fh],λ x y=>th n x,true⟩
theorem h57:Eo (Rx n):=dw Rs.FM (h56 n) func25
def xf(t:nk×Z9×Z9):Option QG:=(th n t.1).bind λ x=>(uV n t.2.1).bind λ a=>(uV n t.2.2).bind λ b=>some (x,a,b)
def NB:=(Rx n).a 23 ⟨[gS],[],[gS],λ x y=>xf n x,true⟩
theorem Zu:Eo (NB n):=dw Rs.FM (h57 n) func23
def yx(n:Nat):a8 (BW×Int×Unit) Unit (Bool×Unit) Bool:=λ(s,i,_) again (k0,k1,_)=>bif decide (i< (fH s:Int))then(aG s i).bind λ c=>bif (!(((decide (((u5 c:Nat):Int)>=97))&& (decide (((u5 c:Nat):Int)<=122)))|| ((decide (((u5 c:Nat):Int)>=65))&& (decide (((u5 c:Nat):Int)<=90)))))&& ((i==0)|| ((((u5 c:Nat):Int) !=45)&& ((decide (((u5 c:Nat):Int)<48))|| (decide (((u5 c:Nat):Int)>57)))))then k1 (false,())else again (s,(ov .i64 (i+1)),())else k0 ()
def EH(s:BW):Option Bool:=bif (decide ((fH s:Int)<1))|| (decide ((fH s:Int)>12))then some false else cq (yx n) n (s,0,()) (λ(_)=>some true,λ(a,_)=>some a,())
def Pm:=(NB n).a 110 ⟨[.aJ],[],[.aO],λ x y=>EH n x,false⟩
theorem Oe:Eo (Pm n):=gD Rs.FM (Zu n) func110 (O:= [_]) ⟨gh n (Zu n) (eN 55 [aT 0 .aJ,aT 3 Z0] []) [fq 0 55 [] [],fw 55 [aT 2 .aO] []] (yx n),trivial⟩
def zF(p:bZ×aZ)(a:Int):Option Bool:=(qg n a 0 (ov .i64 ((fH p.1:Int)- 1))).bind λ x=>some x
def Ny:=(Pm n).a 80 ⟨[qG,Z0],[],[.aO],λ x y=>zF n x.1 x.2,false⟩
theorem BP:Eo (Ny n):=dw Rs.FM (Oe n) func80
def Ak(n:Nat):a8 (Int×Int×bZ×aZ×Unit) (Int×bZ×aZ×Unit) (Int×Int×Unit) gH:=λ(i,a,p,b,_) again (k0,k1,_)=>bif decide (a<i)then(aG p a).bind λ e=>(aG p i).bind λ c=>bif e.1==c.1 then k1 (i,5,())else again (i,(ov .i64 (a+1)),p,b,())else k0 (i,p,b,())
def yU:a8 (Int×bZ×aZ×Unit) (bZ×aZ×Unit) (Int×Int×Unit) gH:=λ(i,p,b,_) again (k0,k1,_)=>bif decide (i< (fH p:Int))then(aG p i).bind λ e=>(EH n e.1).bind λ x=>bif !x then k1 (i,4,())else cq (Ak n) n (i,0,p,b,()) (λ(a,c,f,_)=>(aG c a).bind λ d=>(qg n d.2 1 50).bind λ j=>bif !j then k1 (a,2,())else again ((ov .i64 (a+1)),c,f,()),λ(g,h,_)=>k1 (g,h,()),())else k0 (p,b,())
def yj(n:Nat):a8 (Int×Int×bZ×aZ×Int×Int×Unit) (Int×bZ×aZ×Unit) (Int×Int×Unit) gH:=λ(i,b,p,a,h,c,_) again (k0,k1,_)=>bif decide (b<i)then(aG a b).bind λ e=>bif (e.1==h)&& (e.2==c)then k1 (i,26,())else again (i,(ov .i64 (b+1)),p,a,h,c,())else k0 (i,p,a,())
def zm:a8 (Int×bZ×aZ×Unit) Unit (Int×Int×Unit) gH:=λ(i,p,a,_) again (k0,k1,_)=>bif decide (i< (fH a:Int))then(aG a i).bind λ e=>(cQ 0 2).bind λ u=>(aG [e.1,e.2] 0).bind λ x=>(zF n (p,a) x).bind λ b=>(bI (!(!b)) (cQ 1 2) ()).bind λ o=>(bI (!(!b)) (aG [e.1,e.2] 1) 0).bind λ j=>(bI (!(!b)) (zF n (p,a) j) false).bind λ k=>bif (!b)|| (!k)then k1 (i,6,())else(cQ 0 2).bind λ q=>(aG [e.1,e.2] 0).bind λ l=>(cQ 1 2).bind λ r=>(aG [e.1,e.2] 1).bind λ m=>bif l==m then k1 (i,11,())else cq (yj n) n (i,0,p,a,e.1,e.2,()) (λ(c,d,f,_)=>again ((ov .i64 (c+1)),d,f,()),λ(g,h,_)=>k1 (g,h,()),())else k0 ()
def xy(p:bZ×aZ):Option gH:=bif (fH p.1:Int)==0 then some (0,10)else bif decide ((fH p.1:Int)>6)then some (0,8)else cq (yU n) n (0,p.1,p.2,()) (λ(b,a,_)=>bif decide ((fH a:Int)>30)then some (0,8)else cq (zm n) n (0,b,a,()) (λ(_)=>some (0,0),λ(c,e,_)=>some (c,e),()),λ(d,f,_)=>some (d,f),())
def OF:=(Ny n).a 46 ⟨[qG],[],[Z0,Z0],λ x y=>xy n x,false⟩
theorem zq:Eo (OF n):=gD Rs.FM (BP n) func46 (O:= [_,_]) ⟨B8 n (BP n) (eN 109 [Xb 1 109,aT 4 Z0] [X0 109]) [fq 0 109 [Xb 1 109] [X0 109],fw 109 [aT 2 Z0,aT 3 Z0] []] (yU n) (O:= [_]) ⟨gh n (BP n) (eN 109 [Xb 1 109,aT 4 Z0,aT 5 Z0] [X0 109]) [fq 2 109 [Xb 1 109,aT 4 Z0] [X0 109],fw 109 [aT 2 Z0,aT 3 Z0] []] (Ak n),trivial⟩,B8 n (BP n) (eN 109 [Xb 1 109,aT 6 Z0] [X0 109]) [fq 4 109 [] [],fw 109 [aT 2 Z0,aT 3 Z0] []] (zm n) (O:= [_]) ⟨gh n (BP n) (eN 109 [Xb 1 109,aT 6 Z0,Xb 7 110,aT 8 Z0] [X0 109,(110,.cp Z3 [.aj Z0,.aj Z0])]) [fq 6 109 [Xb 1 109,aT 6 Z0] [X0 109],fw 109 [aT 2 Z0,aT 3 Z0] []] (yj n),trivial⟩,trivial⟩
def DI:a8 (Int×bZ×aZ×Z9×Z9×Unit) Unit (Int×Unit) Int:=λ(i,p,g,s,a,_) again (k0,k1,_)=>bif decide (i< (fH p:Int))then(aG s i).bind λ e=>(aG p i).bind λ b=>(qg n e 0 b.2).bind λ x=>(bI (!(!x)) (aG a i) 0).bind λ c=>(bI (!(!x)) (qg n c 0 3) false).bind λ h=>bif (!x)|| (!h)then k1 (2,())else(aG a i).bind λ d=>(aG s i).bind λ f=>bif !((d==0)==(f==0))then k1 (13,())else again ((ov .i64 (i+1)),p,g,s,a,())else k0 ()
def sM(p:bZ×aZ)(s:Z9×Z9):Option Int:=bif ((fH s.1:Int) !=(fH p.1:Int))|| ((fH s.2:Int) !=(fH p.1:Int))then some 10 else cq (DI n) n (0,p.1,p.2,s.1,s.2,()) (λ(_)=>some 0,λ(a,_)=>some a,())
def Qw:=(OF n).a 27 ⟨[qG,fh],[],[Z0],λ x y=>sM n x.1 x.2,false⟩
theorem Of:Eo (Qw n):=gD Rs.FM (zq n) func27 (O:= [_]) ⟨gh n (zq n) (eN 64 [Xb 2 64,Xb 3 65,aT 5 Z0] [X0 64,X4 65]) [fq 0 64 [] [],fw 64 [aT 4 Z0] []] (DI n),trivial⟩
def Ez:a8 (Int×bZ×aZ×Z9×Z9×Z9×Z9×Unit) Unit (Int×Unit) Int:=λ(i,p,j,t,k,a,b,_) again (k0,k1,_)=>bif decide (i< (fH p:Int))then(aG a i).bind λ e=>(bI (e !=(-1)) (aG a i) 0).bind λ d=>(bI (e !=(-1)) (aG p i) ([],0)).bind λ f=>(bI (e !=(-1)) (qg n d 0 f.2) false).bind λ x=>(bI (!((e !=(-1))&& (!x))) (aG b i) 0).bind λ g=>(bI (!((e !=(-1))&& (!x))) (qg n g 0 3) false).bind λ l=>bif ((e !=(-1))&& (!x))|| (!l)then k1 (2,())else(aG b i).bind λ c=>(bI (c !=0) (aG a i) 0).bind λ h=>bif (c !=0)&& (h==0)then k1 (13,())else again ((ov .i64 (i+1)),p,j,t,k,a,b,())else k0 ()
def wy(p:bZ×aZ)(t:nk×Z9×Z9):Option Int:=(sM n p t.1).bind λ x=>bif x !=0 then some x else bif ((fH t.2.1:Int) !=(fH p.1:Int))|| ((fH t.2.2:Int) !=(fH p.1:Int))then some 10 else cq (Ez n) n (0,p.1,p.2,t.1.1,t.1.2,t.2.1,t.2.2,()) (λ(_)=>some 0,λ(a,_)=>some a,())
def QL:=(Qw n).a 94 ⟨[qG,gS],[],[Z0],λ x y=>wy n x.1 x.2,false⟩
theorem Lw:Eo (QL n):=gD Rs.FM (Of n) func94 (O:= [_]) ⟨gh n (Of n) (eN 81 [Xb 2 81,Xb 3 82,aT 6 Z0] [X0 81,X5 82]) [fq 0 81 [] [],fw 81 [aT 4 Z0] []] (Ez n),trivial⟩
def AT(p:bZ×aZ)(t:nk×Z9×Z9):Option Int:=(xy n p).bind λ x=>bif x.2 !=0 then some x.2 else(wy n p t).bind λ a=>some a
def Qi:=(QL n).a 26 ⟨[qG,gS],[],[Z0],λ x y=>AT n x.1 x.2,false⟩
theorem h64:Eo (Qi n):=dw Rs.FM (Lw n) func26
def FQ(a b:nk×Z9×Z9):Option Bool:=(Mn n a.1 b.1).bind λ x=>(bI x (zL n a.2.1 b.2.1) false).bind λ c=>(bI (x&&c) (zL n a.2.2 b.2.2) false).bind λ d=>some ((x&&c)&&d)
def Kv:=(Qi n).a 33 ⟨[gS,gS],[],[.aO],λ x y=>FQ n x.1 x.2,false⟩
theorem LO:Eo (Kv n):=dw Rs.FM (h64 n) func33
def K1:a8 (Int×bZ×aZ×Unit) (bZ×aZ×Unit) (Bool×Unit) Bool:=λ(i,p,a,_) again (k0,k1,_)=>bif decide (i< (fH p:Int))then(aG p i).bind λ e=>(qg n e.2 7 50).bind λ x=>bif x then k1 (false,())else again ((ov .i64 (i+1)),p,a,())else k0 (p,a,())
def JZ(p:bZ×aZ):Option Bool:=cq (K1 n) n (0,p.1,p.2,()) (λ(a,c,_)=>some ((decide ((fH a:Int)<=3))|| (decide ((fH a:Int)>6))),λ(b,_)=>some b,())
def e66:=(Kv n).a 52 ⟨[qG],[],[.aO],λ x y=>JZ n x,false⟩
theorem h66:Eo (e66 n):=gD Rs.FM (LO n) func52 (O:= [_]) ⟨gh n (LO n) (eN 28 [Xb 1 28,aT 3 Z0] [X0 28]) [fq 0 28 [Xb 1 28] [X0 28],fw 28 [aT 2 .aO] []] (K1 n),trivial⟩
def e67:=(e66 n).a 139 (akz n)
theorem h67:Eo (e67 n):=mN (h66 n) (amd n)
def e68:=(e67 n).a 140 (ac8 n)
theorem h68:Eo (e68 n):=mN (h67 n) (akY n)
def ym(n:Nat):o6 (qJ×J3 (bZ×aZ×Unit)) (qJ×Int×bZ×aZ×Unit) EC:=λ(t,own,c,a,p,b,_) again (k0,_)=>bif decide (a<c)then(jk (fH b+fH ([(own,a),(a,own)]:List gH))).bind λ u=>again (t,own,c,(ov .i64 (a+1)),p,(b++ ([(own,a),(a,own)]:List gH)),())else k0 (t,own,p,b,())
def Oc(t:Option uy)(size:Int):Option EC:=t.bind λ x=>(IY n x.1).bind λ a=>(bI (decide (a<6)) t (([],[]),(([],[]),[],[]),(0,0,0,0,0,0),0,0,0,0,0,0)).bind λ q=>(vk n ((decide (a<6))&& (decide ((ov .i64 ((fH q.1.2:Int)+ (ov .i64 (2*a))))<=30))) 16).bind λ r=>t.bind λ s=>(vV n s.1.1 [109,111,114,101]).bind λ v=>(vk n (decide (v<0)) 5).bind λ w=>(C5 n ([r,w]:List Int)).bind λ e=>bif e !=0 then some ((([]:List eB),([]:List gH)),((([]:List Int),([]:List Int)),([]:List Int),([]:List Int)),e)else t.bind λ y=>(O6 n y.1.1).bind λ f=>(jk (fH f+fH ([([109,111,114,101],size)]:List eB))).bind λ u=>t.bind λ j=>(JR n j.1.2).bind λ k=>cq (ym n) n (t,a,a,0,(f++ ([([109,111,114,101],size)]:List eB)),k,()) (λ(b,g,h,i,_)=>b.bind λ l=>(yw n l.2.2 (ov .i64 (g+1))).bind λ m=>b.bind λ o=>(Gu n o.2.1.2.1).bind λ c=>(jk (fH c+fH ([(-1)]:List Int))).bind λ z=>b.bind λ p=>(Gu n p.2.1.2.2).bind λ d=>(jk (fH d+fH ([0]:List Int))).bind λ A=>some ((h,i),(m,(c++ ([(-1)]:List Int)),(d++ ([0]:List Int))),0),())
def e69:=(e68 n).a 112 ⟨[tZ,Z0],[],[qG,gS,Z0],λ x y=>Oc n x.1 x.2,false⟩
theorem h69:Eo (e69 n):=gD Rs.FM (h68 n) func112 (O:= [_]) ⟨gh n (h68 n) (eN 108 [aT 0 tZ,Xb 4 108,Xb 5 109,aT 7 Z0,Xb 9 110,aT 67 Z0,aT 68 Z0] [X2 108,X1 109,(110,.cp qG [.iR 111,.iR 112]),(111,.jH dy),(112,.jH Z3)]) [fq 0 108 [aT 0 tZ,Xb 4 108,Xb 5 109,aT 7 Z0,Xb 9 110] [X2 108,X1 109,(110,.cp qG [.iR 111,.iR 112]),(111,.jH dy),(112,.jH Z3)]] (ym n),trivial⟩
def JD(p:bZ×aZ)(t:nk×Z9×Z9)(size:Int):Option EC:=(vm n p t).bind λ x=>(EJ n size).bind λ b=>(vk n b 2).bind λ c=>(C5 n ([x.2,c]:List Int)).bind λ a=>bif a !=0 then some ((([]:List eB),([]:List gH)),((([]:List Int),([]:List Int)),([]:List Int),([]:List Int)),a)else(Oc n x.1 size).bind λ d=>some d
def e70:=(e69 n).a 53 ⟨[qG,gS,Z0],[],[qG,gS,Z0],λ x y=>JD n x.1 x.2.1 x.2.2,false⟩
theorem h70:Eo (e70 n):=dw Rs.FM (h69 n) func53
def AI(n:Nat):a8 (J3 (bZ×aZ×Z9×Z9×Z9×Z9×Unit)) (Int×Int×bZ×aZ×Z9×Z9×Z9×Z9×Unit) (Int×Unit) EC:=λ(size,a,i,p,b,t,c,d,f,_) again (k0,k1,_)=>bif decide (i<a)then(aG p i).bind λ e=>bif e.1== [109,111,114,101]then k1 (5,())else again (size,a,(ov .i64 (i+1)),p,b,t,c,d,f,())else k0 (size,a,p,b,t,c,d,f,())
def FU(n:Nat):o6 (Int×Int×bZ×aZ×Z9×Z9×Z9×Z9×Unit) (bZ×aZ×Z9×Z9×Z9×Z9×Unit) EC:=λ(a,i,out,b,c,d,e,f,_) again (k0,_)=>bif decide (i<a)then(jk (fH b+fH ([(a,i),(i,a)]:List gH))).bind λ u=>again (a,(ov .i64 (i+1)),out,(b++ ([(a,i),(i,a)]:List gH)),c,d,e,f,())else k0 (out,b,c,d,e,f,())
def PK(p:bZ×aZ)(t:nk×Z9×Z9)(size:Int):Option EC:=(qg n size 1 50).bind λ x=>bif !x then some ((([]:List eB),([]:List gH)),((([]:List Int),([]:List Int)),([]:List Int),([]:List Int)),2)else bif (decide ((ov .i64 ((fH p.1:Int)+1))>6))|| (decide ((ov .i64 ((fH p.2:Int)+ (ov .i64 (2* (fH p.1:Int)))))>30))then some ((([]:List eB),([]:List gH)),((([]:List Int),([]:List Int)),([]:List Int),([]:List Int)),16)else cq (AI n) n (size,(fH p.1:Int),0,p.1,p.2,t.1.1,t.1.2,t.2.1,t.2.2,()) (λ(c,s,j,k,m,o,q,r,_)=>(wL n (j,k)).bind λ b=>(xf n ((m,o),q,r)).bind λ a=>(jk (fH b.1+fH ([([109,111,114,101],c)]:List eB))).bind λ u=>cq (FU n) n (s,0,(b.1++ ([([109,111,114,101],c)]:List eB)),b.2,a.1.1,a.1.2,a.2.1,a.2.2,()) (λ(h,i,d,e,f,g,_)=>(jk (fH d+fH ([0]:List Int))).bind λ v=>(jk (fH e+fH ([0]:List Int))).bind λ w=>(jk (fH f+fH ([(-1)]:List Int))).bind λ y=>(jk (fH g+fH ([0]:List Int))).bind λ z=>some ((h,i),(((d++ ([0]:List Int)),(e++ ([0]:List Int))),(f++ ([(-1)]:List Int)),(g++ ([0]:List Int))),0),()),λ(l,_)=>some ((([]:List eB),([]:List gH)),((([]:List Int),([]:List Int)),([]:List Int),([]:List Int)),l),())
def e71:=(e70 n).a 54 ⟨[qG,gS,Z0],[],[qG,gS,Z0],λ x y=>PK n x.1 x.2.1 x.2.2,false⟩
theorem h71:Eo (e71 n):=gD Rs.FM (h70 n) func54 (O:= [_,_]) ⟨gh n (h70 n) (eN 103 [aT 2 Z0,Xb 3 103,Xb 4 104,Xb 6 105,Xb 7 106,aT 9 Z0,aT 10 Z0] [X0 103,X5 104,X2 105,X1 106]) [fq 0 103 [aT 2 Z0,Xb 3 103,Xb 4 104,Xb 6 105,Xb 7 106,aT 9 Z0] [X0 103,X5 104,X2 105,X1 106],fw 103 [Xb 6 103,Xb 7 104,aT 8 Z0] [X2 103,X1 104]] (AI n),gh n (h70 n) (eN 103 [Xb 6 103,Xb 7 104,aT 9 Z0,Xb 11 105,Xb 12 108,aT 13 Z0] [X2 103,X1 104,(105,.cp qG [.iR 106,.iR 107]),(106,.jH dy),(107,.jH Z3),(108,.cp gS [.iR 109,.iR 110,.iR 111,.iR 112]),(109,.jH Z0),(110,.jH Z0),(111,.jH Z0),(112,.jH Z0)]) [fq 2 103 [Xb 6 103,Xb 7 104,Xb 11 105,Xb 12 108] [X2 103,X1 104,(105,.cp qG [.iR 106,.iR 107]),(106,.jH dy),(107,.jH Z3),(108,.cp gS [.iR 109,.iR 110,.iR 111,.iR 112]),(109,.jH Z0),(110,.jH Z0),(111,.jH Z0),(112,.jH Z0)]] (FU n),trivial⟩
def Cv(n:Nat):a8 (Int×bZ×aZ×bZ×aZ×Unit) (bZ×aZ×bZ×aZ×Unit) (Bool×Unit) Bool:=λ(i,a,c,b,d,_) again (k0,k1,_)=>bif decide (i< (fH a:Int))then(aG a i).bind λ e=>(aG b i).bind λ f=>bif !((e.1==f.1)&& (e.2==f.2))then k1 (false,())else again ((ov .i64 (i+1)),a,c,b,d,())else k0 (a,c,b,d,())
def R0(n:Nat):a8 (Int×bZ×aZ×bZ×aZ×Unit) Unit (Bool×Unit) Bool:=λ(i,a,c,b,d,_) again (k0,k1,_)=>bif decide (i< (fH c:Int))then(aG c i).bind λ e=>(aG d i).bind λ f=>bif !((e.1==f.1)&& (e.2==f.2))then k1 (false,())else again ((ov .i64 (i+1)),a,c,b,d,())else k0 ()
def zh(a b:bZ×aZ):Option Bool:=bif ((fH a.1:Int) !=(fH b.1:Int))|| ((fH a.2:Int) !=(fH b.2:Int))then some false else cq (Cv n) n (0,a.1,a.2,b.1,b.2,()) (λ(c,d,e,f,_)=>cq (R0 n) n (0,c,d,e,f,()) (λ(_)=>some true,λ(g,_)=>some g,()),λ(h,_)=>some h,())
def Us:=(e71 n).a 55 ⟨[qG,qG],[],[.aO],λ x y=>zh n x.1 x.2,false⟩
theorem h72:Eo (Us n):=gD Rs.FM (h71 n) func55 (O:= [_,_]) ⟨gh n (h71 n) (eN 59 [Xb 2 59,Xb 3 60,aT 5 Z0] [X0 59,X0 60]) [fq 0 59 [Xb 2 59,Xb 3 60] [X0 59,X0 60],fw 59 [aT 4 .aO] []] (Cv n),gh n (h71 n) (eN 59 [Xb 2 59,Xb 3 60,aT 6 Z0] [X0 59,X0 60]) [fq 2 59 [] [],fw 59 [aT 4 .aO] []] (R0 n),trivial⟩
def s8(p:bZ×aZ)(t:nk×Z9×Z9)(size:Int):Option Bool:=(FJ n).bind λ x=>bif !x then some false else(xB n p).bind λ d=>(bI (!(!d)) (zS n t) false).bind λ f=>(bI (!((!d)|| (!f))) (JZ n p) false).bind λ l=>(bI (!(((!d)|| (!f))|| (!l))) (qg n size 7 50) false).bind λ v=>bif (((!d)|| (!f))|| (!l))||v then some true else(wL n p).bind λ w=>(xf n t).bind λ y=>(JD n w y size).bind λ a=>(AT n p t).bind λ c=>bif c==0 then(PK n p t size).bind λ b=>(bI (!(a.2.2 !=b.2.2)) (zh n a.1 b.1) false).bind λ h=>(bI (!((a.2.2 !=b.2.2)|| (!h))) (FQ n a.2.1 b.2.1) false).bind λ m=>bif ((a.2.2 !=b.2.2)|| (!h))|| (!m)then some false else bif b.2.2 !=0 then some true else(wL n p).bind λ o=>(xf n t).bind λ q=>(OD n o q).bind λ i=>(OD n b.1 b.2.1).bind λ e=>some (((i.2 !=0)|| (e.2==8))|| ((e.2==0)&& (decide (e.1<=i.1))))else(bI (!(a.2.2 !=c)) (zh n a.1 (([]:List eB),([]:List gH))) false).bind λ j=>(bI (!((a.2.2 !=c)|| (!j))) (FQ n a.2.1 ((([]:List Int),([]:List Int)),([]:List Int),([]:List Int))) false).bind λ r=>bif ((a.2.2 !=c)|| (!j))|| (!r)then some false else bif c !=0 then some true else(wL n p).bind λ s=>(xf n t).bind λ u=>(OD n s u).bind λ k=>(OD n (([]:List eB),([]:List gH)) ((([]:List Int),([]:List Int)),([]:List Int),([]:List Int))).bind λ g=>some (((k.2 !=0)|| (g.2==8))|| ((g.2==0)&& (decide (g.1<=k.1))))
def SL:fc:= ⟨[qG,gS,Z0],[],[.aO],λ x y=>s8 n x.1 x.2.1 x.2.2,false⟩
theorem amp(x:ax [qG,gS,Z0])(y:ax []):oI (Us n) f8 [qG,gS,Z0] [] [.aO] false [] x y=(SL n).g x y:=by kernel_rfl
theorem adH:jf Rs.FM.Q 8 (SL n):=xz (h72 n) Rs.FM.b (Rs.FM.a func8 (by kernel_rfl) (by decide)) (by kernel_rfl) (by kernel_rfl) (O:= []) trivial (amp n)
def e73:=(Us n).a 8 (SL n)
theorem h73:Eo (e73 n):=mN (h72 n) (adH n)
end
end
theorem acS(m:Nat):FJ (m+2000)=some true:=by kernel_rfl
section
local instance:Dr:= ⟨false⟩
abbrev wO:=List UInt8
abbrev Vs:=wO×Int
abbrev Pl:=List Vs×List (Int×Int)
abbrev St:=List Int×List Int
abbrev Tk:=St×St
def jh(l:List Int):Int:=(l.find? λ e=>e !=0).getD 0
def ia(b:Bool)(e:Int):Int:=bif b then 0 else e
def cy(x lo a:Int):Bool:=decide (lo<=x)&&decide (x<=a)
theorem tP(n:Nat)(b:Bool)(e:Int):vk n b e=some (ia b e):=by cases b<;>rfl
theorem Ra(n:Nat)(x lo a:Int):H2 n x lo a=some (cy x lo a):=rfl
theorem EO(n:Nat)(x lo a:Int):qg n x lo a=some (cy x lo a):=rfl
theorem afC(n:Nat)(x:Int):EJ n x=some (cy x 1 50):=rfl
theorem Pt(n:Nat)(x:Int):Dy n x=some (cy x 0 3):=rfl
theorem jv{α:Type}(b:Bool)(x d:α):bI b (some x) d=some (bif b then x else d):=by cases b<;>rfl
theorem OH{n:Nat}(l:List Int)(a:l.length<n)(b:l.length<=r8):C5 n l=some (jh l):=by
 refine iy (n:=n) l (λ i=>(l,((fH l):Int),(i:Int),())) (λ i r=>some (jh r)) b ?_ ?_ a
 all_goals grind[h1,h2,h5,h6,Hv,jh]
theorem BO{n:Nat}(c:1000<=n)(a b:Int):C5 n [a,b]=some (jh [a,b]):=OH _ (by simp;omega) (by simp[r8])
theorem QD{n:Nat}(d:1000<=n)(a b c:Int):C5 n [a,b,c]=some (jh [a,b,c]):=OH _ (by simp;omega) (by simp[r8])
def AJ(b:Bool)(c:Int):Bool:=(!(((decide (c>=97))&& (decide (c<=122)))|| ((decide (c>=65))&& (decide (c<=90)))))&& (b|| ((c !=45)&& ((decide (c<48))|| (decide (c>57)))))
def xo:Bool->wO->Bool
 |_,[]=>true
 |b,c::r=>!AJ b ((u5 c:Nat):Int)&&xo false r
def rQ(s:wO):Bool:=(decide (1<=s.length)&&decide (s.length<=12))&&xo true s
theorem FK(i:Nat):((i:Int)==(0:Int))=decide (i=0):=by
 grind
theorem VF{n:Nat}(d:1000<=n)(s:wO):EH n s=some (rQ s):=by
 unfold EH rQ;by_cases a:1<=s.length
 ·by_cases b:s.length<=12
  ·rw[(decide_eq_false (by omega)),(decide_eq_false (by omega)),decide_eq_true a,decide_eq_true b];simp only[x6,cond_false,Bool.true_and];have:=iy (n:=n) (body:=yx n) (ks:=(λ(_)=>some (true),λ(c,_)=>some (c),())) s (λ i=>(s,(i:Int),())) (λ i r=>some (xo (decide (i=0)) r)) (by unfold r8;omega) ?_ ?_ (by omega)
   all_goals grind[AJ,decide,u5,FK,yx,xo]
  grind
 grind
theorem acJ{n:Nat}(s:wO)(f:s.length<n)(d:s.length<=r8):B9 n s=some (rQ s):=by
 unfold B9 rQ;have t:kv s=s.map λ c=>((u5 c:Nat):Int):=rfl;have u:(kv s).length=s.length:=by grind
 have:=iy (n:=n) (body:=yM n) (ks:=(λ(b,_)=>some ((((b:List UInt8) != [])&& (decide (((fH b:Nat):Int)<=(12:Int))))),λ(g,_)=>some (g),())) s
  (λ i=>(s,kv s,((fH (kv s):Nat):Int),(i:Int),())) (λ i r=>some (xo (decide (i=0)) r&& (((s:List UInt8) != [])&& (decide (((fH s:Nat):Int)<=(12:Int)))))) d ?_ ?_ f
 ·grind[decide]
 ·intro i x r h j k l o q again v;have m:aG (kv s) (i:Int)=some ((u5 x:Nat):Int):=by
   grind[oR]
  have p:decide ((i:Int)< ((fH (kv s):Nat):Int))=true:=by grind
  have e:AJ (decide (i=0)) ((u5 x:Nat):Int)=((!(((decide (((u5 x:Nat):Int)>=(97:Int)))&& (decide (((u5 x:Nat):Int)<=(122:Int))))|| ((decide (((u5 x:Nat):Int)>=(65:Int)))&& (decide (((u5 x:Nat):Int)<=(90:Int))))))&& (((i:Int)==(0:Int))|| ((((u5 x:Nat):Int) !=(45:Int))&& ((decide (((u5 x:Nat):Int)< (48:Int)))|| (decide (((u5 x:Nat):Int)>(57:Int))))))):=by
   rw[FK];rfl
  grind[yM,xo,AJ,decide,u5]
 ·intro a again;have a':decide ((s.length:Int)< ((fH (kv s):Nat):Int))=false:=by grind
  simp only[yM,a',cond_false];rfl
theorem ahd{n:Nat}(l:List Vs)(name:wO)(a:l.length<n)(b:l.length<=r8):∃q,vV n l name=some q/\decide (q<0)=!(l.any λ x=>x.1==name):=by
 have:=iy (n:=n) (body:=xO n) (ks:=(λ(_)=>some ((-1:Int)),λ(c,_)=>some (c),())) l (λ i=>(l,(λ(d:Vs)=>some (d.1==name)),((fH l:Nat):Int),(i:Int),()))
  (λ i r=>some (match r.findIdx? λ x=>x.1==name with|some k=>((i+k:Nat):Int)|none=> -1)) b ?_ ?_ a
 ·refine⟨match l.findIdx? λ x=>x.1==name with|some k=>((0+k:Nat))|none=> -1,?_,?_⟩
  ·simp_all[vV,IH,Jr]
  grind
 all_goals grind[h1,h2,h5,h6,xO]
theorem V1{n:Nat}(l:List (Int×Int))(v:Int×Int)(a:l.length<n)(b:l.length<=r8):∃q,yf n l v=some q/\(decide (q>=0))=decide (v∈l):=by
 unfold yf;have:=iy (n:=n) (body:=yp n) (ks:=(λ(_)=>some ((-1:Int)),λ(c,_)=>some (c),())) l (λ i=>(l,((fH l:Nat):Int),(i:Int),v.1,v.2,()))
  (λ i r=>some (match r.findIdx? λ e=>e==v with|some k=>((i+k:Nat):Int)|none=> -1)) b ?_ ?_ a
 all_goals grind[h1,h2,h5,h6,yp]
theorem afi{n:Nat}(l:List (Int×Int))(v:Int×Int)(a:l.length<n)(b:l.length<=r8):BY n l v=some (decide (v∈l)):=by
 obtain⟨q,c,d⟩:=V1 l v a b;grind[BY]
end
section
local instance:Dr:= ⟨false⟩
def wi(pre:List Vs)(v:Vs):Int:=jh [ia (rQ v.1) 4,ia (!(pre.any λ x=>x.1==v.1)) 5,ia (cy v.2 1 50) 2]
def ix:Nat->List Vs->List Vs->Int×Int
 |_,_,[]=>(0,0)
 |i,pre,v::r=>bif wi pre v==0 then ix (i+1) (pre++ [v]) r else((i:Int),wi pre v)
def sx(m:Int)(pre:List (Int×Int))(h:Int×Int):Int:=jh [ia (cy h.1 0 (m- 1)&&cy h.2 0 (m- 1)) 6,ia (h.1 !=h.2) 11,ia (!(decide (h∈pre))) 26]
def iq(m:Int):Nat->List (Int×Int)->List (Int×Int)->Int×Int
 |_,_,[]=>(0,0)
 |i,pre,h::r=>bif sx m pre h==0 then iq m (i+1) (pre++ [h]) r else((i:Int),sx m pre h)
def mQ(p:Pl):Int×Int:=
 bif decide (p.1.length=0)then(0,10)else bif decide (6<p.1.length)then(0,8)else
  bif (ix 0 [] p.1).2==0 then(bif decide (30<p.2.length)then(0,8)else iq p.1.length 0 [] p.2)else ix 0 [] p.1
structure jg(p:Pl):Prop where
 v:p.1.length<=8
 h:p.2.length<=32
 n:∀v∈p.1,v.1.length<=20
theorem Tg(a b c:Int):jh [a,b,c]=bif a !=0 then a else bif b !=0 then b else c:=by
 grind[jh]
theorem Jo(a b:Int):jh [a,b]=bif a !=0 then a else b:=by
 grind[jh]
theorem an0:(l:List Vs)->(i:Nat)->(pre:List Vs)->((ix i pre l).2==0)=true->ix i pre l=(0,0)
 | [],_,_,_=>rfl
 |v::r,i,pre,h=>by
  simp only[ix]at h⊢;cases a:(wi pre v==0)
  ·grind
  ·rw[a]at h;exact an0 r _ _ h
theorem Hh(m:Int):(l:List (Int×Int))->(i:Nat)->(pre:List (Int×Int))->((iq m i pre l).2==0)=true->iq m i pre l=(0,0)
 | [],_,_,_=>rfl
 |v::r,i,pre,h=>by
  simp only[iq]at h⊢;cases a:(sx m pre v==0)
  ·grind
  ·rw[a]at h;exact Hh m r _ _ h
theorem BD{α:Type}{l:List α}{i:Nat}{x:α}(h:l[i]?=some x):l.take (i+1)=l.take i++ [x]:=by grind[List.take_add_one]
theorem SF{α:Type}{l:List α}(h:l.length<=1000):ov .i64 (((fH l:Nat):Int)- 1)=(l.length:Int)- 1:=by rw[nu]<;>omega
theorem aoz{m:Nat}(h:m<=1000):ov .i64 ((m:Int)- 1)=(m:Int)- 1:=by rw[nu]<;>omega
theorem i2(a b:Int):aG [a,b] 0=some a/\aG [a,b] 1=some b:= ⟨rfl,rfl⟩
theorem r2:cQ (0:Int) 2=some ()/\cQ (1:Int) 2=some ():= ⟨rfl,rfl⟩
theorem aiO{n:Nat}(e:1000<=n){p:Pl}(hp:jg p)(k0:List Vs×List (Int×Int)×Unit->Option (Int×Int))(k1:Int×Int×Unit->Option (Int×Int)):
 cq (Au n) n (p.1,((fH p.1:Nat):Int),(0:Int),p.1,p.2,()) (k0,k1,())=bif (ix 0 [] p.1).2==0 then k0 (p.1,p.2,())else k1 ((ix 0 [] p.1).1,(ix 0 [] p.1).2,()):=by
 have k:=hp.v;refine iy _ (λ i=>(p.1,((fH _):Int),(i:Int),p.1,p.2,())) (λ i r=>bif (ix i (p.1.take i) r).2==0 then k0 _ else k1 ((ix i (p.1.take i) r).1,(ix i (p.1.take i) r).2,())) (by unfold r8;omega) ?_ ?_ (by omega)
 ·intro i x r h a j b c d again m;have l:=hp.n x (y7 a);obtain⟨q,f,g⟩:=ahd (n:=n) (p.1.take i) x.1 (by grind) (by simp[r8];omega);simp only[Au,c,cond_true,b,o5,d,xV p.1 i (by omega),acJ (n:=n) x.1 (by omega) (by unfold r8;omega),tP,f,g,afC,QD e];grind[wi,ix]
 grind[Au,ix]
theorem ab7{n:Nat}(e:1000<=n){p:Pl}(hp:jg p)(k0:Unit->Option (Int×Int))(k1:Int×Int×Unit->Option (Int×Int)):
 cq (Ag n) n (p,(λ f=>vO n f p),p.2,((fH p.2:Nat):Int),(0:Int),()) (k0,k1,())=bif (iq p.1.length 0 [] p.2).2==0 then k0 ()else k1 ((iq p.1.length 0 [] p.2).1,(iq p.1.length 0 [] p.2).2,()):=by
 have k:=hp.h;have l:=hp.v;have a:∀z,vO n z p=some (cy z 0 ((p.1.length:Int)- 1)):=λ z=>by
  show(H2 n z 0 (ov _ (((fH p.1))- 1))).bind _=_;rw[SF (by omega)];rfl
 rw[(funext a)];refine iy _ (λ i=>(p,(λ z=>some (cy z 0 _)),p.2,((fH _):Int),(i:Int),())) (λ i r=>bif (iq _ i (p.2.take i) r).2==0 then k0 _ else k1 ((iq _ i (p.2.take i) r).1,(iq _ i (p.2.take i) r).2,())) (by unfold r8;omega) ?_ ?_ (by omega)
 ·intro i x r g h j b c d again m;simp only[Ag,c,cond_true,b,o5,d,r2.1,r2.2,(i2 x.1 x.2).1,(i2 x.1 x.2).2,jv,tP,xV p.2 i (by omega),afi (n:=n) (p.2.take i) x (by grind) (by simp[r8];omega),QD e];grind[sx,iq]
 grind[Ag,iq]
theorem gt0(m:Nat):decide ((m:Int)>(0:Int))=!decide (m=0):=by
 grind
theorem YO(m k:Nat):decide ((m:Int)<=(k:Int))=!decide (k<m):=by
 grind
theorem Ig(m k:Nat):decide ((m:Int)>(k:Int))=decide (k<m):=by
 simp
theorem Ym{n:Nat}(a:1000<=n){p:Pl}(hp:jg p):xg n p=some (mQ p):=by
 unfold xg mQ;rw[tP,o5,tP,o5,BO a,o5,gt0,show decide (p.1.length<=(6:Int))=!decide _ from YO _ 6];cases h0:decide (p.1.length=0)with
 |true=>
  rfl
 |false=>
  cases b:decide (6<p.1.length)with
  |true=>rfl
  |false=>
   simp only[u6,ia,cond_true,cond_false];grind[jh,bne_self_eq_false,aiO,ix,decide,fH,Ig,FF,ab7,iq,Hh]
theorem aoB{α:Type}{l:List α}{k:Nat}{x:α}(h:l[k]?=some x)(f:α->Bool):(l.take (k+1)).any f=((l.take k).any f||f x):=by
 simp_all[BD]
theorem Km{D a R:Type}{body:D->(D->Option R)->a->Option R}{ks:a}{α:Type}{n:Nat}(l:List α)(i:Nat)(c:i<=l.length)(f:α->Bool)(F:Nat->D)(yes no:Option R)(d:i<=r8)(g:i<n)
 (h:∀k x,k<i->l[k]?=some x->decide ((k:Int)< (i:Int))=true->ov .i64 ((k:Int)+1)=((k+1:Nat):Int)->aG l (k:Int)=some x->∀again,body (F k) again ks=bif f x then yes else again (F (k+1)))
 (b:decide ((i:Int)< (i:Int))=false->∀again,body (F i) again ks=no):cq body n (F 0) ks=bif (l.take i).any f then yes else no:=by
 have e:(l.take i).length=i:=by grind
 have:=iy (n:=n) (body:=body) (ks:=ks) (l.take i) F (λ _ r=>bif r.any f then yes else no) (by omega) ?_ ?_ (by omega)
 all_goals grind[h1,h2,h5,h6,oR]
theorem air{n:Nat}(e:1000<=n){p:Pl}(hp:jg p)(k0:List Vs×List (Int×Int)×Unit->Option (Int×Int))(k1:Int×Int×Unit->Option (Int×Int)):
 cq (yU n) n ((0:Int),p.1,p.2,()) (k0,k1,())=bif (ix 0 [] p.1).2==0 then k0 (p.1,p.2,())else k1 ((ix 0 [] p.1).1,(ix 0 [] p.1).2,()):=by
 have u:=hp.v;refine iy _ (λ i=>((i:Int),p.1,p.2,())) (λ i r=>bif (ix i (p.1.take i) r).2==0 then k0 _ else k1 ((ix i (p.1.take i) r).1,(ix i (p.1.take i) r).2,())) (by unfold r8;omega) ?_ ?_ (by omega)
 ·intro i x r m o q c d s again v;simp only[yU,d,cond_true,c,o5,VF e];simp only[ix];have a:wi (p.1.take i) x=bif !rQ x.1 then 4 else bif (p.1.take i).any λ y=>y.1==x.1 then 5 else bif !cy x.2 1 50 then 2 else 0:=by
   unfold wi;cases rQ x.1<;>cases(p.1.take i).any (λ y=>y.1==x.1)<;>cases cy x.2 1 50<;>rfl
  rw[a];cases t:rQ _ with
  |false=>rfl
  |true=>
   simp only[o7,cond_false];refine(Km (n:=n) (body:=Ak n) p.1 i (by omega) (λ y=>y.1==x.1) (λ k=>(i,k,p.1,p.2,())) (k1 (i,5,())) (bif !cy x.2 1 50 then k1 (i,2,())else again (((i+1:Nat)),p.1,p.2,())) (by unfold r8;omega) (by omega)
    (λ k y f g h j l again=>by grind[Ak]) (λ b again=>by grind[Ak,EO])).trans ?_
   grind
 grind[yU,ix]
theorem adi{n:Nat}(B:1000<=n){p:Pl}(hp:jg p)(k0:Unit->Option (Int×Int))(k1:Int×Int×Unit->Option (Int×Int)):
 cq (zm n) n ((0:Int),p.1,p.2,()) (k0,k1,())=bif (iq p.1.length 0 [] p.2).2==0 then k0 ()else k1 ((iq p.1.length 0 [] p.2).1,(iq p.1.length 0 [] p.2).2,()):=by
 have w:=hp.h;have C:=hp.v;refine iy _ (λ i=>((i:Int),p.1,p.2,())) (λ i r=>bif (iq _ i (p.2.take i) r).2==0 then k0 _ else k1 ((iq _ i (p.2.take i) r).1,(iq _ i (p.2.take i) r).2,())) (by unfold r8;omega) ?_ ?_ (by omega)
 ·intro i x r q s t e f u again D;have c:∀z,zF n p z=some (cy z 0 ((p.1.length:Int)- 1)):=λ z=>by
   show(qg n z 0 (ov _ (((fH p.1))- 1))).bind _=_;rw[SF (by omega)];rfl
  simp only[zm,f,cond_true,e,o5,r2.1,r2.2,(i2 x.1 x.2).1,(i2 x.1 x.2).2,c,jv];simp only[iq];have g:((p.2.take i).any λ y=>y.1==x.1&&y.2==x.2)=decide (x∈p.2.take i):=by
   grind
  have d:sx p.1.length (p.2.take i) x=bif !(cy x.1 0 ((p.1.length:Int)- 1))||!(cy x.2 0 ((p.1.length:Int)- 1))then 6 else bif x.1==x.2 then 11 else bif (p.2.take i).any λ y=>y.1==x.1&&y.2==x.2 then 26 else 0:=by
   unfold sx;rw[Tg,g];simp only[bne];cases cy x.1 0 ((p.1.length:Int)- 1)<;>cases cy x.2 0 ((p.1.length:Int)- 1)<;>cases(x.1==x.2)<;>cases decide (x∈p.2.take i)<;>rfl
  rw[d];have a:((!(cy x.1 0 ((p.1.length:Int)- 1)))||!(bif !(!(cy x.1 0 ((p.1.length:Int)- 1)))then cy (bif !(!(cy x.1 0 ((p.1.length:Int)- 1)))then x.2 else 0) 0 ((p.1.length:Int)- 1)else false))=(!(cy x.1 0 ((p.1.length:Int)- 1))||!(cy x.2 0 ((p.1.length:Int)- 1))):=by
   grind
  rw[a];cases A:(!(cy _ 0 _)||!(cy _ 0 _))with
  |true=>rfl
  |false=>
   simp only[cond_false];cases v:(x.1==x.2)with
   |true=>rfl
   |false=>
    simp only[cond_false];refine(Km (n:=n) (body:=yj n) p.2 i (by omega) (λ y=>y.1==x.1&&y.2==x.2) (λ k=>(i,k,p.1,p.2,x.1,x.2,())) (k1 (i,26,())) (again (((i+1:Nat)),p.1,p.2,())) (by unfold r8;omega) (by omega)
     (λ k y h j l m o again=>by grind[yj]) (λ b again=>by grind[yj])).trans ?_
    grind
 grind[zm,iq]
theorem v46{n:Nat}(a:1000<=n){p:Pl}(hp:jg p):xy n p=some (mQ p):=by
 unfold xy mQ;grind[FK,decide,fH,Ig,h0,h6,air,ix,FF,adi,iq,Hh]
theorem v87{n:Nat}(a:1000<=n){p:Pl}(hp:jg p):tx n p=some (p,(mQ p).2):=by
 grind[tx,Ym]
end
section
local instance:Dr:= ⟨false⟩
theorem yG(a b:Nat):((a:Int) !=(b:Int))=!decide (a=b):=by
 grind
theorem LY(a b:Nat):((a:Int)==(b:Int))=decide (a=b):=by
 grind
theorem kG{α:Type}{s:List α}{i:Nat}(h:i<s.length):∃c,aG s (i:Int)=some c/\s.drop i=c::s.drop (i+1)/\s[i]?=some c:= ⟨s[i],by rw[oR,P9 h],by simp_all,by grind⟩
def qV(z c w:Int):Int:=jh [ia (cy c 0 z&&cy w 0 3) 2,ia ((c==0)==(w==0)) 13]
def xr:List Vs->List Int->List Int->Int
 |v::vs,c::cs,w::ws=>bif qV v.2 c w==0 then xr vs cs ws else qV v.2 c w
 |_,_,_=>0
def j5(p:Pl)(s:St):Int:=bif decide (s.1.length=p.1.length)&&decide (s.2.length=p.1.length)then xr p.1 s.1 s.2 else 10
theorem Sr(v:Vs)(vs:List Vs)(c w:Int)(cs a:List Int):xr (v::vs) (c::cs) (w::a)=bif qV v.2 c w==0 then xr vs cs a else qV v.2 c w:=rfl
theorem SZ{n:Nat}(j:1000<=n){p:Pl}(hp:jg p)(s:St):px n p s=some (j5 p s):=by
 have u:=hp.v;unfold px j5;rw[show IY n _=some ((fH p.1):Int)from rfl];simp only[o5,jv,yG];cases f:decide (s.1.length=p.1.length)with
 |false=>rfl
 |true=>
  simp only[o7,u6,cond_true,ab0,Bool.true_and,yG];cases g:decide (s.2.length=p.1.length)with
  |false=>rfl
  |true=>
   simp only[o7,cond_false,cond_true];have q:=of_decide_eq_true f;have t:=of_decide_eq_true g;refine iy _ (λ i=>(p.1,((fH p.1):Int),(i:Int),s.1,s.2,())) (λ i r=>some (xr r (s.1.drop i) (s.2.drop i))) (by unfold r8;omega) ?_ ?_ (by omega)
   ·intro i x r l m o a b d again k;obtain⟨c,e,c2,_⟩:=kG (s:=s.1) (i:=i) (by omega);obtain⟨w,w1,w2,_⟩:=kG (s:=s.2) (i:=i) (by omega);simp only[Co,b,cond_true,a,e,w1,o5,d,Ra,Pt,jv,tP,BO j,k,c2,w2,Sr];grind[qV]
   ·intro h again;simp only[Co,h,cond_false];rfl
theorem Mc{n:Nat}(u:1000<=n){p:Pl}(hp:jg p)(s:St):sM n p s=some (j5 p s):=by
 have v:=hp.v;unfold sM j5;simp only[yG];cases f:decide (s.1.length=p.1.length)with
 |false=>rfl
 |true=>
  cases g:decide (s.2.length=p.1.length)with
  |false=>rfl
  |true=>
   simp only[o7,x6,cond_false,wH,cond_true];have o:=of_decide_eq_true f;have q:=of_decide_eq_true g;refine iy _ (λ i=>((i:Int),p.1,p.2,s.1,s.2,())) (λ i r=>some (xr r (s.1.drop i) (s.2.drop i))) (by unfold r8;omega) ?_ ?_ (by omega)
   ·intro i x r k l m a b d again j;obtain⟨c,e,c2,_⟩:=kG (s:=s.1) (i:=i) (by omega);obtain⟨w,w1,w2,_⟩:=kG (s:=s.2) (i:=i) (by omega);simp only[DI,b,cond_true,a,e,w1,o5,d,EO,jv,j,c2,w2,Sr];have t:qV x.2 c w=bif !(cy c 0 x.2)||!(cy w 0 3)then 2 else bif !((w==0)==(c==0))then 13 else 0:=by
     unfold qV;cases cy c 0 x.2<;>cases cy w 0 3<;>cases(c==0)<;>cases(w==0)<;>rfl
    grind
   ·intro h again;simp only[DI,h,cond_false];rfl
def qK(z c w:Int):Int:=jh [ia (((c== -1)||cy c 0 z)&&cy w 0 3) 2,ia ((w==0)|| (c !=0)) 13]
def wz:List Vs->List Int->List Int->Int
 |v::vs,c::cs,w::ws=>bif qK v.2 c w==0 then wz vs cs ws else qK v.2 c w
 |_,_,_=>0
theorem NV(v:Vs)(vs:List Vs)(c w:Int)(cs a:List Int):wz (v::vs) (c::cs) (w::a)=bif qK v.2 c w==0 then wz vs cs a else qK v.2 c w:=rfl
def rZ(p:Pl)(t:Tk):Int:=bif j5 p t.1==0 then(bif decide (t.2.1.length=p.1.length)&&decide (t.2.2.length=p.1.length)then wz p.1 t.2.1 t.2.2 else 10)else j5 p t.1
theorem ZJ{n:Nat}(a:1000<=n){p:Pl}(hp:jg p)(t:Tk):v7 n p t=some (rZ p t):=by
 have v:=hp.v;unfold v7 rZ;rw[show px n _ _=px n p t.1 from rfl,SZ a hp,show IY n _=some ((fH p.1):Int)from rfl];simp only[o5,jv,tP,BO a,LY];rw[Jo];cases h0:(j5 p _==0)with
 |false=>grind
 |true=>
  simp only[bne,h0,o7,cond_false,cond_true];cases g:decide (t.2.1.length=p.1.length)with
  |false=>rfl
  |true=>
   simp only[cond_true,Bool.true_and,LY];cases h:decide (t.2.2.length=p.1.length)with
   |false=>rfl
   |true=>
    simp only[ia,cond_true,show((0:Int)==0)=true from rfl,o7,cond_false];have q:=of_decide_eq_true g;have u:=of_decide_eq_true h;refine iy _ (λ i=>(p.1,((fH p.1):Int),(i:Int),t.1.1,t.1.2,t.2.1,t.2.2,())) (λ i r=>some (wz r (t.2.1.drop i) (t.2.2.drop i))) (by unfold r8;omega) ?_ ?_ (by omega)
    ·intro i x r l m o b d e again k;obtain⟨c,f,c2,_⟩:=kG (s:=t.2.1) (i:=i) (by omega);obtain⟨w,w1,w2,_⟩:=kG (s:=t.2.2) (i:=i) (by omega);simp only[Em,d,cond_true,b,f,w1,o5,e,Ra,Pt,jv,tP,BO a,k,c2,w2,NV];grind[qK]
    ·intro j again;simp only[Em,j,cond_false];rfl
theorem YE{n:Nat}(l:1000<=n){p:Pl}(hp:jg p)(t:Tk):wy n p t=some (rZ p t):=by
 have A:=hp.v;unfold wy rZ;rw[show sM n _ _=sM n p t.1 from rfl,Mc l hp,o5];simp only[bne];cases h0:(j5 p _==0)with
 |false=>rfl
 |true=>
  simp only[o7,cond_false,cond_true];have a:=yG t.2.1.length p.1.length;have b:=yG t.2.2.length p.1.length;simp only[bne]at a b;rw[a,b];cases h:decide (t.2.1.length=p.1.length)with
  |false=>rfl
  |true=>
   cases j:decide (t.2.2.length=p.1.length)with
   |false=>rfl
   |true=>
    simp only[o7,x6,cond_false,wH,cond_true];have v:=of_decide_eq_true h;have y:=of_decide_eq_true j;refine iy _ (λ i=>((i:Int),p.1,p.2,t.1.1,t.1.2,t.2.1,t.2.2,())) (λ i r=>some (wz r (t.2.1.drop i) (t.2.2.drop i))) (by unfold r8;omega) ?_ ?_ (by omega)
    ·intro i x r o q u d e f again m;obtain⟨c,g,c2,_⟩:=kG (s:=t.2.1) (i:=i) (by omega);obtain⟨w,w1,w2,_⟩:=kG (s:=t.2.2) (i:=i) (by omega);simp only[Ez,e,cond_true,d,g,w1,o5,f,EO,jv,m,c2,w2,NV];have z:qK x.2 c w=bif ((c != -1)&&!(cy c 0 x.2))||!(cy w 0 3)then 2 else bif (w !=0)&& (c==0)then 13 else 0:=by
      unfold qK;rw[Jo];simp only[bne];cases(c== -1)<;>cases cy c 0 x.2<;>cases cy w 0 3<;>cases(c==0)<;>cases(w==0)<;>rfl
     grind
    ·intro k again;simp only[Ez,k,cond_false];rfl
def bh(p:Pl)(s:St):Int:=bif (mQ p).2==0 then j5 p s else(mQ p).2
def kX(p:Pl)(t:Tk):Int:=bif (mQ p).2==0 then rZ p t else(mQ p).2
theorem Wa{n:Nat}(a:1000<=n){p:Pl}(hp:jg p)(t:Tk):AT n p t=some (kX p t):=by
 grind[AT,kX,v46,YE]
theorem S5{n:Nat}(a:1000<=n){p:Pl}(hp:jg p)(t:Tk):ux n p t=some (kX p t):=by
 grind[ux,kX,v87,ZJ]
abbrev I6:=Int×Int×Int×Int×Int×Int
def i6(l:List Int):I6:=(l[0]?.getD 0,l[1]?.getD 0,l[2]?.getD 0,l[3]?.getD 0,l[4]?.getD 0,l[5]?.getD 0)
def l6(x:I6):List Int:= [x.1,x.2.1,x.2.2.1,x.2.2.2.1,x.2.2.2.2.1,x.2.2.2.2.2]
def nd(s:St):I6×I6:=(i6 s.1,i6 s.2)
theorem v93(n:Nat)(s:St):tj n s=some (nd s):=rfl
theorem g6(l:List Int){i:Nat}(a:i<6):aG (l6 (i6 l)) (i:Int)=some (l[i]?.getD 0):=by
 rw[oR];have:i=0\/i=1\/i=2\/i=3\/i=4\/i=5:=by omega
 rcases this with rfl|rfl|rfl|rfl|rfl|rfl<;>rfl
theorem r6{i:Nat}(a:i<6):cQ (i:Int) 6=some ():=by
 grind[cQ]
def xl:List Int->List Int->List Int->List Int->Bool
 |a::tcs,tw::tws,c::cs,w::ws=>((a== -1)|| (a==c))&& ((tw==0)|| (tw==w))&&xl tcs tws cs ws
 |_,_,_,_=>true
def xN(t:Tk)(s:St):Bool:=xl t.2.1 t.2.2 s.1 s.2
theorem LK(a b c d:Int)(e f g h:List Int):xl (a::e) (b::f) (c::g) (d::h)=(((a== -1)|| (a==c))&& ((b==0)|| (b==d))&&xl e f g h):=rfl
structure uv(p:Pl)(s:St):Prop where
 c:s.1.length=p.1.length
 w:s.2.length=p.1.length
end
section
local instance:Dr:= ⟨false⟩
abbrev aeu:=Pl×Tk×I6×I6
theorem aos:(vs:List Vs)->(cs a:List Int)->True:=λ _ _ _=>trivial
theorem F1{p:Pl}{s:St}(h:j5 p s=0):uv p s:=by
 unfold j5 at h;cases a:decide (s.1.length=p.1.length)with
 |false=>grind
 |true=>
  cases b:decide (s.2.length=p.1.length)with
  |false=>grind
  |true=>exact⟨by grind,by grind⟩
theorem RJ{p:Pl}{t:Tk}(h:rZ p t=0):uv p t.1/\uv p t.2:=by
 unfold rZ at h;cases h0:(j5 p t.1==0)with
 |false=>grind
 |true=>
  refine⟨F1 (by grind),?_⟩;rw[h0]at h;simp only[cond_true]at h;cases a:decide (t.2.1.length=p.1.length)with
  |false=>rw[a]at h;exact absurd (show(10:Int)=0 from h) (by decide)
  |true=>
   cases b:decide (t.2.2.length=p.1.length)with
   |false=>rw[a,b]at h;exact absurd (show(10:Int)=0 from h) (by decide)
   |true=>exact⟨by grind,by grind⟩
theorem L6{p:Pl}{t:Tk}(h:kX p t=0):(mQ p).2=0/\rZ p t=0:=by
 grind[kX]
theorem nY{p:Pl}{s:St}(h:bh p s=0):(mQ p).2=0/\j5 p s=0:=by
 grind[bh]
theorem aaK{p:Pl}(h:(mQ p).2=0):1<=p.1.length/\p.1.length<=6/\p.2.length<=30:=by
 grind[mQ]
def GC(p:Pl)(t:Tk):aeu:=(p,t,nd t.1)
theorem v90{n:Nat}(a:1000<=n){p:Pl}(hp:jg p)(t:Tk):vm n p t=some (bif kX p t==0 then(some (GC p t),0)else(none,kX p t)):=by
 unfold vm;rw[show ux n _ _=ux n p t from rfl,S5 a hp,o5];simp only[bne];cases h:(kX p t==0)with
 |false=>rfl
 |true=>rfl
theorem v92{n:Nat}(I:1000<=n){p:Pl}(hp:jg p)(h6:p.1.length<=6){t:Tk}{s:St}(d:uv p t.2)(b:uv p s)(z:I6×I6):ud n (some (p,t,z)) (nd s)=some (xN t s):=by
 have J:=hp.v;have j:=d.c;have k:=d.w;have m:=b.c;have o:=b.w;refine iy p.1 (λ i=>(some (p,t,z),((fH p.1):Int),(i:Int),(nd s).1.1,(nd s).1.2.1,(nd s).1.2.2.1,(nd s).1.2.2.2.1,(nd s).1.2.2.2.2.1,(nd s).1.2.2.2.2.2,(nd s).2.1,(nd s).2.2.1,(nd s).2.2.2.1,(nd s).2.2.2.2.1,(nd s).2.2.2.2.2.1,(nd s).2.2.2.2.2.2,()))
  (λ i r=>some (xl (t.2.1.drop i) (t.2.2.drop i) (s.1.drop i) (s.2.drop i))) (by unfold r8;omega) ?_ ?_ (by omega)
 ·intro i x r C D E F e f again v;obtain⟨B,g,c2,_⟩:=kG (s:=t.2.1) (i:=i) (by omega);obtain⟨K,d1,d2,_⟩:=kG (s:=t.2.2) (i:=i) (by omega);obtain⟨c,k1,y,A⟩:=kG (s:=s.1) (i:=i) (by omega);obtain⟨w,w1,w2,w3⟩:=kG (s:=s.2) (i:=i) (by omega);have a:i<6:=by omega
  have gc:aG [(nd s).1.1,(nd s).1.2.1,(nd s).1.2.2.1,(nd s).1.2.2.2.1,(nd s).1.2.2.2.2.1,(nd s).1.2.2.2.2.2] (i:Int)=some c:=by
   have:=g6 s.1 a;rw[A]at this;trivial
  have h:aG [(nd s).2.1,(nd s).2.2.1,(nd s).2.2.2.1,(nd s).2.2.2.2.1,(nd s).2.2.2.2.2.1,(nd s).2.2.2.2.2.2] (i:Int)=some w:=by
   have:=g6 s.2 a;rw[w3]at this;trivial
  simp only[B4,e,cond_true,g,gc,h,r6 a,o5,f,jv,v,c2,d2,y,w2,LK,bne];cases G:(B== -1)with
  |true=>
   grind[o7,u6,jv,yR]
  |false=>
   grind[o7,u6,jv,e2,yR]
 ·intro u again;simp only[B4,u,cond_false];have q:∀l:List Int,l.length=p.1.length->l.drop p.1.length= []:=λ l H=>List.drop_eq_nil_of_le (by omega);rw[q _ j,q _ k,q _ m,q _ o];rfl
theorem v22(n:Nat){p:Pl}(hp:jg p):wL n p=some p:=by
 unfold wL;have:=hp.v;have:=hp.h;grind[zG]
theorem Df(n:Nat)(l:List Int)(h:l.length<=1000):uV n l=some l:=by
 grind[uV,zG]
theorem MK(n:Nat)(s:St)(h1:s.1.length<=1000)(h2:s.2.length<=1000):th n s=some s:=by
 grind[th,Df]
theorem v23(n:Nat)(t:Tk)(h1:t.1.1.length<=1000)(h2:t.1.2.length<=1000)(h3:t.2.1.length<=1000)(h4:t.2.2.length<=1000):xf n t=some t:=by
 grind[xf,MK,Df]
theorem v18{n:Nat}(j:1000<=n)(p:Pl):∃b,xB n p=some b/\(b=true->jg p):=by
 unfold xB;generalize f:(((((decide (((fH p.1:Nat):Int)>(4:Int)))&& (decide (((fH p.1:Nat):Int)<=(6:Int))))|| (decide (((fH p.1:Nat):Int)>(8:Int))))|| ((decide (((fH p.2:Nat):Int)>(14:Int)))&& (decide (((fH p.2:Nat):Int)<=(30:Int)))))|| (decide (((fH p.2:Nat):Int)>(32:Int))))=a;cases a with
 |true=>simp
 |false=>
  simp only[cond_false];have d:p.1.length<=8:=by
   grind
  have c:p.2.length<=32:=by
   grind
  have:=iy (n:=n) (body:=yJ n) (ks:=(λ(_)=>some (true),λ(e,_)=>some (e),())) p.1 (λ i=>((i:Int),p.1,p.2,())) (λ i r=>some (r.all λ v=>decide (v.1.length<=20)&&!(cy v.2 11 50))) (by unfold r8;omega) ?_ ?_ (by omega)
  ·refine⟨_,this,λ h=> ⟨d,c,λ v g=>?_⟩⟩;grind
  all_goals grind[yJ,EO,jv]
theorem v20(n:Nat)(s:St):∃b,wX n s=some b/\(b=true->s.1.length<=10/\s.2.length<=10):=by
 refine⟨_,rfl,λ h=>?_⟩;grind
theorem v19(n:Nat)(t:Tk):∃b,zS n t=some b/\(b=true->t.1.1.length<=10/\t.1.2.length<=10/\t.2.1.length<=10/\t.2.2.length<=10):=by
 refine⟨_,rfl,λ h=>?_⟩;grind
end
section
local instance:Dr:= ⟨false⟩
def z6:I6:=(0,0,0,0,0,0)
theorem v95{n:Nat}(a:1000<=n){p:Pl}(hp:jg p)(s:St):Ij n p s=some (p,bif bh p s==0 then nd s else(z6,z6),bh p s):=by
 unfold Ij bh;rw[show tx n _=tx n p from rfl,v87 a hp,o5];simp only[bne];cases h:((mQ p).2==0)with
 |true=>
  simp only[cond_true];rw[show px n _ _=px n p s from rfl,SZ a hp,o5];cases b:(j5 p s==0)with
  |true=>
   have e:j5 p s=0:=by grind
   rw[e];rfl
  |false=>rfl
 |false=>
  simp only[cond_false,u6,cond_true,h];rfl
def tG(b:Int):Int->List Int->List Int->Int
 |a,c::cs,w::ws=>tG b (bif w==b then ov .i64 (a+c)else a) cs ws
 |a,_,_=>a
theorem amS(b a c w:Int)(cs d:List Int):tG b a (c::cs) (w::d)=tG b (bif w==b then ov .i64 (a+c)else a) cs d:=rfl
theorem alF{b:Int}(h:(0==b)=false):(k:Nat)->(a:Int)->(cs:List Int)->tG b a cs (x5 k 0)=a
 |0,a,[]=>rfl
 |0,a,_::_=>rfl
 |k+1,a,[]=>rfl
 |k+1,a,c::cs=>by
  rw[List.replicate_succ,amS,h,cond_false,alF h k]
theorem amy{d:Int}(h:(0==d)=false)(k:Nat):(cs b:List Int)->cs.length=b.length->(a:Int)->(e:List Int)->tG d a (cs++e) (b++x5 k 0)=tG d a cs b
 | [],[],_,a,e=>by
  rw[abY,abY,alF h];rfl
 |c::cs,w::b,hl,a,e=>by
  exact amy h k _ b (by simpa using hl) _ e
theorem anA:(l:List Int)->l.length<=6->l6 (i6 l)=l++x5 (6- l.length) 0
 | [],_=>rfl
 | [_],_=>rfl
 | [_,_],_=>rfl
 | [_,_,_],_=>rfl
 | [_,_,_,_],_=>rfl
 | [_,_,_,_,_],_=>rfl
 | [_,_,_,_,_,_],_=>rfl
 |_::_::_::_::_::_::_::_,h=>by trivial
end
end Go.Abs.R
namespace Go.Abs
section
variable[Dr]
theorem alo{α:Type}{l:List α}{i:Int}(h0:0<=i)(h1:i< (l.length:Int)):aG l i=some (l[i.toNat]'(by omega)):=by
 grind[aG,P9]
theorem anX{α:Type}(l:List α)(i:Nat)(x:α)(h:i<l.length):tD l (i:Int) x=some (l.set i x):=by
 grind[tD]
section
variable{D Ks R:Type}{body:D->(D->Option R)->Ks->Option R}{ks:Ks}
theorem adL{A:Type}{n:Nat}(len:Nat)(F:Nat->A->D)(G:Nat->A->Option R)(b:Nat->A->Prop)(e:len<=r8)
 (g:∀i a,i<len->decide ((i:Int)< (len:Int))=true->ov .i64 ((i:Int)+1)=((i+1:Nat):Int)->b i a->
  ∀again,(∀c,b (i+1) c->again (F (i+1) c)=G (i+1) c)->body (F i a) again ks=G i a)
 (d:∀a,decide ((len:Int)< (len:Int))=false->b len a->∀again,body (F len a) again ks=G len a)
 (a:A) (h0:b 0 a) (f:len<n):cq body n (F 0 a) ks=G 0 a:=by
 have key:∀(m i:Nat)(a:A),i<=len->b i a->len- i<m->cq body m (F i a) ks=G i a:=by
  intro m
  induction m with
  |zero=>omega
  |succ m h=>
   grind[cq,nu,r8]
 grind
end
end
end Go.Abs
namespace Go.Abs.R
open Go.Abs Go.Proofs.Tryz
open Go.Abs.N(IY H2 zQ vk yf BY C5 En Gt tN Hv yp tR xA)
section
local instance:Dr:= ⟨false⟩
theorem al4{n:Nat}{p:Pl}(hp:jg p)(x:Int):zQ n x p=some (cy x 0 ((p.1.length:Int)- 1)):=by
 have:=hp.v;grind[zQ,IY,SF,Ra]
theorem v80{n:Nat}{p:Pl}(hp:jg p)(x:Int):zF n p x=some (cy x 0 ((p.1.length:Int)- 1)):=by
 have:=hp.v;grind[zF,SF,EO]
def n4(p:Pl)(m:Int×Int):Bool:=cy m.1 0 ((p.1.length:Int)- 1)&&cy m.2 0 ((p.1.length:Int)- 1)
def aY(l:List Int)(a:Int):Int:=l[a.toNat]?.getD 0
def zu(p:Pl)(a:Int):Int:=(p.1[a.toNat]?.map (·.2)).getD 0
def mv(p:Pl)(s:St)(m:Int×Int):Int:=
 bif !n4 p m then 6 else bif !decide (m∈p.2)then 18 else bif aY s.1 m.1==0 then 12 else bif aY s.1 m.2==zu p m.2 then 16 else bif (aY s.2 m.2 !=0)&& (aY s.2 m.2 !=aY s.2 m.1)then 13 else 0
theorem oL{l:List Int}{a:Int}(h0:0<=a)(h1:a<l.length):aG l a=some (aY l a):=by
 grind[alo,aY]
theorem akv{p:Pl}{a:Int}(h0:0<=a)(h1:a<p.1.length):∃v,aG p.1 a=some v/\v.2=zu p a:=by
 simp_all[alo,zu]
theorem x7{p:Pl}{m:Int×Int}(h:n4 p m=true):(0<=m.1/\m.1<p.1.length)/\0<=m.2/\m.2<p.1.length:=by
 grind[n4,cy]
def n5(x:I6)(m X:Int):I6:=(bif decide (m=0)then X else x.1,bif decide (m=1)then X else x.2.1,bif decide (m=2)then X else x.2.2.1,bif decide (m=3)then X else x.2.2.2.1,bif decide (m=4)then X else x.2.2.2.2.1,bif decide (m=5)then X else x.2.2.2.2.2)
theorem ane{l:List Int}{i:Nat}(h:i<l.length)(h6:l.length<=6)(X:Int):n5 (i6 l) (i:Int) X=i6 (l.set i X):=by
 have:i=0\/i=1\/i=2\/i=3\/i=4\/i=5:=by omega
 rcases this with rfl|rfl|rfl|rfl|rfl|rfl<;>simp[n5,i6,h]
theorem anu{l:List Int}{a:Int}(h0:0<=a)(h:a<l.length)(h6:l.length<=6)(X:Int):n5 (i6 l) a X=i6 (l.set a.toNat X):=by
 grind[ane]
theorem aaO{l:List Int}{a:Int}(h0:0<=a)(h:a<6):aG (l6 (i6 l)) a=some (aY l a):=by
 have:=g6 l (i:=a.toNat) (by omega)
 rwa [Int.toNat_of_nonneg h0]at this
theorem ak8{a:Int}(h0:0<=a)(h:a<6):cQ a 6=some ():=by
 grind[cQ]
theorem akW:(vs:List Vs)->(cs b:List Int)->xr vs cs b=0->cs.length=vs.length->b.length=vs.length->(i:Nat)->i<vs.length->0<=cs[i]?.getD 0/\cs[i]?.getD 0<=(vs[i]?.map (·.2)).getD 0
 | [],_,_,_,_,_,i,d=>by simp at d
 |v::vs,c::cs,w::b,h,h1,h2,i,d=>by
  rw[Sr]at h;cases e:(qV v.2 c w==0)with
  |false=>rw[e,cond_false]at h;rw[h]at e;cases e
  |true=>
   rw[e,cond_true]at h;cases i with
   |succ i=>exact akW vs _ _ h (by grind) (by grind) i (by grind)
   |zero=>
    have a:qV v.2 c w=0:=by grind
    unfold qV at a;cases g:(cy c 0 v.2&&cy w 0 3)with
    |false=>rw[g]at a;cases a
    |true=>
     grind[cy]
theorem x4{p:Pl}{s:St}(h:j5 p s=0){a:Int}(h0:0<=a)(h1:a<p.1.length):0<=aY s.1 a/\aY s.1 a<=zu p a:=by
 have b:=F1 h;have k1:=b.c;have c:=b.w;unfold j5 at h;rw[decide_eq_true k1,decide_eq_true c]at h;exact akW _ _ _ h k1 c _ (by omega)
theorem alS:(l:List Vs)->(i:Nat)->(pre:List Vs)->(ix i pre l).2=0->(k:Nat)->k<l.length->1<=(l[k]?.map (·.2)).getD 0/\(l[k]?.map (·.2)).getD 0<=50
 | [],_,_,_,k,b=>by simp at b
 |v::l,i,pre,h,k,b=>by
  unfold ix at h;cases e:(wi pre v==0)with
  |false=>grind
  |true=>
   rw[e,cond_true]at h;cases k with
   |succ k=>exact alS l _ _ h k (by grind)
   |zero=>
    have a:wi pre v=0:=by grind
    unfold wi at a;cases g:cy v.2 1 50 with
    |false=>
     rw[g]at a;exfalso;revert a;cases rQ v.1<;>cases(pre.any λ x=>x.1==v.1)<;>decide
    |true=>
     grind[cy]
theorem alv(k:Int):(l:List (Int×Int))->(i:Nat)->(pre:List (Int×Int))->(iq k i pre l).2=0->∀h∈l,h.1≠h.2
 | [],_,_,_,_,c=>by trivial
 |v::l,i,pre,h,m,b=>by
  unfold iq at h;cases e:(sx k pre v==0)with
  |false=>rw[e,cond_false]at h;rw[show sx k pre v=0 from h]at e;cases e
  |true=>
   rw[e,cond_true]at h;rcases z8.1 b with rfl|b
   ·have a:sx k pre m=0:=by simpa using e
    unfold sx at a;rw[Tg]at a;intro g;rw[show(m.1 !=m.2)=false by simp[g]]at a;revert a;cases(cy m.1 0 (k- 1)&&cy m.2 0 (k- 1))<;>cases decide (m∈pre)<;>decide
   ·exact alv k l _ _ h m b
theorem aaE{p:Pl}(h:(mQ p).2=0):(∀a:Int,0<=a->a<p.1.length->1<=zu p a/\zu p a<=50)/\∀m∈p.2,m.1≠m.2:=by
 unfold mQ at h;cases h0:decide (p.1.length=0)with
 |true=>rw[h0]at h;exact absurd (show(10:Int)=0 from h) (by decide)
 |false=>
  cases d:decide (6<p.1.length)with
  |true=>grind
  |false=>
   rw[h0,d]at h;cases b:((ix 0 [] p.1).2==0)with
   |false=>rw[b]at h;simp only[cond_false]at h;simp[h]at b
   |true=>
    rw[b]at h;simp only[cond_true]at h;cases c:decide (30<p.2.length)with
    |true=>rw[c]at h;exact absurd (show(8:Int)=0 from h) (by decide)
    |false=>
     rw[c]at h;exact⟨λ a e f=>alS p.1 0 [] (by simpa using b) _ (by omega),alv _ _ 0 _ h⟩
def mq(s:St)(a b q:Int):St:=
 let l:=(s.1.set a.toNat (ov .i64 (aY s.1 a- q))).set b.toNat (ov .i64 (aY s.1 b+q))
 let w:=s.2.set b.toNat (aY s.2 a)
 (l,bif aY l a==0 then w.set a.toNat 0 else w)
def ap(p:Pl)(s:St)(m:Int×Int):St:=mq s m.1 m.2 (bu (aY s.1 m.1) (ov .i64 (zu p m.2- aY s.1 m.2)))
theorem alh{p:Pl}{s:St}(c:uv p s)(a b q:Int):uv p (mq s a b q):=by
 have k1:=c.c;have d:=c.w;refine⟨by simp[mq,k1],?_⟩;grind[mq]
theorem aow{p:Pl}{s:St}(a:uv p s)(m:Int×Int):uv p (ap p s m):=alh a _ _ _
theorem aiL{l:List Int}{a b:Int}(h0:0<=a)(h1:0<=b)(h:a≠b)(X:Int):aY (l.set a.toNat X) b=aY l b:=by
 grind[aY]
theorem ae4{l:List Int}{a:Int}(h0:0<=a)(h1:a<l.length)(X:Int):tD l a X=some (l.set a.toNat X):=by
 grind[anX]
theorem am3{p:Pl}{s:St}(c:uv p s)(h6:p.1.length<=6){a b:Int}(d:0<=a)(e:a<p.1.length)(f:0<=b)(g:b<p.1.length)(h:a≠b)(q:Int){R:Type}(K:I6×I6->Option R):
 ((
  aG (l6 (n5 (i6 s.1) a (ov .i64 (aY s.1 a- q)))) b).bind λ x=>(aG (l6 (n5 (n5 (i6 s.1) a (ov .i64 (aY s.1 a- q))) b (ov .i64 (x+q)))) a).bind λ y=>
  bif y==0 then K (n5 (n5 (i6 s.1) a (ov .i64 (aY s.1 a- q))) b (ov .i64 (x+q)),n5 (n5 (i6 s.2) b (aY s.2 a)) a 0)
  else K (n5 (n5 (i6 s.1) a (ov .i64 (aY s.1 a- q))) b (ov .i64 (x+q)),n5 (i6 s.2) b (aY s.2 a)))=K (nd (mq s a b q)):=by
 have k1:=c.c;have i:=c.w;grind[aiL,mq,nd,anu,aaO]
theorem akU{n:Nat}(k:1000<=n){p:Pl}(hp:jg p){s:St}(B:bh p s=0)(m:Int×Int):En n p (nd s) m=some (bif mv p s m==0 then nd (ap p s m)else(z6,z6),mv p s m):=by
 obtain⟨o,i⟩:=nY B;have f:=F1 i;have x:=(aaK o).2.1;have L:=hp.v;have K:=hp.h;have k1:=f.c;have M:=f.w;obtain⟨E,D⟩:=aaE o;unfold En;rw[show(λ F=>zQ n _ _) _=zQ n _ _ from rfl,show(λ F=>zQ n _ _) _=zQ n _ _ from rfl,al4 hp,al4 hp,o5,jv,o5,tP,o5,afi p.2 m (by omega) (by unfold r8;omega),o5,tP,o5,BO k,Jo,o5];cases h:n4 p m with
 |false=>
  have e:mv p s m=6:=by unfold mv;grind
  unfold n4 at h;have:(bif cy m.1 0 ((p.1.length:Int)- 1)then cy m.2 0 ((p.1.length:Int)- 1)else false)=false:=by
   grind
  rw[e,this,Bool.and_false];rfl
 |true=>
  obtain⟨⟨b,j⟩,a,c⟩:=x7 h;have d:=h;unfold n4 at d;rw[abh]at d;rw[d.1,d.2];cases z:decide (m∈p.2)with
  |false=>
   have e:mv p s m=18:=by grind[mv]
   rw[e];rfl
  |true=>
   have A:=D m (of_decide_eq_true z);obtain⟨v,v1,v2⟩:=akv (p:=p) a c;obtain⟨G,c2⟩:=x4 i b j;obtain⟨d1,d2⟩:=x4 i a c;obtain⟨N,O⟩:=E m.2 a c;have r:aG [(nd s).1.1,(nd s).1.2.1,(nd s).1.2.2.1,(nd s).1.2.2.2.1,(nd s).1.2.2.2.2.1,(nd s).1.2.2.2.2.2] m.1=some (aY s.1 m.1):=aaO (l:=s.1) b (by omega);have t:aG [(nd s).1.1,(nd s).1.2.1,(nd s).1.2.2.1,(nd s).1.2.2.2.1,(nd s).1.2.2.2.2.1,(nd s).1.2.2.2.2.2] m.2=some (aY s.1 m.2):=aaO (l:=s.1) a (by omega);have u:aG [(nd s).2.1,(nd s).2.2.1,(nd s).2.2.2.1,(nd s).2.2.2.2.1,(nd s).2.2.2.2.2.1,(nd s).2.2.2.2.2.2] m.1=some (aY s.2 m.1):=aaO (l:=s.2) b (by omega);have w:aG [(nd s).2.1,(nd s).2.2.1,(nd s).2.2.2.1,(nd s).2.2.2.2.1,(nd s).2.2.2.2.2.1,(nd s).2.2.2.2.2.2] m.2=some (aY s.2 m.2):=aaO (l:=s.2) a (by omega);have w1:ov .i64 (zu p m.2- aY s.1 m.2)=zu p m.2- aY s.1 m.2:=nu (by omega) (by omega);simp only[ia,cond_true,ak8 b (show m.1<6 by omega),ak8 a (show m.2<6 by omega),r,t,u,w,v1,v2,w1,o5,tP,jv,QD k,Tg];have e:mv p s m=bif aY s.1 m.1==0 then 12 else bif aY s.1 m.2==zu p m.2 then 16 else bif (aY s.2 m.2 !=0)&& (aY s.2 m.2 !=aY s.2 m.1)then 13 else 0:=by grind[mv]
   rw[e];cases H:(aY s.1 _==0)with
   |true=>
    have g:aY s.1 m.1=0:=by grind
    rw[g];rfl
   |false=>
    have g:¬aY s.1 m.1=0:=by grind
    rw[(decide_eq_true (by omega))];simp only[cond_false,cond_true,bne_self_eq_false];cases I:(aY _ _==zu p _)with
    |true=>
     have q:aY s.1 m.2=zu p m.2:=by grind
     rw[(decide_eq_false (by omega))];rfl
    |false=>
     have q:¬aY s.1 m.2=zu p m.2:=by grind
     rw[(decide_eq_true (by omega))];simp only[cond_false,cond_true,bne_self_eq_false];have C:((aY s.2 m.2==0)|| ((bif !(aY s.2 m.2==0)then aY s.2 m.2 else 0)==aY s.2 m.1))=!((aY s.2 m.2 !=0)&& (aY s.2 m.2 !=aY s.2 m.1)):=by
      grind
     rw[C];cases J:((aY _ _ !=0)&& (aY _ _ !=aY _ _))with
     |true=>rfl
     |false=>
      simp only[u6,cond_true,cond_false,bne_self_eq_false,beq_self_eq_true];have:=am3 f x b j a c A (bu (aY s.1 m.1) (zu p m.2- aY s.1 m.2)) λ y=>some (y,(0:Int));refine Xs this ?_;unfold ap;rw[w1]
end
section
local instance:Dr:= ⟨false⟩
def o8(p:Pl)(s:St)(i j:Nat):List (Int×Int):=bif mv p s ((i:Int),(j:Int))==0 then[((i:Int),(j:Int))]else[]
def u4(p:Pl)(s:St)(i:Nat):List (Int×Int):=(wS 0 p.1.length).flatMap (o8 p s i)
def fV(p:Pl)(s:St):List (Int×Int):=(wS 0 p.1.length).flatMap (u4 p s)
theorem akB{α β:Type}(f:α->List β)(c:Nat)(h:∀a,(f a).length<=c):(l:List α)->(l.flatMap f).length<=c*l.length
 | []=>by simp
 |a::l=>by
  have b:=h a;have d:=akB f c h l;grind[u7,List.length_cons,Nat.mul_succ]
theorem anv(p:Pl)(s:St)(i j:Nat):(o8 p s i j).length<=1:=by
 grind[o8,mv]
theorem ak4(p:Pl)(s:St)(i:Nat):(u4 p s i).length<=p.1.length:=by
 have:=akB (o8 p s i) 1 (anv p s i) (wS 0 p.1.length);rw[aac,Nat.one_mul]at this;trivial
theorem ami(p:Pl)(s:St):(fV p s).length<=p.1.length*p.1.length:=by
 have:=akB (u4 p s) p.1.length (ak4 p s) (wS 0 p.1.length)
 rwa [aac]at this
theorem adp{i k:Nat}(h:i<k):wS i (k- i)=i::wS (i+1) (k- (i+1)):=by
 rw[show k- i=(k- (i+1))+1 by omega,List.range'_succ]
abbrev MvN:=(Int×Int)×(I6×I6)
def QT(p:Pl)(s:St)(m:Int×Int):MvN:=(m,nd (ap p s m))
theorem anB{n:Nat}(g:1000<=n){p:Pl}(hp:jg p){s:St}(h:bh p s=0)(i:Nat)(K)(l:i<6):
 cq (xA n) n (p,nd s,(i:Int),(p.1.length:Int),(i:Int),(p.1.length:Int),(0:Int),()) (K,λ _=>some [],())=(K (p,nd s,(p.1.length:Int),(i:Int),())).bind λ r=>some ((u4 p s i).map (QT p s)++r):=by
 have m:=hp.v;have:=adL (n:=n) (body:=xA n) (ks:=(K,λ _=>some [],())) p.1.length (λ j(_:Unit)=>(p,nd s,(i:Int),(p.1.length:Int),(i:Int),(p.1.length:Int),(j:Int),()))
  (λ j _=>(K (p,nd s,(p.1.length:Int),(i:Int),())).bind λ r=>some (((wS j (p.1.length- j)).flatMap (o8 p s i)).map (QT p s)++r))
  (λ _ _=>True) (by unfold r8;omega) (λ j a b c d f again k=>?_) (λ a b f again=>?_) () trivial (by omega)
 ·trivial
 ·simp only[xA,c,cond_true,d];rw[akU g hp h,o5,adp b,EX,k () trivial];unfold o8;cases e:(mv p s _==0)with
  |true=>
   cases K (p,nd s,(p.1.length:Int),(i:Int),())<;>rfl
  |false=>
   rfl
 simp_all[xA,b,cond_false,Nat.sub_self,nd]
theorem amG{n:Nat}(f:1000<=n){p:Pl}(hp:jg p){s:St}(b:bh p s=0):Gt n p (nd s)=some ((fV p s).map (QT p s)):=by
 have h:=hp.v;have g:=(aaK (nY b).1).2.1;unfold Gt;have:=adL (n:=n) (body:=tR n) (ks:=(λ _=>some [],λ _=>some [],())) p.1.length (λ i(_:Unit)=>(p,nd s,(p.1.length:Int),(i:Int),())) (λ i _=>some (((wS i (p.1.length- i)).flatMap (u4 p s)).map (QT p s)))
  (λ _ _=>True) (by unfold r8;omega) (λ i a h1 c d e again j=>?_) (λ a h1 e again=>?_) () trivial (by omega)
 ·trivial
 ·simp only[tR,c,cond_true];rw[anB f hp b i _ (by omega)];simp_all[d,trivial,o5,adp,h1,EX,List.map_append]
 grind[tR,h1]
theorem v38{n:Nat}(a:List (Int×Int))(h:a.length<n)(b:a.length<=r8):RH n a a=some true:=by
 unfold RH;rw[bne_self_eq_false,cond_false];refine iy a (λ i=>(a,a,(i:Int),())) (λ _ _=>some _) b ?_ ?_ h
 all_goals grind[Sk,wH,o7]
theorem v82{n:Nat}(a:List Int)(h:a.length<n)(b:a.length<=r8):zL n a a=some true:=by
 unfold zL;rw[bne_self_eq_false,cond_false];refine iy a (λ i=>(a,a,(i:Int),())) (λ _ _=>some _) b ?_ ?_ h
 all_goals grind[Pu,bne_self_eq_false]
theorem v41{n:Nat}(a:1000<=n)(s:St)(h1:s.1.length<=900)(h2:s.2.length<=900):Mn n s s=some true:=by
 unfold Mn;rw[v82 _ (by omega) (by unfold r8;omega),o5,v82 _ (by omega) (by unfold r8;omega)];rfl
end
section
local instance:Dr:= ⟨false⟩
theorem ann(z c w:Int):qV z c w=0↔(0<=c/\c<=z/\0<=w/\w<=3/\(c=0↔w=0)):=by
 unfold qV;rw[Jo];by_cases a:0<=c/\c<=z/\0<=w/\w<=3
 ·rw[show(cy c 0 z&&cy w 0 3)=true by simp[cy];omega];by_cases b:(c=0↔w=0)
  ·rw[show((c==0)==(w==0))=true by grind];exact⟨by omega,λ _=>rfl⟩
  ·rw[show((c==0)==(w==0))=false by grind];exact⟨λ h=>absurd h (by decide),by omega⟩
 ·rw[show(cy c 0 z&&cy w 0 3)=false by
   grind[cy]]
  exact⟨λ h=>absurd h (by cases((c==0)==(w==0))<;>decide),by omega⟩
theorem akC:(vs:List Vs)->(cs a:List Int)->cs.length=vs.length->a.length=vs.length->(xr vs cs a=0↔∀i,i<vs.length->qV ((vs[i]?.map (·.2)).getD 0) (cs[i]?.getD 0) (a[i]?.getD 0)=0)
 | [],_,_,_,_=> ⟨λ _ i b=>by trivial,λ _=>by rfl⟩
 |v::vs,c::cs,w::a,h1,h2=>by
  have d:=akC vs cs a (by grind) (by grind);rw[Sr];cases e:(qV _ c w==0)with
  |true=>
   rw[cond_true,d];constructor
   ·grind
   ·intro h i b;exact h (i+1) (by grind)
  |false=>
   rw[cond_false];constructor
   ·grind
   ·intro h;exact h 0 (by simp)
theorem al8(p:Pl)(s:St):j5 p s=0↔uv p s/\∀a:Int,0<=a->a<p.1.length->qV (zu p a) (aY s.1 a) (aY s.2 a)=0:=by
 constructor
 ·intro h;have b:=F1 h;refine⟨b,λ a h0 c=>?_⟩;unfold j5 at h;rw[decide_eq_true b.c,decide_eq_true b.w]at h;exact(akC _ _ _ b.c b.w).1 h _ (by omega)
 ·intro⟨b,h⟩;unfold j5;rw[decide_eq_true b.c,decide_eq_true b.w];exact(akC _ _ _ b.c b.w).2 λ i d=>h i (by omega) (by omega)
theorem al2{l:List Int}{a:Int}(h0:0<=a)(h:a<l.length)(X:Int):aY (l.set a.toNat X) a=X:=by
 grind[aY]
theorem akA{p:Pl}{s:St}(n:bh p s=0){m:Int×Int}(h:mv p s m=0):
 n4 p m=true/\m.1≠m.2/\0<aY s.1 m.1/\aY s.1 m.2<zu p m.2/\(aY s.2 m.2=0\/aY s.2 m.2=aY s.2 m.1):=by
 obtain⟨o,g⟩:=nY n;unfold mv at h;cases a:n4 p m with
 |false=>rw[a]at h;cases h
 |true=>
  obtain⟨⟨i,j⟩,k,l⟩:=x7 a;obtain⟨q,c2⟩:=x4 g i j;obtain⟨d1,d2⟩:=x4 g k l;cases d:decide (m∈p.2)with
  |false=>rw[a,d]at h;cases h
  |true=>
   rw[a,d]at h;simp only[o7,cond_false]at h;cases b:(aY s.1 m.1==0)with
   |true=>rw[b]at h;cases h
   |false=>
    rw[b,cond_false]at h;cases c:(aY s.1 m.2==zu p m.2)with
    |true=>rw[c]at h;cases h
    |false=>
     rw[c,cond_false]at h;simp at b c;refine⟨rfl,(aaE o).2 m (of_decide_eq_true d),by omega,by omega,?_⟩;by_cases e:aY s.2 m.2=0
     ·exact .inl e
     ·by_cases f:aY s.2 m.2=aY s.2 m.1
      ·exact .inr f
      ·rw[show((aY s.2 m.2 !=0)&& (aY s.2 m.2 !=aY s.2 m.1))=true by simp[e,f]]at h;cases h
structure akl(p:Pl)(s t:St)(a b q:Int):Prop where
 o:0<=a
 j:a<p.1.length
 e:0<=b
 g:b<p.1.length
 d:a≠b
 n:1<=q
 r:q<=aY s.1 a
 m:q<=zu p b- aY s.1 b
 w:aY s.2 b=0\/aY s.2 b=aY s.2 a
 l:uv p t
 h:aY t.1 a=aY s.1 a- q
 f:aY t.1 b=aY s.1 b+q
 c:aY t.2 a=bif aY s.1 a==q then 0 else aY s.2 a
 k:aY t.2 b=aY s.2 a
 i:∀x:Int,0<=x->x≠a->x≠b->aY t.1 x=aY s.1 x/\aY t.2 x=aY s.2 x
theorem anm{p:Pl}{s:St}(k:bh p s=0){a b q:Int}(c:0<=a)(d:a<p.1.length)(f:0<=b)(g:b<p.1.length)(ne:a≠b)(l:1<=q)(m:q<=aY s.1 a)(n:q<=zu p b- aY s.1 b)
 (w:aY s.2 b=0\/aY s.2 b=aY s.2 a):akl p s (mq s a b q) a b q:=by
 obtain⟨j,p2⟩:=nY k;have h:=F1 p2;have k1:=h.c;have r:=h.w;obtain⟨o,c2⟩:=x4 p2 c d;obtain⟨d1,d2⟩:=x4 p2 f g;obtain⟨v,x⟩:=(aaE j).1 b f g;obtain⟨t,u⟩:=(aaE j).1 a c d;have w2:ov .i64 (aY s.1 a- q)=aY s.1 a- q:=nu (by omega) (by omega);have w3:ov .i64 (aY s.1 b+q)=aY s.1 b+q:=nu (by omega) (by omega);have i:=alh h a b q;have e:mq s a b q=((s.1.set a.toNat (aY s.1 a- q)).set b.toNat (aY s.1 b+q),bif aY s.1 a==q then(s.2.set b.toNat (aY s.2 a)).set a.toNat 0 else s.2.set b.toNat (aY s.2 a)):=by
  grind[mq,aiL,al2]
 rw[e]at i⊢;refine⟨c,d,f,g,ne,l,m,n,w,i,?_,?_,?_,?_,?_⟩
 all_goals grind[al2,aY,aiL,trans,h0]
theorem aop{p:Pl}{s:St}(c:bh p s=0){m:Int×Int}(h:mv p s m=0):∃q,akl p s (ap p s m) m.1 m.2 q:=by
 obtain⟨j,k⟩:=nY c;obtain⟨g,f,m1,m2,i⟩:=akA c h;obtain⟨⟨d,e⟩,a,b⟩:=x7 g;obtain⟨d1,d2⟩:=x4 k a b;obtain⟨l,n⟩:=(aaE j).1 m.2 a b;refine⟨_,anm c d e a b f ?_ ?_ ?_ i⟩<;>rw[nu (by omega) (by omega)]<;>unfold bu<;>split<;>omega
theorem amM{p:Pl}{s t:St}{a b q:Int}(c:bh p s=0)(M:akl p s t a b q):bh p t=0:=by
 obtain⟨o,d⟩:=nY c;obtain⟨l,k⟩:=(al8 p s).1 d;obtain⟨e,f,g,h,ne,r,u,v,n,m,e1,e2,i,j,e5⟩:=M;grind[bh,al8,h0,h1,ann,e1,e2,e5]
theorem aaY{p:Pl}{s:St}(a:bh p s=0){m:Int×Int}(h:mv p s m=0):bh p (ap p s m)=0:=by
 grind[aop,amM]
def rn(p:Pl):Nat->St->List (Int×Int)->St×Int×Int
 |_,s,[]=>(s,0,0)
 |i,s,m::r=>bif mv p s m==0 then rn p (i+1) (ap p s m) r else(([],[]),(i:Int),mv p s m)
def b7(p:Pl)(s:St)(l:List (Int×Int)):St×Int×Int:=bif decide (500<l.length)then(([],[]),0,8)else rn p 0 s l
theorem K3(p:Pl)(i:Nat)(s:St)(m:Int×Int)(r:List (Int×Int)):rn p i s (m::r)=bif mv p s m==0 then rn p (i+1) (ap p s m) r else(([],[]),(i:Int),mv p s m):=rfl
theorem alI{p:Pl}:(r:List (Int×Int))->(i:Nat)->(s:St)->bh p s=0->(rn p i s r).2.2=0->bh p (rn p i s r).1=0
 | [],_,_,h,_=>h
 |m::r,i,s,h,g=>by
  rw[K3]at g⊢;cases e:(mv p s m==0)with
  |true=>
   rw[e,cond_true]at g;exact alI r _ _ (aaY h (by grind)) g
  |false=>
   grind
def ndE(x:St×Int×Int):(I6×I6)×Int×Int:=bif x.2.2==0 then(nd x.1,0,0)else((z6,z6),x.2)
theorem alw(p:Pl):(r:List (Int×Int))->(i:Nat)->(s:St)->((rn p i s r).2.2==0)=false->(rn p i s r).1=([],[])
 | [],_,_,h=>by cases h
 |m::r,i,s,h=>by
  rw[K3]at h⊢;cases e:(mv p s m==0)with
  |true=>
   rw[e,cond_true]at h;exact alw p r _ _ h
  |false=>rfl
theorem alT(p:Pl):(r:List (Int×Int))->(i:Nat)->(s:St)->((rn p i s r).2.2==0)=true->(rn p i s r).2=(0,0)
 | [],_,_,h=>rfl
 |m::r,i,s,h=>by
  rw[K3]at h⊢;cases e:(mv p s m==0)with
  |true=>
   rw[e,cond_true]at h;exact alT p r _ _ h
  |false=>
   grind
theorem aoy{p:Pl}{s:St}{l:List (Int×Int)}(h:((b7 p s l).2.2==0)=false):(b7 p s l).1=([],[]):=by
 grind[b7,alw]
theorem aor{p:Pl}{s:St}{l:List (Int×Int)}(h:((b7 p s l).2.2==0)=true):(b7 p s l).2=(0,0):=by
 grind[b7,alT]
theorem akO{p:Pl}{s:St}{l:List (Int×Int)}(a:bh p s=0)(h:((b7 p s l).2.2==0)=true):bh p (b7 p s l).1=0:=by
 grind[b7,alI]
end
section
local instance:Dr:= ⟨false⟩
abbrev ND:=I6×I6
abbrev Rm:=List (ND×Int×ND×Int×Int)
abbrev FD:=ND×Int×ND×Int×Int
instance aox:DecidableEq ND:=instDecidableEqProd
theorem alQ{a b:List Int}(h:i6 a=i6 b)(c:a.length=b.length)(h6:a.length<=6):a=b:=by
 grind[l6,anA,List.append_inj]
theorem amr{p:Pl}(h6:p.1.length<=6){a b:St}(c:uv p a)(d:uv p b)(h:nd a=nd b):a=b:=by
 have:=c.c;have:=c.w;have:=d.c;have:=d.w;exact Prod.ext (alQ (congrArg Prod.fst h) (by omega) (by omega)) (alQ (congrArg Prod.snd h) (by omega) (by omega))
abbrev mg(r:Rm)(z:ND):=j4 (Ty.f cN) r z
abbrev mp(r:Rm)(z:ND)(v:Int×ND×Int×Int):Rm:=lz (Ty.f cN) r z v
theorem aaV(a b:ND):Ty.f cN a b=decide (a=b):=by
 grind[Ty.f]
theorem pX(e z:ND)(v):∀r:Rm,mg (mp r e v) z=if z=e then some v else mg r z
 | []=>by grind[lz,j4,aaV]
 |x::r=>by
  have a:=pX e z v r
  grind[lz,j4,aaV,h2]
theorem ZE(e:ND)(v):∀r:Rm,mg r e=none->(mp r e v).length=r.length+1
 | [],_=>rfl
 |x::r,h=>by
  have a:=ZE e v r
  grind[lz,j4,aaV,h2]
theorem amn{p:Pl}{s:St}{m:Int×Int}(h:mv p s m=0):n4 p m=true:=by
 grind[mv]
theorem aiT{p:Pl}{s:St}{m:Int×Int}:m∈fV p s↔mv p s m=0:=by
 unfold fV u4 o8;simp only[K2,List.mem_range'_1];constructor
 ·grind
 ·intro h;obtain⟨⟨a,b⟩,c,d⟩:=x7 (amn h);refine⟨m.1.toNat,by omega,m.2.toNat,by omega,?_⟩;grind
def mZ:List FD->Rm->List ND->Option (Rm×List ND)
 | [],r,l=>some (r,l)
 |f::fs,r,l=>bif (mg r f.1).isSome then mZ fs r l else bif decide (4000< (mp r f.1 f.2).length)then none else mZ fs (mp r f.1 f.2) (l++ [f.1])
theorem amB{n:Nat}(p:Pl)(L:List (List ND))(x:List FD)(r:Rm)(d:x.length<n)(m:x.length<=1000000)(k0 k1):
 cq (Te n) n ((fH x:Int),0,p.1,p.2,r,L,([]:List ND),x,()) (k0,k1,())=(match mZ x r [] with|some (r',l')=>k0 (p.1,p.2,r',L,l',())|none=>k1 (none,false,())):=by
 refine abv (n:=n) x (λ i A=>((fH x:Int),(i:Int),p.1,p.2,A.1,L,A.2,x,())) (λ i A y=>match mZ y A.1 A.2 with|some (r',l')=>k0 (p.1,p.2,r',L,l',())|none=>k1 _) (λ i A=>A.2.length<=i) (by unfold r8;omega) ?_ ?_ (r,[]) (by simp) d
 ·intro i A f y e g j a b c l again o
  simp only[Te,b,cond_true,a,o5,mZ,c]
  cases h:(mg _ _).isSome with
  |true=>grind
  |false=>
   simp only[cond_false]
   rw[show(decide (((fH (lz (Ty.f cN) A.1 f.1 f.2)):Int)>4000))=decide (4000< (mp A.1 f.1 f.2).length) from by grind]
   cases k:decide (4000< (mp _ _ _).length) with
   |true=>rfl
   |false=>
    simp only[cond_false];rw[zG (by grind),o5];simp_all
 grind[Te,mZ]
structure Ins(fs:List FD)(r:Rm)(l:List ND)(r':Rm)(l':List ND):Prop where
 b:r'.length<=4000/\r.length+l'.length=r'.length+l.length
 a:∀z v,mg r z=some v->mg r' z=some v
 e:∀z∈l',z∈l\/mg r z=none/\∃v,(z,v)∈fs/\mg r' z=some v
 g:∀f∈fs,mg r' f.1≠none
 c:∀z v,mg r' z=some v->mg r z=some v\/z∈l'
 d:∀z∈l,z∈l'
theorem G5:∀(fs:List FD)(r:Rm)(l:List ND){r' l'},r.length<=4000->mZ fs r l=some (r',l')->Ins fs r l r' l'
 | [],r,l,r',l',n,h=>by
  cases h;exact⟨⟨n,rfl⟩,λ _ _ h=>h,λ _ h=>.inl h,by simp,λ _ _ h=>.inl h,λ _ h=>h⟩
 |f::fs,r,l,r',l',n,h=>by
  unfold mZ at h
  cases k:(mg r f.1).isSome with
  |true=>
   rw[k]at h;have I:=G5 fs r l n h;obtain⟨v,t⟩:=K8.1 k
   exact⟨I.b,I.a,λ z i=>(I.e z i).imp id λ⟨a,v,b,c⟩=> ⟨a,v,.tail _ b,c⟩,λ g j=>by
    rcases z8.1 j with rfl|j
    ·rw[I.a _ _ t];simp
    ·exact I.g g j,I.c,I.d⟩
  |false=>
   rw[k,cond_false]at h
   have m:mg r f.1=none:=by simp_all
   cases q:decide (4000< (mp r f.1 f.2).length) with
   |true=>grind
   |false=>
    rw[q,cond_false]at h;have u:=ZE f.1 f.2 r m
    have I:=G5 fs _ _ (by grind) h
    have o:mg r' f.1=some f.2:=I.a _ _ (by rw[pX];simp)
    refine⟨⟨I.b.1,by have:=I.b.2;simp at this;omega⟩,λ z v i=>I.a z v (by rw[pX,if_neg];exact i;rintro rfl;rw[m]at i;cases i),λ z i=>?_,λ g j=>?_,λ z v i=>?_,λ z i=>I.d z (by simp[i])⟩
    ·rcases I.e z i with d|⟨d,v,p,s⟩
     ·rcases C8.1 d with d|d
      ·exact .inl d
      ·obtain rfl:=zY.1 d;exact .inr ⟨m,f.2,.head _,o⟩
     ·rw[pX]at d;split at d
      ·cases d
      ·exact .inr ⟨d,v,.tail _ p,s⟩
    ·rcases z8.1 j with rfl|j
     ·rw[o];simp
     ·exact I.g g j
    ·rcases I.c z v i with d|d
     ·rw[pX]at d;split at d
      ·rename_i e;subst e;exact .inr (I.d _ (by simp))
      ·exact .inl d
     ·exact .inr d
end
section
local instance:Dr:= ⟨false⟩
abbrev fnd(p:Pl)(k:Int)(x:St)(m:Int×Int):FD:=(nd (ap p x m),k,nd x,m.1,m.2)
theorem ssM{p:Pl}(hp:jg p){x:St}(a:bh p x=0)(k:Int):N.SS 1000001 p k (nd x)=(fV p x).map (fnd p k x):=by
 unfold N.SS;rw[show tN _ p _=(Gt _ p _).bind some from rfl,amG (by omega) hp a];simp;intros;rfl
abbrev za(p:Pl)(k:Int)(l:List ND):List FD:=Rs.yV (l.flatMap (N.SS 1000001 p k))
theorem alC{n:Nat}{p:Pl}(h:(mQ p).2=0)(l:List ND)(k:Int)(h0:l≠[])(d:l.length<=4000):OZ n p l k=some (za p k l)/\(za p k l).length<=144000:=by
 have c:=aaK h;have b:=(aaE h).2;constructor
 ·exact if_pos (by grind)
 ·rw[<-(Rs.OE _).length_eq];have:=akB (N.SS 1000001 p k) 36 (λ a=>N.NA (by omega) (by omega) (by omega) b k a) l;omega
theorem ahx{p:Pl}{k:Int}{l:List ND}{f:FD}:f∈za p k l↔∃z∈l,f∈N.SS 1000001 p k z:=by
 grind[Rs.OE]
def Rc(p:Pl)(s:St):Nat->St->Prop
 | 0,x=>x=s
 |i+1,x=>∃y m,Rc p s i y/\mv p y m=0/\ap p y m=x
structure l8(p:Pl)(s:St)(r:Rm)(L:List (List ND))(last:List ND):Prop where
 a:∀i c z,L[i]?=some c->z∈c->∃x,Rc p s i x/\bh p x=0/\nd x=z/\∃v,mg r z=some v/\v.1=(i:Int)
 d:∀z v,mg r z=some v->∃(i:Nat)(c:List ND),L[i]?=some c/\z∈c
 f:∀i c x m,L[i]?=some c->nd x∈c->bh p x=0->mv p x m=0->i+1<L.length\/last= []->∃v,mg r (nd (ap p x m))=some v/\v.1<=(i:Int)+1
 h:last≠[]->∃e,L=e++ [last]
 b:L.length<=r.length/\r.length<=4000/\last.length<=r.length
 j:∃v,mg r (nd s)=some v/\v.1=0
 g:∀c∈L,c.length<=4000
theorem l8.k{p:Pl}(hp:jg p){s:St}{r r':Rm}{L:List (List ND)}{last l':List ND}(I:l8 p s r L last)(h0:last≠[])(h:mZ (za p L.length last) r []=some (r',l')):
 l8 p s r' (bif l'.isEmpty then L else L++ [l']) l':=by
 have J:=G5 _ _ _ I.b.2.1 h
 obtain⟨d,rfl⟩:=I.h h0
 have u:(d++ [last])[d.length]?=some last:=by simp
 have new:∀z∈l',∃y m,Rc p s d.length y/\bh p y=0/\mv p y m=0/\z=nd (ap p y m)/\∃v,mg r' z=some v/\v.1=((d.length+1:Nat):Int):=λ z o=>by
  rcases J.e z o with e|⟨e,v,f,t⟩
  ·trivial
  ·obtain⟨w,K,h5⟩:=ahx.1 f;obtain⟨x,g,j,rfl,_⟩:=I.a _ _ _ u K
   grind[ssM,h5,aiT]
 have old:∀i c,(d++ [last])[i]?=some c->(bif l'.isEmpty then d++ [last] else(d++ [last])++ [l'])[i]?=some c:=λ i c k=>by
  cases l'.isEmpty
  ·rw[cond_false,z7 (u9.1 k).1];omega
  trivial
 have B:∀i c,(bif l'.isEmpty then d++ [last] else(d++ [last])++ [l'])[i]?=some c->(d++ [last])[i]?=some c\/i=d.length+1/\c=l'/\l'≠[]:=λ i c k=>by
  grind
 have P:∀z v,mg r' z=some v->v.1<=((d.length+1:Nat):Int):=λ z v n=>by
  rcases J.c z v n with e|e
  ·obtain⟨i,c,f,t⟩:=I.d z v e;obtain⟨_,_,_,_,v2,h5,M⟩:=I.a _ _ _ f t
   grind
  grind
 refine⟨λ i c z k o=>?_,λ z v n=>?_,λ i c x m k A H G F=>?_,λ F=>?_,?_,?_,?_⟩
 ·rcases B i c k with e|⟨rfl,rfl,e⟩
  ·obtain⟨x,g,j,l,v,q,C⟩:=I.a _ _ _ e o;exact⟨x,g,j,l,v,J.a _ _ q,C⟩
  ·obtain⟨y,m,g,j,l,rfl,q⟩:=new z o;exact⟨_,⟨y,m,g,l,rfl⟩,aaY j l,rfl,q⟩
 ·rcases J.c z v n with e|e
  ·obtain⟨i,c,f,t⟩:=I.d z v e;grind
  ·refine⟨d.length+1,_,?_,e⟩;grind
 ·rcases B i c k with e|⟨rfl,rfl,e⟩
  ·have O:=(u9.1 e).1
   rcases Nat.lt_or_ge (i+1) (d++ [last]).length with f|f
   ·obtain⟨v,g,j⟩:=I.f i c x m e A H G (.inl f);exact⟨v,J.a _ _ g,j⟩
   ·have E:i=d.length:=by grind
    subst E;rw[u]at e;cases e
    have D:fnd p ((d++ [last]).length:Int) x m∈za p ((d++ [last]).length:Int) last:=ahx.2 ⟨_,A,by grind[ssM,aiT]⟩
    obtain⟨v,n⟩:=Option.ne_none_iff_exists'.1 (J.g _ D);grind
  grind
 ·grind
 ·have a:=J.b;have b:=I.b;grind[K6,y8,u7,x8]
 ·obtain⟨v,a,b⟩:=I.j;exact⟨v,J.a _ _ a,b⟩
 ·have a:=J.b;simp only[K6,acX]at a;intro c N;have:c∈d++ [last]\/c=l':=by
   grind
  rcases this with h|rfl
  ·exact I.g c h
  ·omega
theorem ai4{n:Nat}(g:200000<=n){p:Pl}(hp:jg p)(d:(mQ p).2=0){s:St}(k0 k1):∀(m:Nat)(r:Rm)(L:List (List ND))(last:List ND),l8 p s r L last->2*(4001-r.length)+(bif last.isEmpty then 0 else 1)<m->
 cq (Ta n) m (last,p.1,p.2,r,L,()) (k0,k1,())=k1 (none,false,())\/∃r' a,l8 p s r' a []/\cq (Ta n) m (last,p.1,p.2,r,L,()) (k0,k1,())=k0 (r',a,())
 |0,r,L,last,I,h=>by omega
 |m+1,r,L,last,I,h=>by
  rw[cq];cases e:last.isEmpty with
  |true=>
   obtain rfl:last= []:=by grind
   exact .inr ⟨r,L,I,rfl⟩
  |false=>
   have c:last≠[]:=by grind
   have f:=I.b;obtain⟨i,l⟩:=alC (n:=n) d last (L.length:Int) c (by omega)
   simp only[Ta];rw[show(decide ((fH last:Int)>0))=true from by
    grind[y8]]
   simp only[cond_true];rw[i,o5,amB p L _ r (by omega) (by omega)]
   cases b:mZ _ r _ with
   |none=>simp
   |some y=>
    obtain⟨r',l'⟩:=y;have J:=I.k hp c b;have K:=(G5 _ _ _ f.2.1 b).b;simp only[K6,acX]at K
    have j:=J.b
    have k:=ai4 g hp d k0 k1 m r' _ l' J (by
     grind[e2,y8])
    grind[e2,h0,y8,decide,fH,zG]
theorem ak2{n:Nat}(o:200000<=n){p:Pl}(hp:jg p){s:St}(hs:bh p s=0):Qs n p (nd s)=some (none,false)\/∃r L,l8 p s r L []/\Qs n p (nd s)=some (some (r,L),true):=by
 unfold Qs;rw[show aG ([[nd s]]) 0=some _ from rfl];simp only[o5]
 have I:l8 p s (mp [] (nd s) (0,((0,0,0,0,0,0),0,0,0,0,0,0),0,0)) [[nd s]] [nd s]:={
  a:=λ i c z k q=>by
   match i,k with
   |0,k=>
    cases k;obtain rfl:=zY.1 q
    exact⟨s,rfl,hs,rfl,_,by rw[pX,if_pos rfl],rfl⟩
   |i+1,k=>trivial
  d:=λ z v l=>by
   rw[pX]at l;split at l
   ·rename_i e;subst e;exact⟨0,_,rfl,by simp⟩
   trivial
  f:=λ i c x m k _ _ _ h=>by
   grind
  h:=λ _=> ⟨[],rfl⟩
  b:=by rw[ZE _ _ _ rfl];simp
  j:= ⟨_,by rw[pX,if_pos rfl],rfl⟩
  g:=by simp}
 rcases ai4 o hp (nY hs).1 (λ(t,u,_)=>some ((some (t,u)),true)) (λ(w,y,_)=>some (w,y)) n _ _ _ I (by grind) with h|⟨r,L,h1,h2⟩
 all_goals grind
theorem l8.e{p:Pl}{s:St}(n:bh p s=0){r:Rm}{L:List (List ND)}(I:l8 p s r L []):∀{j:Nat}{x:St},Rc p s j x->bh p x=0/\∃(i:Nat)(c:List ND),L[i]?=some c/\nd x∈c/\i<=j
 | 0,x,h=>by
  cases h;obtain⟨v,a,b⟩:=I.j;obtain⟨i,c,f,d⟩:=I.d _ _ a;obtain⟨_,_,_,_,w,g,k⟩:=I.a _ _ _ f d;grind
 |j+1,x,⟨y,m,f,d,e⟩=>by
  subst e;obtain⟨g,i,c,k,l,q⟩:=I.e n f;refine⟨aaY g d,?_⟩;obtain⟨v,a,b⟩:=I.f i c y m k l g d (.inr rfl)
  obtain⟨t,c2,k1,o⟩:=I.d _ _ a;obtain⟨_,_,_,_,w,u,z⟩:=I.a _ _ _ k1 o;grind
def fi(g:ND->Bool):Nat->List ND->Int
 |_, []=> -1
 |i,x::r=>bif g x then(i:Int)else fi g (i+1) r
theorem afk(g:ND->Bool):∀(l:List ND)(i:Nat),(match l.find? g with|none=>fi g i l= -1|some z=>∃j:Nat,fi g i l=((i+j:Nat):Int)/\l[j]?=some z)
 | [],_=>rfl
 |x::r,i=>by
  have c:=afk g r (i+1);simp only[fi,abJ];cases h:g x with
  |true=>grind
  |false=>
   simp only[cond_false];cases e:r.find? g with
   |none=>grind
   |some z=>
    rw[e]at c;obtain⟨j,a,b⟩:=c;exact⟨j+1,by omega,by trivial⟩
theorem alf{n:Nat}(c:200000<=n)(s:List ND)(f:ND->Option Bool)(g:ND->Bool)(b:s.length<=4000)(a:∀e∈s,f e=some (g e)):Pg n s f=some (fi g 0 s):=by
 refine iy s (λ i=>(s,f,(fH s:Int),(i:Int),())) (λ i r=>some _) (by unfold r8;omega) ?_ ?_ (by omega)
 all_goals grind[N8,y7,fi]
def fn(g:ND->Bool):List (List ND)->Option ND
 | []=>none
 |c::r=>(c.find? g).or (fn g r)
theorem ahc{g:ND->Bool}:∀{L:List (List ND)},fn g L=none->∀c∈L,∀w∈c,g w=false
 | [],_=>by simp
 |c::r,h=>by
  unfold fn at h;rw[Option.or_eq_none_iff]at h;intro d a;rcases z8.1 a with rfl|a
  ·grind
  ·exact ahc h.2 d a
theorem ai3{g:ND->Bool}{z:ND}:∀{L:List (List ND)},fn g L=some z->∃(i:Nat)(c:List ND),L[i]?=some c/\z∈c/\g z=true/\∀(j:Nat)(d:List ND)(w:ND),L[j]?=some d->w∈d->g w=true->i<=j
 | [],h=>by cases h
 |c::r,h=>by
  unfold fn at h;cases e:c.find? g with
  |some y=>
   rw[e]at h;cases h;exact⟨0,c,rfl,List.mem_of_find?_eq_some e,List.find?_some e,by omega⟩
  |none=>
   rw[e]at h;obtain⟨i,d,f,l,m,n⟩:=ai3 (L:=r) h;refine⟨i+1,d,f,l,m,λ j k w a b o=>?_⟩
   match j,a with
   |0,a=>cases a;have:=List.find?_eq_none.1 e w b;simp_all
   |j+1,a=>exact Nat.succ_le_succ (n j k w a b o)
abbrev gm(n:Nat)(p:Pl)(t:Tk)(z:ND):Bool:=(ud n (some (GC p t)) z).getD false
theorem QP{n:Nat}(b:1000<=n){p:Pl}(hp:jg p){t:Tk}(c:uv p t.2){x:St}(a:bh p x=0):ud n (some (GC p t)) (nd x)=some (xN t x):=
 v92 b hp (aaK (nY a).1).2.1 c (F1 (nY a).2) _
theorem amc{n:Nat}(o:200000<=n){p:Pl}(hp:jg p){t:Tk}(q:uv p t.2){s:St}{r:Rm}{L:List (List ND)}(I:l8 p s r L []) (k0 k1):
 cq (T6 n) n (some (GC p t),some (r,L),L,(fH L:Int),0,0,0,0,0,0,0,0,0,0,0,0,0,()) (k0,k1,())=(match fn (gm n p t) L with
  |some z=>k1 (some (r,L),0,z.1.1,z.1.2.1,z.1.2.2.1,z.1.2.2.2.1,z.1.2.2.2.2.1,z.1.2.2.2.2.2,z.2.1,z.2.2.1,z.2.2.2.1,z.2.2.2.2.1,z.2.2.2.2.2.1,z.2.2.2.2.2.2,())
  |none=>k0 (0,0,0,0,0,0,0,0,0,0,0,0,())):=by
 have B:=I.b
 refine iy (n:=n) (body:=T6 n) (ks:=(k0,k1,())) L (λ i=>(some _,some _,L,(fH L),i,0,0,0,0,0,0,0,0,0,0,0,0,())) (λ i y=>match fn _ y with
  |some z=>k1 (some _,0,z.1.1,z.1.2.1,z.1.2.2.1,z.1.2.2.2.1,z.1.2.2.2.2.1,z.1.2.2.2.2.2,z.2.1,z.2.2.1,z.2.2.2.1,z.2.2.2.2.1,z.2.2.2.2.2.1,z.2.2.2.2.2.2,())
  |none=>k0 (0,0,0,0,0,0,0,0,0,0,0,0,())) (by unfold r8;omega) ?_ ?_ (by omega)
 ·intro i c y w b A f g k again u
  have l:∀e∈c,(λ v=>ud n (some (GC p t)) v) e=some (gm n p t e):=λ e m=>by
   obtain⟨x,d,a,rfl,_⟩:=I.a i c e b m
   simp only[gm];rw[QP (n:=n) (by omega) hp q a];rfl
  simp only[T6,g,cond_true,f,o5]
  rw[alf o c _ _ (I.g c (y7 b)) l,o5];simp only[k,fn];have F:=afk (gm n p t) c 0
  cases e:c.find? (gm n p t) with
  |none=>
   rw[e]at F;simp only[]at F;rw[F];simpa using u
  |some z=>
   rw[e]at F;obtain⟨j,d,a⟩:=F;rw[d,show decide (((0+j:Nat):Int)>=0)=true from by simp]
   simp only[cond_true,acM];rw[oR,a];rfl
 ·intro h again;simp only[T6,h,cond_false,fn]
theorem alP{n:Nat}(a:200000<=n){p:Pl}(hp:jg p){t:Tk}(c:uv p t.2)(b:bh p t.1=0):Qu n (some (GC p t))=some (none,(z6,z6),8)\/∃r L,l8 p t.1 r L []/\Qu n (some (GC p t))=some (match fn (gm n p t) L with|some z=>(some (r,L),z,0)|none=>(none,(z6,z6),12)):=by
 unfold Qu;simp only[o5,GC]
 rcases ak2 a hp b with h|⟨r,L,I,h⟩
 ·left;rw[h];rfl
 ·right;refine⟨r,L,I,?_⟩;rw[h];refine(amc a hp c I _ _).trans ?_;cases fn (gm n p t) L<;>rfl
theorem K0{n:Nat}(u:200000<=n){p:Pl}(hp:jg p)(t:Tk):(kX p t≠0/\OD n p t=some (0,kX p t))\/kX p t=0/\(OD n p t=some (0,8)\/OD n p t=some (0,12)/\(∀j x,Rc p t.1 j x->xN t x=false)\/
  ∃i:Nat,OD n p t=some ((i:Int),0)/\(∃x,Rc p t.1 i x/\xN t x=true)/\∀j x,Rc p t.1 j x->xN t x=true->i<=j):=by
 unfold OD;rw[v90 (by omega) hp,o5]
 by_cases h:kX p t=0
 ·right;refine⟨h,?_⟩
  obtain⟨E,q⟩:=L6 h;obtain⟨F,s⟩:=RJ q
  have b:bh p t.1=0:=by
   grind[bh,rZ]
  rw[h];simp only[beq_self_eq_true,cond_true,bne_self_eq_false,cond_false]
  rcases alP u hp s b with e|⟨r,L,I,e⟩
  ·grind
  ·right;rw[e,o5];cases l:fn _ L with
   |none=>
    left;refine⟨rfl,λ j x w=>?_⟩;obtain⟨f,i,c,a,g,_⟩:=I.e b w;have:=ahc l c (y7 a) _ g;grind[QP]
   |some z=>
    right;obtain⟨i,c,f,a,g,A⟩:=ai3 l;obtain⟨x,m,B,rfl,v,C,D⟩:=I.a i c z f a;refine⟨i,?_,⟨x,m,?_⟩,λ j y o c2=>?_⟩
    ·grind
    ·grind[QP]
    ·obtain⟨d1,k,d,d2,d3,d4⟩:=I.e b o;grind[QP]
 grind
end
section
local instance:Dr:= ⟨false⟩
def mo:wO:= [109,111,114,101]
def gu(m k:Nat):List (Int×Int):=(List.range k).flatMap λ(i:Nat)=>[((m:Int),(i:Int)),((i:Int),(m:Int))]
def ex(p:Pl)(z:Int):Pl:=(p.1++ [(mo,z)],p.2++gu p.1.length p.1.length)
def gk(s:St):St:=(s.1++ [0],s.2++ [0])
def ko(t:Tk):Tk:=(gk t.1,t.2.1++ [-1],t.2.2++ [0])
def wE(p:Pl)(z:Int):Int:=jh [ia (cy z 1 50) 2,ia (decide (p.1.length<6)&&decide (p.2.length+2*p.1.length<=30)) 16,ia (!(p.1.any λ x=>x.1==mo)) 5]
theorem HY(m k:Nat):gu m (k+1)=gu m k++ [((m:Int),(k:Int)),((k:Int),(m:Int))]:=by
 grind[gu,List.range_succ]
theorem xM(m:Nat):∀k,(gu m k).length=2*k
 | 0=>rfl
 |k+1=>by rw[HY,u7,xM m k];rfl
theorem abM{m k:Nat}{x:Int×Int}:x∈gu m k↔∃i:Nat,i<k/\(x=((m:Int),(i:Int))\/x=((i:Int),(m:Int))):=by
 grind[gu]
theorem ajp(m:Nat):∀k,k<=m->(gu m k).Nodup
 | 0,_=>List.nodup_nil
 |k+1,h=>by
  rw[HY];have a:=ajp m k (by omega);grind[aaw,h1,abM]
theorem Gw{b:Bool}{e:Int}(h:e≠0):ia b e=0↔b=true:=by grind[ia]
theorem aao{a b c:Int}:jh [a,b,c]=0↔a=0/\b=0/\c=0:=by grind[Tg]
theorem ace(m:Int):∀(l:List (Int×Int))(i:Nat)(pre:List (Int×Int)),(iq m i pre l).2=0↔(∀h∈l,cy h.1 0 (m- 1)=true/\cy h.2 0 (m- 1)=true/\h.1≠h.2/\h∉pre)/\l.Nodup
 | [],_,_=>by simp[iq]
 |h::r,i,pre=>by
  have a:=ace m r (i+1) (pre++ [h])
  have e:sx m pre h=0↔(cy h.1 0 (m- 1)=true/\cy h.2 0 (m- 1)=true)/\h.1≠h.2/\h∉pre:=by
   grind[sx,aao,Gw]
  grind[iq,sx,zY,List.nodup_cons,List.mem_cons_self]
theorem ac5(v:Vs):∀(l:List Vs)(i:Nat)(pre:List Vs),(ix i pre l).2=0->wi (pre++l) v=0->(ix i pre (l++ [v])).2=0
 | [],i,pre,_,h=>by grind[ix]
 |x::r,i,pre,h,h2=>by
  simp only[K4,ix]at h⊢;cases a:(wi _ x==0)with
  |true=>rw[a]at h;exact ac5 v r _ _ h (by grind)
  |false=>grind
theorem LS{p:Pl}{z:Int}:wE p z=0↔cy z 1 50=true/\(p.1.length<6/\p.2.length+2*p.1.length<=30)/\(p.1.any λ x=>x.1==mo)=false:=by
 grind[wE,aao,Gw,Bool.not_eq_true']
theorem ah2(p:Pl):(mQ p).2=0↔(1<=p.1.length/\p.1.length<=6/\p.2.length<=30)/\(ix 0 [] p.1).2=0/\(iq p.1.length 0 [] p.2).2=0:=by
 grind[mQ,h1,h2,ix]
theorem acV{x lo a:Int}:cy x lo a=true↔lo<=x/\x<=a:=by simp[cy]
theorem alN{p:Pl}{z:Int}(h:(mQ p).2=0)(e:wE p z=0):(mQ (ex p z)).2=0:=by
 obtain⟨w1,⟨w2,w3⟩,w4⟩:=LS.1 e;obtain⟨⟨f,g,i⟩,a,b⟩:=(ah2 p).1 h;obtain⟨c,j⟩:=(ace _ _ _ _).1 b
 refine(ah2 _).2 ⟨⟨by simp[ex],by simp[ex];omega,by grind[ex,xM]⟩,ac5 _ _ _ _ a ?_,(ace _ _ _ _).2 ⟨λ h d=>?_,?_⟩⟩
 ·unfold wi;rw[aao,Gw (by decide),Gw (by decide),Gw (by decide)];exact⟨rfl,by grind,w1⟩
 ·simp only[ex,u7,x8]at d⊢;simp only[acV]at c⊢
  grind[abM]
 ·simp only[ex];grind[aaw,ajp,acV,abM]
theorem amA{p:Pl}{z:Int}(hp:jg p)(b:wE p z=0):jg (ex p z):=by
 obtain⟨w1,⟨w2,w3⟩,w4⟩:=LS.1 b;refine⟨by simp[ex];omega,by grind[ex,xM],λ v a=>?_⟩
 simp only[ex,C8,zY]at a;rcases a with a|rfl
 ·exact hp.n v a
 ·simp[mo]
theorem Tl{l:List Int}{a c:Int}(h0:0<=a)(h1:a<l.length):aY (l++ [c]) a=aY l a:=by
 grind[aY,z7]
theorem aal{p:Pl}{z a:Int}(h0:0<=a)(h1:a<p.1.length):zu (ex p z) a=zu p a:=by
 grind[zu,ex,z7]
theorem alR{p:Pl}{s:St}{z:Int}(h:uv p s):uv (ex p z) (gk s):= ⟨by simp[ex,gk,h.c],by simp[ex,gk,h.w]⟩
theorem akZ{p:Pl}{s:St}{z:Int}(g:1<=z)(h:j5 p s=0):j5 (ex p z) (gk s)=0:=by
 obtain⟨b,h2⟩:=(al8 _ _).1 h;have c:=b.c;have w:=b.w;refine(al8 _ _).2 ⟨alR b,λ a e d=>?_⟩
 simp only[ex,u7,x8]at d
 by_cases f:a<p.1.length
 ·grind[aal,gk,Tl,h2]
 ·have:a=(p.1.length:Int):=by omega
  subst this;have e1:aY (s.1++ [0]) (p.1.length:Int)=0:=by grind[aY]
  have e2:aY (s.2++ [0]) (p.1.length:Int)=0:=by grind[aY]
  grind[zu,ex,gk,e1,e2,ann]
theorem adE(v:Vs):∀(vs:List Vs)(cs a:List Int),cs.length=vs.length->a.length=vs.length->wz (vs++ [v]) (cs++ [-1]) (a++ [0])=wz vs cs a
 | [],cs,a,b,d=>by
  obtain rfl:=TH.1 b;obtain rfl:=TH.1 d;rfl
 |x::vs,c::cs,w::a,b,d=>by
  simp only[K4,NV];rw[adE v _ _ _ (by grind) (by grind)]
theorem ac7:∀(c a b d:List Int),a.length=c.length->b.length=c.length->d.length=c.length->xl (a++ [-1]) (b++ [0]) (c++ [0]) (d++ [0])=xl a b c d
 | [],[],[],[],_,_,_=>rfl
 |z::c,x::a,y::b,w::d,h1,h2,h3=>by
  simp only[K4,LK];rw[ac7 c a b d (by grind) (by grind) (by grind)]
theorem ale{p:Pl}{t:Tk}{z:Int}(h:kX p t=0)(b:wE p z=0):kX (ex p z) (ko t)=0:=by
 obtain⟨c,d⟩:=L6 h;obtain⟨i,a⟩:=RJ d;have e:j5 p t.1=0:=by grind[rZ]
 have f:=akZ (z:=z) (acV.1 (LS.1 b).1).1 e
 have g:wz p.1 t.2.1 t.2.2=0:=by grind[rZ]
 unfold kX;rw[alN c b];simp only[beq_self_eq_true,cond_true];unfold rZ;rw[show j5 _ (ko t).1=0 from f];simp only[beq_self_eq_true,cond_true,ko,ex,u7,x8,a.c,a.w,decide_true,wH]
 rw[adE _ _ _ _ a.c a.w,g]
theorem ama{p:Pl}{s:St}{z:Int}(a:uv p s){m:Int×Int}(h:mv p s m=0):mv (ex p z) (gk s) m=0:=by
 have b:=amn h;obtain⟨⟨d,e⟩,f,g⟩:=x7 b;have c:=a.c;have w:=a.w
 grind[mv,n4,ex,cy,decide,aal,gk,Tl]
theorem ak3{p:Pl}{s:St}{z:Int}(a:uv p s){m:Int×Int}(h:mv p s m=0):ap (ex p z) (gk s) m=gk (ap p s m):=by
 have b:=amn h;obtain⟨⟨d,e⟩,f,g⟩:=x7 b;have c:=a.c;have w:=a.w
 grind[ap,aal,gk,Tl,mq,List.set_append_left,Prod.ext,aY,set]
theorem aag{p:Pl}{s:St}{z:Int}(g:bh p s=0):∀{j:Nat}{x:St},Rc p s j x->bh p x=0/\Rc (ex p z) (gk s) j (gk x)
 | 0,x,h=>by cases h;trivial
 |j+1,x,⟨y,m,d,a,e⟩=>by
  subst e;obtain⟨b,f⟩:=aag g d;have c:=F1 (nY b).2;exact⟨aaY b a,_,m,f,ama c a,ak3 c a⟩
theorem ade{p:Pl}{t:Tk}{s:St}(b:uv p t.2)(a:uv p s):xN (ko t) (gk s)=xN t s:=by
 have:=b.c;have:=b.w;have:=a.c;have:=a.w;exact ac7 _ _ _ _ (by omega) (by omega) (by omega)
end
section
local instance:Dr:= ⟨false⟩
abbrev Ov:Pl:=([],[])
abbrev NT:Tk:=(([],[]),[],[])
def wv(p:Pl)(t:Tk)(z:Int):Pl×Tk×Int:=bif wE p z==0 then(ex p z,ko t,0)else(Ov,NT,wE p z)
theorem GY{n:Nat}(l:List Int)(h:l.length<=1000):Gu n l=some l:=by grind[Gu,zG]
theorem al7{n:Nat}(l:List Vs)(h:l.length<=1000):O6 n l=some l:=by grind[O6,zG]
theorem aly{n:Nat}(l:List (Int×Int))(h:l.length<=1000):JR n l=some l:=by grind[JR,zG]
theorem agO{l:List Int}{m:Nat}(h:l.length=m)(h6:m<6):(l6 (i6 l)).take (m+1)=l++ [0]:=by
 grind[anA,List.take_append,List.take_of_length_le]
theorem alG{n:Nat}{p:Pl}{s:St}(a:uv p s)(h6:p.1.length<6):yw n (nd s) (((p.1.length+1:Nat)):Int)=some (gk s):=by
 unfold yw;rw[show kZ ((p.1.length+1:Nat)) 6=some _ from if_pos (by omega)];simp only[o5,Int.toNat_natCast]
 rw[show[(nd s).1.1,(nd s).1.2.1,(nd s).1.2.2.1,(nd s).1.2.2.2.1,(nd s).1.2.2.2.2.1,(nd s).1.2.2.2.2.2]=l6 (i6 _) from rfl,show[(nd s).2.1,(nd s).2.2.1,(nd s).2.2.2.1,(nd s).2.2.2.2.1,(nd s).2.2.2.2.2.1,(nd s).2.2.2.2.2.2]=l6 (i6 _) from rfl,agO a.c h6,agO a.w h6,GY _ (by simp[a.c];omega),GY _ (by simp[a.w];omega)];rfl
theorem alb{n:Nat}(l:1000<=n){p:Pl}(hp:jg p){t:Tk}(hT:kX p t=0){z:Int}(s:cy z 1 50=true):Oc n (some (GC p t)) z=some (wv p t z):=by
 obtain⟨m,r⟩:=L6 hT;obtain⟨a,f⟩:=RJ r;have A:=aaK m;have w:=a.c;have c2:=a.w;have c3:=f.c;have c4:=f.w
 obtain⟨q,u,v⟩:=ahd (n:=n) p.1 mo (by omega) (by unfold r8;omega)
 have j:wE p z=jh [ia (decide (p.1.length<6)&&decide (p.2.length+2*p.1.length<=30)) 16,ia (!(p.1.any λ x=>x.1==mo)) 5]:=by
  unfold wE;rw[s,Tg,Jo];rfl
 have g:decide (((p.1.length:Nat):Int)<6)=decide (p.1.length<6):=by grind
 unfold Oc;simp only[o5,GC];rw[show IY n p=some (p.1.length:Int) from rfl];simp only[o5,jv,g]
 have k:∀b:aeu,(decide (p.1.length<6)=true->b=(p,t,nd t.1))->(decide (p.1.length<6)&&decide ((ov .i64 ((fH b.1.2:Int)+ (ov .i64 (2*(p.1.length:Int)))))<=30))=(decide (p.1.length<6)&&decide (p.2.length+2*p.1.length<=30)):=λ b h=>by
  grind[decide,ov,nu]
 rw[k _ (by grind),tP,o5,show vV n _ [109,111,114,101]=some q from u];simp only[o5];rw[tP,o5,v,BO l,o5,<-j]
 unfold wv;by_cases e:wE p z=0
 ·obtain⟨_,⟨w2,w3⟩,_⟩:=LS.1 e
  rw[e];simp only[bne_self_eq_false,cond_false,beq_self_eq_true,cond_true];rw[al7 _ (by omega),o5,zG (by grind),o5,aly _ (by omega),o5]
  refine Xs (adL (n:=n) (body:=ym n) (ks:=(_,())) p.1.length (λ i(o:List (Int×Int))=>(some (GC p t),(p.1.length:Int),(p.1.length:Int),(i:Int),p.1++ [(mo,z)],o,())) (λ i o=>some (ex p z,ko t,0)) (λ i o=>o=p.2++gu p.1.length i) (by unfold r8;omega) (λ i o c h2 y d again B=>?_) (λ o c d again=>?_) p.2 (by simp[gu]) (by omega)) rfl
  ·grind[ym,h2,zG,xM,HY,aaZ]
  ·subst d;simp only[ym,c,cond_false,o5,GC]
   rw[show ov _ _=((p.1.length+1:Nat)) from by rw[nu] <;>omega,alG a w2,o5,GY _ (by omega),o5,zG (by grind),o5,GY _ (by omega),o5,zG (by grind)];rfl
 grind
theorem v53{n:Nat}(a:1000<=n){p:Pl}(hp:jg p)(t:Tk)(z:Int):JD n p t z=some (bif kX p t==0 then wv p t z else(Ov,NT,kX p t)):=by
 unfold JD;rw[v90 a hp,o5];simp only[afC,tP,o5,BO a,Jo]
 by_cases h:kX p t=0
 ·rw[h];simp only[beq_self_eq_true,cond_true,bne_self_eq_false,cond_false];cases b:cy z 1 _ with
  |true=>rw[alb a hp h b];rfl
  |false=>
   have:wE p z=2:=by unfold wE;rw[b,Tg];rfl
   unfold wv;rw[this];rfl
 grind
theorem v54{n:Nat}(D:1000<=n){p:Pl}(hp:jg p){t:Tk}(hT:kX p t=0)(z:Int):PK n p t z=some (wv p t z):=by
 obtain⟨k,l⟩:=L6 hT;obtain⟨f,g⟩:=RJ l;have C:=aaK k;have A:=f.c;have c2:=f.w;have c3:=g.c;have c4:=g.w
 unfold PK;rw[EO,o5];cases e:cy z 1 _ with
 |false=>
  have:wE p z=2:=by unfold wE;rw[e,Tg];rfl
  grind[wv]
 |true=>
  have b:wE p z=jh [ia (decide (p.1.length<6)&&decide (p.2.length+2*p.1.length<=30)) 16,ia (!(p.1.any λ x=>x.1==mo)) 5]:=by
   unfold wE;rw[e,Tg,Jo];rfl
  have j:((decide ((ov .i64 ((fH p.1:Int)+1))>6))|| (decide ((ov .i64 ((fH p.2:Int)+ (ov .i64 (2* (fH p.1:Int)))))>30)))=!(decide (p.1.length<6)&&decide (p.2.length+2*p.1.length<=30)):=by
   grind[ov,nu,Bool.not_and,decide_not]
  simp only[o7,cond_false];rw[j]
  cases a:(decide (p.1.length<6)&&decide (p.2.length+2*p.1.length<=30))with
  |false=>
   have:wE p z=16:=by rw[b,a,Jo];rfl
   grind[wv]
  |true=>
   rw[a]at b
   simp only[o7,cond_false]
   refine Xs (iy (n:=n) (body:=AI n) (ks:=(_,_,())) p.1 (λ i=>(z,(p.1.length:Int),(i:Int),p.1,p.2,t.1.1,t.1.2,t.2.1,t.2.2,())) (λ i r=>bif r.any (λ x=>x.1==mo)then some (Ov,NT,5)else some (ex p z,ko t,0)) (by unfold r8;omega) (λ i x r q s u v w y again m=>?_) (λ h again=>?_) (by omega)) ?_
   ·grind[AI,mo]
   ·simp only[AI,h,cond_false,List.any_nil];rw[v22 n hp,o5,v23 n _ (by grind) (by grind) (by grind) (by grind),o5,zG (by grind),o5]
    simp only[abh,decide_eq_true_eq]at a
    refine Xs (adL (n:=n) (body:=FU n) (ks:=(_,())) p.1.length (λ i(o:List (Int×Int))=>((p.1.length:Int),(i:Int),p.1++ [(mo,z)],o,t.1.1,t.1.2,t.2.1,t.2.2,())) (λ i o=>some (ex p z,ko t,0)) (λ i o=>o=p.2++gu p.1.length i) (by unfold r8;omega) (λ i o c a B d again m=>?_) (λ o c d again=>?_) p.2 (by simp[gu]) (by omega)) rfl
    ·grind[FU,zG,xM,HY,aaZ]
    ·subst d;simp only[FU,c,cond_false];rw[zG (by grind),o5,zG (by grind),o5,zG (by grind),o5,zG (by grind)];rfl
   ·unfold wv;rw[b];cases(p.1.any λ x=>x.1==mo)<;>rfl
theorem v55{n:Nat}(k:1000<=n)(a:Pl)(h1:a.1.length<=900)(h2:a.2.length<=900):zh n a a=some true:=by
 unfold zh;simp only[bne_self_eq_false,x6,cond_false]
 refine iy (n:=n) (body:=Cv n) (ks:=(_,_,())) a.1 (λ i=>((i:Int),a.1,a.2,a.1,a.2,())) (λ i r=>some true) (by unfold r8;omega) (λ i x r b c d e f g again j=>?_) (λ h again=>?_) (by omega)
 ·grind[Cv,wH,o7]
 ·simp only[Cv,h,cond_false];refine iy (n:=n) (body:=R0 n) (ks:=(_,_,())) a.2 (λ i=>((i:Int),a.1,a.2,a.1,a.2,())) (λ i r=>some true) (by unfold r8;omega) (λ i x r b c d e f g again j=>?_) (λ h again=>?_) (by omega)
  all_goals grind[R0,wH,o7]
theorem v33{n:Nat}(a:1000<=n)(t:Tk)(h1:t.1.1.length<=900)(h2:t.1.2.length<=900)(h3:t.2.1.length<=900)(h4:t.2.2.length<=900):FQ n t t=some true:=by
 grind[FQ,v41,v82,r8,jv,wH]
theorem v52{n:Nat}(j:1000<=n){p:Pl}(hp:jg p):∃b,JZ n p=some b:=by
 have:=hp.v
 refine⟨bif p.1.any (λ x=>cy x.2 7 50)then false else(decide ((fH p.1:Int)<=3))|| (decide ((fH p.1:Int)>6)),?_⟩;unfold JZ
 refine iy (n:=n) (body:=K1 n) (ks:=(_,_,())) p.1 (λ i=>((i:Int),p.1,p.2,())) (λ i r=>some (bif r.any (λ x=>cy x.2 7 50)then false else(decide ((fH p.1:Int)<=3))|| (decide ((fH p.1:Int)>6)))) (by unfold r8;omega) (λ i x r a c d e f g again k=>?_) (λ h again=>?_) (by omega)
 all_goals grind[K1,EO,cy]
theorem alM(k:Nat)(p:Pl)(t:Tk)(z:Int):s8 (k+200000) p t z=some true:=by
 have a:200000<=k+200000:=by omega
 generalize E:k+200000=n at a
 have j:FJ n=some true:=by grind[acS]
 unfold s8;obtain⟨b,r,v⟩:=v18 (n:=n) (by omega) p;obtain⟨l,s,y⟩:=v19 n t
 rw[j,o5,r];simp only[o7,cond_false,o5,s]
 cases b with
 |false=>rfl
 |true=>
  cases l with
  |false=>rfl
  |true=>
   have hp:=v rfl;obtain⟨H,I,J,K⟩:=y rfl;have B:=hp.v;have C:=hp.h
   obtain⟨m,u⟩:=v52 (n:=n) (by omega) hp
   simp only[o7,u6,x6,jv,u,cond_true,o5,EO]
   cases m with
   |false=>rfl
   |true=>
    simp only[o7,u6,ab0,cond_true]
    cases cy z 7 _ with
    |true=>rfl
    |false=>
     simp only[cond_false];rw[v22 n hp,o5,v23 n t (by omega) (by omega) (by omega) (by omega),o5,v53 (by omega) hp,o5,Wa (by omega) hp,o5]
     by_cases hT:kX p t=0
     ·rw[hT];simp only[beq_self_eq_true,cond_true];rw[v54 (by omega) hp hT,o5]
      have w1:(wv p t z).1.1.length<=900/\(wv p t z).1.2.length<=900:=by
       grind[wv,wE,ex,xM]
      have w2:(wv p t z).2.1.1.1.length<=900/\(wv p t z).2.1.1.2.length<=900/\(wv p t z).2.1.2.1.length<=900/\(wv p t z).2.1.2.2.length<=900:=by
       grind[wv,wE,ko,gk]
      simp only[bne_self_eq_false,u6,jv,v55 (n:=n) (by omega) _ w1.1 w1.2,v33 (n:=n) (by omega) _ w2.1 w2.2.1 w2.2.2.1 w2.2.2.2,cond_true,o5,o7,x6,cond_false]
      by_cases g:wE p z=0
      ·have o:wv p t z=(ex p z,ko t,0):=by unfold wv;grind
       rw[o];simp only[bne_self_eq_false,cond_false]
       obtain⟨F,A⟩:=L6 hT;obtain⟨L,M⟩:=RJ A;have f:bh p t.1=0:=by grind[bh,rZ]
       have D:=ale hT g
       rcases K0 a (amA hp g) (ko t) with h2|⟨_,h2|⟨h2,c⟩|⟨G,h2,_,c⟩⟩
       ·omega
       ·grind[K0,h2]
       ·rcases K0 a hp t with h|⟨_,h|⟨h,_⟩|⟨i,h,⟨x,d,w⟩,_⟩⟩
        ·omega
        ·grind
        ·grind
        ·obtain⟨k1,e⟩:=aag (z:=z) f d;have:=c i _ e;grind[ade,F1,nY]
       ·rcases K0 a hp t with h|⟨_,h|⟨h,_⟩|⟨i,h,⟨x,d,w⟩,_⟩⟩
        ·omega
        ·grind
        ·grind
        ·obtain⟨k1,e⟩:=aag (z:=z) f d;have:=c i _ e (by grind[ade,F1,nY]);grind
      grind[wv,wE]
     ·have q:(kX p t==0)=false:=by grind
      have h2:(kX p t !=0)=true:=by grind
      rw[q];simp only[cond_false,bne_self_eq_false,u6,jv,cond_true,v55 (n:=n) (by omega) Ov (by simp) (by simp),v33 (n:=n) (by omega) NT (by simp) (by simp) (by simp) (by simp),o5,o7,x6,h2]
end
end Go.Abs.R
namespace Go.Rs
open Go.ChangeShapes Go.Conc Go.Proofs
theorem acj:ownKnob Tryz.prog.godebug=none:=by kernel_rfl
theorem RY:laidOutB Tryz.prog=true:=by kernel_rfl
theorem Gv:TP.globals.size=3:=by kernel_rfl
theorem VJ(g:Nat)(h:g<3):(((begin TP (λ _ _=>0) default).world.heap[g]?).bind Obj.row?).isSome=true:=by
 match g,h with
 |0,_=>exact(by kernel_rfl:(((begin TP (λ _ _=>0) default).world.heap[0]?).bind Obj.row?).isSome=true)
 |1,_=>exact(by kernel_rfl:(((begin TP (λ _ _=>0) default).world.heap[1]?).bind Obj.row?).isSome=true)
 |2,_=>exact(by kernel_rfl:(((begin TP (λ _ _=>0) default).world.heap[2]?).bind Obj.row?).isSome=true)
theorem V2(w:ack)(c:w.ShapedOpen TP):TP.globals.size<=w.heap.size/\vx w:=by
 have key:∀g,g<3->∃cs t,w.heap[g]?=some (.cells cs t):=λ g a=>by
  obtain⟨⟨z,t⟩,d⟩:=K8.1 (VJ g a);obtain⟨cs,b,_⟩:=c.1 g z t (by rw[Gv];exact a) d;exact⟨cs,t,b⟩
 refine⟨?_,λ g a=>?_⟩
 ·obtain⟨cs,t,h⟩:=key 2 (by omega);have:=(Array.getElem?_eq_some_iff.1 h).1;rw[Gv];omega
 ·have a:Nat.blt g TP.globals.size=true:=a;rw[Gv]at a;obtain⟨cs,t,h⟩:=key g (by simpa using a);exact S8 h
end Go.Rs
namespace Go
theorem Rs.ajf(d:Looks){p:Pinned}{s:OpenSpec}{c:OpenClaim}(kinds:List LaidKind)(e:Bool)(a:Bool×String)(b g:Bool)
 (l:c.holds p s) (w:c.wfByText s=true)
 (v:c.laidByTextAt d p kinds e)
 (u:c.start= .entering) (r:c.noBlocks=false/\c.again=false) (o:p.checked.prog.mainIs=some (a.1,a.2.toList)) (q:(!a.1&&a.2.isEmpty&&!b)=false)
 (n:∀f fn,p.checked.prog.funcNamed c.func=some f->p.checked.prog.funcs[f]?=some fn->b=p.checked.prog.looks []/\∀(j:Nat)t,fn.params[j]?=some t->p.checked.prog.wantsStandIn t=false)
 (m:g=c.goesBy p.checked.prog):
 Claim7.holds p (.plain s) {stood:={row:=c,standIns:= [],harness:=a,looks:=b},kinds:= [],alts:= [],goes:=g,laidByText:=true,laidKinds:=kinds,laidTests:=e,laidLooks:=d}:=by
 have i:abr {stood:={row:=c,standIns:= [],harness:=a,looks:=b},kinds:= []}=false:=by simpa[abr]using q
 have key:=Claim7.tied_new_at d kinds e (Claim7.new_of_sixth l a b u r o i n) w;refine⟨?_,(λ D k=>by cases k),v,(λ h=>by cases h),m⟩;exact key
end Go
