/- Part of a proof that the statement holds. No conditions. -/
import Derived.Shelf.SlSortCmp.NoneTotal
import Derived.Shelf.SlLaysF0
import Derived.Test.YtbppbacfffndaaaGreatDoorQc4
import Derived.Test.YtbppbacfffndaaaGreatDoorQc5
set_option linter.all false
noncomputable section
set_option maxRecDepth 100000
open Go.IntKind renaming wrap->b2
open Option renaming bind_some->cr,map_some->hA
open Go renaming Value->df,World->ee,maxLen->gu,Goroutine->hh,Program->hq,Act->hG,Frame->hU,undef->nc
open Array renaming getElem?_eq_getElem->dk,getElem?_eq_some_iff->dr,getElem?_toList->eg,getElem?_mapIdx->ej,getElem_toList->eH,getElem?_setIfInBounds_ne->fl,mem_iff_getElem->gg,toList_map->hy
open List renaming getElem?_eq_getElem->ea,length->eb,getElem?_take->ei,mem_append->eo,getElem?_eq_none->ew,mem_of_getElem?->eL,take->fu,eq_nil_of_length_eq_zero->fx,find?_cons->fz,drop_eq_getElem_cons->gb,append_left_eq_self->gf,mem_map->gk,mem_cons_of_mem->gE,mem_singleton->hg,flatMap_cons->hz,size_toArray->hB,ext_getElem?->hD,cons_append->hF,mem_flatMap->hL,append_inj->hM,map_append->hN,append_nil->hP,nodup_cons->hQ,find?_nil->hY,nodup_nil->hZ
open Go.Proofs.Tryz renaming f135->ef,func167->eV,func166->fb,func100->jA,func104->j1,func96->j2,func109->j3,func97->kg,func134->kk,func138->ko,func103->kp,func135->kq,func99->kH,f167->kL,f168->kR,func168->kV,func213->k3,func206->k4,func207->k5,func231->k6,func152->k7,func224->k8,func228->lb,func236->lf,func205->lk,func209->lv,func225->lA,func229->lB,func237->l7,func178->l8,func210->l9,func226->ma,func230->mb,func238->ml,func179->mm,func223->mn,func227->mo,func235->mr,f166->mA
open Bool renaming and_eq_true->en,not_eq_true'->ht
open Go.Value renaming cells->ep
open Nat renaming le_refl->et,beq->eQ,le_trans->gw,mod_lt->nf
open Int renaming toNat->fv,not_lt->nb
open Go.Sort renaming putCells->fR,flatK->mx,grow->mZ
open Go.Proofs renaming sortWorldK->gl,ltOf->hv
open Go.Proofs.SlLaysF0 renaming n6->hJ
open Go.Operand renaming func->hR,tmp->iA
open Go.Region renaming wanted->hS
open Go.Target.collected renaming inj->ih
open Go.Act renaming eval->jc
open Option.some renaming inj->ng
namespace Go.Abs
open Go.Proofs Go.Sort
section
variable[Dr]
variable{P:hq}{E:aq}{R:Type}
variable {F:Nat} {f:Func} {c:Code}
@[reducible] def MN:lj->List Ty
 | .aj t| .pp t=> [t]
 |_=> []
@[reducible] def HH:List lj->List Ty
 | []=> []
 |c::r=>MN c++HH r
@[reducible] def Io:List (Nat×ki)->List Ty
 | []=> []
 | (_,.v c)::r=>MN c++Io r
 | (_,.B6 l)::r=>HH l++Io r
@[reducible] def Dx:List (Nat×mS)->List Ty
 | []=> []
 | (_,.jH e)::r=> .aH e::Dx r
 | (_,.cp _ l)::r=>HH l++Dx r
 | (_,.tU k v)::r=> .cO k v::Dx r
 | (_,.it k v)::r=> .cO k v::Dx r
@[reducible] def eN(n:Nat)(s:List (Nat×ki))(o:List (Nat×mS)):cf:= ⟨n,Io s++Dx o,s,o,[]⟩
@[reducible] def aT(k:Nat)(t:Ty):Nat×ki:=(k,.v (.aj t))
@[reducible] def fw(n:Nat)(s:List (Nat×ki))(o:List (Nat×mS)):dN×cf:=(.sT,eN n s o)
@[reducible] def fq(i n:Nat)(s:List (Nat×ki))(o:List (Nat×mS)):dN×cf:=(.ou i,eN n s o)
theorem B8(n)(hE:al P E)(T)(X)(b){O} (a:kO P (bT.b (R:=R)) false (gq (iw c)) 0 O) (h:(P.follows .mixedOrders&&Cf c)=true:=by kernel_rfl) (e:∀d again k,dv E (bT.b (R:=R)) (iw c) O (mk T d) (mL E T X again k)=b d again k:=by intros;kernel_rfl):eS P (bT.b (R:=R)) false c (mG n E T X b):=by simp[en]at h;exact rk hE h.1 h.2 a e
theorem gh(n)(hE:al P E)(T)(X)(b)(h:(P.follows .mixedOrders&&Cf c)=true:=by kernel_rfl) (a:∀d again k,dv E (bT.b (R:=R)) (iw c) [] (mk T d) (mL E T X again k)=b d again k:=by intros;kernel_rfl):eS P (bT.b (R:=R)) false c (mG n E T X b):=B8 n hE T X b (O:= []) trivial h a
def Cm(f:Func):=!(f.name== "runtime.NumGoroutine")&&f.body.isSome
theorem ZO(hE:al P E)(d:P.follows .mixedOrders=true)(e:P.funcs[F]?=some f)(b:Cm f=true){ins caps a fresh g O} (c:kO P (bT.b (R:=ax a)) false (gq (bd f)) 0 O) (heq:∀x y,oI E f ins caps a fresh O x y=g x y):al P (E.a F ⟨ins,caps,a,g,fresh⟩):=by simp only[Cm,en,ht]at b;exact mN hE (xz hE d e b.1 b.2 c heq)
theorem gD(X:Go.Rs.FS){E:aq}(hE:al X.Q E)(d:Go.Rs.TP.funcs[F]?=some f){ins caps a:List Ty}{fresh:Bool}{g:ax ins->ax caps->Option (ax a)}{O:List (Ev (ax a))}
 (c:kO X.Q (bT.b (R:=ax a)) false (gq (bd f)) 0 O) (b:(Cm f&&Go.Rs.tf f&&F !=147)=true:=by kernel_rfl) (heq:∀x y,oI E f ins caps a fresh O x y=g x y:=by intros;kernel_rfl):al X.Q (E.a F ⟨ins,caps,a,g,fresh⟩):=by
 simp[en,bne_iff_ne,ne_eq]at b;exact ZO hE X.b (X.a d b.1.2 b.2) b.1.1 c heq
theorem dw(X:Go.Rs.FS){E}(hE:al X.Q E)(c:Go.Rs.TP.funcs[F]?=some f){ins caps a fresh g} (b:(Cm f&&Go.Rs.tf f&&F !=147)=true:=by kernel_rfl) (heq:∀x y,oI E f ins caps a fresh [] x y=g x y:=by intros;kernel_rfl):al X.Q (E.a F ⟨ins,caps,a,g,fresh⟩):=gD X hE c (O:= []) trivial b heq
end
end Go.Abs
namespace Go.Abs.N
open Go.Abs
section
local instance:Dr:= ⟨false⟩
abbrev Lp2(D A B R:Type):=D->(D->Option R)->(A->Option R)×(B->Option R)×Unit->Option R
variable(X:Go.Rs.FS)(n:Nat)
abbrev Y0:Ty:=.ay .i64
abbrev Y1:Ty:=.aF Y0 Y0
abbrev Y2:=Int×Int×Int×Int×Int×Int
abbrev Y3:=Y2×Int×Int×Int×Int×Int×Int
abbrev Y4:Ty:=.aF Y0 Y1
abbrev Y5:Ty:=.aF Y0 Y4
abbrev Y6:Ty:=.aF Y0 Y5
abbrev Y7:Ty:=.aF Y0 Y6
abbrev Y8:Ty:=.aF Y7 Y7
abbrev Y9:=Int×Int
abbrev EE:=Y3×Int×Y3×Int×Int
abbrev Qq:Ty:=.aF .aJ Y0
abbrev zg:Ty:=.aH Y1
abbrev MJ:Ty:=.aH Qq
abbrev kF:Ty:=.aF MJ zg
abbrev Y15:Ty:=.aF Y8 Y1
abbrev TB:Ty:=.aF Y0 Y15
abbrev Fu:Ty:=.aF Y8 TB
abbrev UC:=List UInt8
abbrev Y19:=UC×Int
abbrev ZW:=Y9×Y3
abbrev oa:=List ZW
abbrev rf:Ty:=.aH Fu
abbrev rG:=List Y9
abbrev uG:=List Y19
abbrev zd:Ty:=.dX Y1 Y8
abbrev yD:=uG×rG
abbrev yL:=List EE
def gT:List (Nat×eZ):= [(3,⟨Y0,0,false⟩),(4,⟨.aO,0,false⟩),(9,⟨.aJ,0,false⟩),(22,⟨MJ,0,false⟩),(23,⟨zg,0,false⟩),(25,⟨kF,2,false⟩),(35,⟨Y0,0,false⟩),(56,⟨Y1,2,false⟩),(136,⟨Qq,2,false⟩),(138,⟨kF,1,false⟩),(147,⟨Y7,6,true⟩),(149,⟨Y8,2,false⟩),(163,⟨zd,0,false⟩),(168,⟨Y1,2,true⟩),(177,⟨TB,3,false⟩),(191,⟨(.aH Y8),0,false⟩),(205,⟨(.aH Y0),0,false⟩),(228,⟨rf,0,false⟩),(231,⟨Fu,2,false⟩)]
def gQ:List (Nat×Ty):= [(168,Y1)]
theorem acN(X:Go.Rs.FS):zP X.Q 168 Y1:=JF (d:=40) (by decide) (by kernel_rfl) rfl (by kernel_rfl)
def e0(n:Nat):aq:= ⟨gT,[],gQ,[],[],[]⟩
theorem h0:al X.Q (e0 n):=GI (IN (by kernel_rfl)) (acN X)
def IY(n:Nat)(p:uG×rG):Option Int:=some (eb p.1:Int)
def e1:aq:=(e0 n).a 100 ⟨[kF],[],[Y0],λ x y=>IY n x,false⟩
theorem h1:al X.Q (e1 n):=dw X (h0 X n) jA
def H2(n:Nat)(a lo b:Int):Option Bool:=some ((decide (lo<=a))&& (decide (a<=b)))
def e2:aq:=(e1 n).a 99 ⟨[Y0,Y0,Y0],[],[.aO],λ x y=>H2 n x.1 x.2.1 x.2.2,false⟩
theorem h2:al X.Q (e2 n):=dw X (h1 X n) kH
def zQ(b:Int)(a:uG×rG):Option Bool:=(IY n a).bind λ x=>(H2 n b 0 (b2 .i64 (x- 1))).bind λ c=>some c
def e3:aq:=(e2 n).a 134 ⟨[Y0],[kF],[.aO],λ x y=>zQ n x y,false⟩
theorem h3:al X.Q (e3 n):=dw X (h2 X n) kk
def vk(n:Nat)(a:Bool)(e:Int):Option Int:=bif a then some 0 else some e
def e4:aq:=(e3 n).a 97 ⟨[.aO,Y0],[],[Y0],λ x y=>vk n x.1 x.2,false⟩
theorem h4:al X.Q (e4 n):=dw X (h3 X n) kg
def yp(n:Nat):Lp2 (rG×Int×Int×Int×Int×Unit) Unit (Int×Unit) Int:=λ(s,b,a,v,c,_) again (k0,k1,_)=>bif decide (a<b)then(aG s a).bind λ e=>bif (v==e.1)&& (c==e.2)then k1 (a,())else again (s,b,(b2 .i64 (a+1)),v,c,())else k0 ()
def yf(s:List Y9)(v:Int×Int):Option Int:=cq (yp n) n (s,(eb s:Int),0,v.1,v.2,()) (λ(_)=>some (-1),λ(a,_)=>some a,())
def e5:aq:=(e4 n).a 138 ⟨[zg,Y1],[],[Y0],λ x y=>yf n x.1 x.2,false⟩
theorem h5:al X.Q (e5 n):=gD X (h4 X n) ko (O:= [_]) ⟨gh n (h4 X n) (eN 19 [aT 0 zg,(3,.v (.cu 19 0)),aT 7 Y0,aT 8 Y0] [(19,.cp Y1 [.aj Y0,.aj Y0])]) [fq 0 19 [] [],fw 19 [aT 4 Y0] []] (yp n),trivial⟩
def BY(s:List Y9)(v:Int×Int):Option Bool:=(yf n s v).bind λ x=>some (decide (x>=0))
def e6:aq:=(e5 n).a 109 ⟨[zg,Y1],[],[.aO],λ x y=>BY n x.1 x.2,false⟩
theorem h6:al X.Q (e6 n):=dw X (h5 X n) j3
def Hv(n:Nat):Lp2 ((List Int)×Int×Int×Unit) Unit (Int×Unit) Int:=λ(b,c,a,_) again (k0,k1,_)=>bif decide (a<c)then(aG b a).bind λ e=>bif e !=0 then k1 (e,())else again (b,c,(b2 .i64 (a+1)),())else k0 ()
def C5(l:List Int):Option Int:=cq (Hv n) n (l,(eb l:Int),0,()) (λ(_)=>some 0,λ(a,_)=>some a,())
def e7:aq:=(e6 n).a 96 ⟨[(.aH Y0)],[],[Y0],λ x y=>C5 n x,false⟩
theorem h7:al X.Q (e7 n):=gD X (h6 X n) j2 (O:= [_]) ⟨gh n (h6 X n) (eN 15 [aT 5 (.aH Y0),aT 6 Y0,aT 7 Y0] []) [fq 0 15 [] [],fw 15 [aT 2 Y0] []] (Hv n),trivial⟩
def En(p:uG×rG)(a:Y2×Int×Int×Int×Int×Int×Int)(m:Int×Int):Option (Y3×Int):=((λ i=>zQ n i p) m.1).bind λ x=>(bI x ((λ i=>zQ n i p) m.2) false).bind λ l=>(vk n (x&&l) 6).bind λ t=>(BY n p.2 m).bind λ v=>(vk n v 18).bind λ w=>(C5 n ([t,w]:List Int)).bind λ k=>bif k !=0 then some (((0,0,0,0,0,0),0,0,0,0,0,0),k)else(cQ m.1 6).bind λ u=>(aG [a.1.1,a.1.2.1,a.1.2.2.1,a.1.2.2.2.1,a.1.2.2.2.2.1,a.1.2.2.2.2.2] m.1).bind λ b=>(aG p.1 m.2).bind λ e=>(cQ m.2 6).bind λ z=>(aG [a.1.1,a.1.2.1,a.1.2.2.1,a.1.2.2.2.1,a.1.2.2.2.2.1,a.1.2.2.2.2.2] m.2).bind λ c=>(cQ m.1 6).bind λ C=>(aG [a.2.1,a.2.2.1,a.2.2.2.1,a.2.2.2.2.1,a.2.2.2.2.2.1,a.2.2.2.2.2.2] m.1).bind λ g=>(vk n (decide (b>0)) 12).bind λ y=>(vk n (decide ((b2 .i64 (e.2- c))>0)) 16).bind λ o=>(cQ m.2 6).bind λ D=>(aG [a.2.1,a.2.2.1,a.2.2.2.1,a.2.2.2.2.1,a.2.2.2.2.2.1,a.2.2.2.2.2.2] m.2).bind λ h=>(bI (!(h==0)) (cQ m.2 6) ()).bind λ E=>(bI (!(h==0)) (aG [a.2.1,a.2.2.1,a.2.2.2.1,a.2.2.2.2.1,a.2.2.2.2.2.1,a.2.2.2.2.2.2] m.2) 0).bind λ q=>(vk n ((h==0)|| (q==g)) 13).bind λ r=>(C5 n ([y,o,r]:List Int)).bind λ j=>bif j !=0 then some (((0,0,0,0,0,0),0,0,0,0,0,0),j)else(cQ m.1 6).bind λ F=>(aG [a.1.1,a.1.2.1,a.1.2.2.1,a.1.2.2.2.1,a.1.2.2.2.2.1,a.1.2.2.2.2.2] m.1).bind λ d=>(cQ m.1 6).bind λ G=>(cQ m.2 6).bind λ H=>(aG [(bif decide (m.1=0)then(b2 .i64 (d- (bu b (b2 .i64 (e.2- c)))))else a.1.1),(bif decide (m.1=1)then(b2 .i64 (d- (bu b (b2 .i64 (e.2- c)))))else a.1.2.1),(bif decide (m.1=2)then(b2 .i64 (d- (bu b (b2 .i64 (e.2- c)))))else a.1.2.2.1),(bif decide (m.1=3)then(b2 .i64 (d- (bu b (b2 .i64 (e.2- c)))))else a.1.2.2.2.1),(bif decide (m.1=4)then(b2 .i64 (d- (bu b (b2 .i64 (e.2- c)))))else a.1.2.2.2.2.1),(bif decide (m.1=5)then(b2 .i64 (d- (bu b (b2 .i64 (e.2- c)))))else a.1.2.2.2.2.2)] m.2).bind λ f=>(cQ m.2 6).bind λ I=>(cQ m.2 6).bind λ J=>(cQ m.1 6).bind λ A=>(aG [(bif decide (m.2=0)then(b2 .i64 (f+ (bu b (b2 .i64 (e.2- c)))))else(bif decide (m.1=0)then(b2 .i64 (d- (bu b (b2 .i64 (e.2- c)))))else a.1.1)),(bif decide (m.2=1)then(b2 .i64 (f+ (bu b (b2 .i64 (e.2- c)))))else(bif decide (m.1=1)then(b2 .i64 (d- (bu b (b2 .i64 (e.2- c)))))else a.1.2.1)),(bif decide (m.2=2)then(b2 .i64 (f+ (bu b (b2 .i64 (e.2- c)))))else(bif decide (m.1=2)then(b2 .i64 (d- (bu b (b2 .i64 (e.2- c)))))else a.1.2.2.1)),(bif decide (m.2=3)then(b2 .i64 (f+ (bu b (b2 .i64 (e.2- c)))))else(bif decide (m.1=3)then(b2 .i64 (d- (bu b (b2 .i64 (e.2- c)))))else a.1.2.2.2.1)),(bif decide (m.2=4)then(b2 .i64 (f+ (bu b (b2 .i64 (e.2- c)))))else(bif decide (m.1=4)then(b2 .i64 (d- (bu b (b2 .i64 (e.2- c)))))else a.1.2.2.2.2.1)),(bif decide (m.2=5)then(b2 .i64 (f+ (bu b (b2 .i64 (e.2- c)))))else(bif decide (m.1=5)then(b2 .i64 (d- (bu b (b2 .i64 (e.2- c)))))else a.1.2.2.2.2.2))] m.1).bind λ s=>bif s==0 then(cQ m.1 6).bind λ B=>some ((((bif decide (m.2=0)then(b2 .i64 (f+ (bu b (b2 .i64 (e.2- c)))))else(bif decide (m.1=0)then(b2 .i64 (d- (bu b (b2 .i64 (e.2- c)))))else a.1.1)),(bif decide (m.2=1)then(b2 .i64 (f+ (bu b (b2 .i64 (e.2- c)))))else(bif decide (m.1=1)then(b2 .i64 (d- (bu b (b2 .i64 (e.2- c)))))else a.1.2.1)),(bif decide (m.2=2)then(b2 .i64 (f+ (bu b (b2 .i64 (e.2- c)))))else(bif decide (m.1=2)then(b2 .i64 (d- (bu b (b2 .i64 (e.2- c)))))else a.1.2.2.1)),(bif decide (m.2=3)then(b2 .i64 (f+ (bu b (b2 .i64 (e.2- c)))))else(bif decide (m.1=3)then(b2 .i64 (d- (bu b (b2 .i64 (e.2- c)))))else a.1.2.2.2.1)),(bif decide (m.2=4)then(b2 .i64 (f+ (bu b (b2 .i64 (e.2- c)))))else(bif decide (m.1=4)then(b2 .i64 (d- (bu b (b2 .i64 (e.2- c)))))else a.1.2.2.2.2.1)),(bif decide (m.2=5)then(b2 .i64 (f+ (bu b (b2 .i64 (e.2- c)))))else(bif decide (m.1=5)then(b2 .i64 (d- (bu b (b2 .i64 (e.2- c)))))else a.1.2.2.2.2.2))),(bif decide (m.1=0)then 0 else(bif decide (m.2=0)then g else a.2.1)),(bif decide (m.1=1)then 0 else(bif decide (m.2=1)then g else a.2.2.1)),(bif decide (m.1=2)then 0 else(bif decide (m.2=2)then g else a.2.2.2.1)),(bif decide (m.1=3)then 0 else(bif decide (m.2=3)then g else a.2.2.2.2.1)),(bif decide (m.1=4)then 0 else(bif decide (m.2=4)then g else a.2.2.2.2.2.1)),(bif decide (m.1=5)then 0 else(bif decide (m.2=5)then g else a.2.2.2.2.2.2))),0)else some ((((bif decide (m.2=0)then(b2 .i64 (f+ (bu b (b2 .i64 (e.2- c)))))else(bif decide (m.1=0)then(b2 .i64 (d- (bu b (b2 .i64 (e.2- c)))))else a.1.1)),(bif decide (m.2=1)then(b2 .i64 (f+ (bu b (b2 .i64 (e.2- c)))))else(bif decide (m.1=1)then(b2 .i64 (d- (bu b (b2 .i64 (e.2- c)))))else a.1.2.1)),(bif decide (m.2=2)then(b2 .i64 (f+ (bu b (b2 .i64 (e.2- c)))))else(bif decide (m.1=2)then(b2 .i64 (d- (bu b (b2 .i64 (e.2- c)))))else a.1.2.2.1)),(bif decide (m.2=3)then(b2 .i64 (f+ (bu b (b2 .i64 (e.2- c)))))else(bif decide (m.1=3)then(b2 .i64 (d- (bu b (b2 .i64 (e.2- c)))))else a.1.2.2.2.1)),(bif decide (m.2=4)then(b2 .i64 (f+ (bu b (b2 .i64 (e.2- c)))))else(bif decide (m.1=4)then(b2 .i64 (d- (bu b (b2 .i64 (e.2- c)))))else a.1.2.2.2.2.1)),(bif decide (m.2=5)then(b2 .i64 (f+ (bu b (b2 .i64 (e.2- c)))))else(bif decide (m.1=5)then(b2 .i64 (d- (bu b (b2 .i64 (e.2- c)))))else a.1.2.2.2.2.2))),(bif decide (m.2=0)then g else a.2.1),(bif decide (m.2=1)then g else a.2.2.1),(bif decide (m.2=2)then g else a.2.2.2.1),(bif decide (m.2=3)then g else a.2.2.2.2.1),(bif decide (m.2=4)then g else a.2.2.2.2.2.1),(bif decide (m.2=5)then g else a.2.2.2.2.2.2)),0)
def e8:aq:=(e7 n).a 103 ⟨[kF,Y8,Y1],[],[Y8,Y0],λ x y=>En n x.1 x.2.1 x.2.2,false⟩
theorem h8:al X.Q (e8 n):=dw X (h7 X n) kp
def xA:Lp2 (yD×Y3×Int×Int×Int×Int×Int×Unit) (yD×Y3×Int×Int×Unit) Unit oa:=λ(b,c,d,e,f,g,a,_) again (k0,k1,_)=>bif decide (a<g)then(En n b c (d,a)).bind λ x=>bif x.2==0 then tG (α:=Y9×Y3) ((d,a),x.1) (again (b,c,d,e,f,g,(b2 .i64 (a+1)),())) (k1 ())else again (b,c,d,e,f,g,(b2 .i64 (a+1)),())else k0 (b,c,e,f,())
def tR:Lp2 (yD×Y3×Int×Int×Unit) Unit Unit oa:=λ(b,g,c,a,_) again (k0,k1,_)=>bif decide (a<c)then cq (xA n) n (b,g,a,c,a,(eb b.1:Int),0,()) (λ(f,h,d,e,_)=>again (f,h,d,(b2 .i64 (e+1)),()),λ(_)=>k1 (),())else k0 ()
def Gt(a:uG×rG)(c1:Y2×Int×Int×Int×Int×Int×Int):Option oa:=cq (tR n) n (a,c1,(eb a.1:Int),0,()) (λ(_)=>some [],λ(_)=>some [],())
def Hb:cf:= ⟨44,[kF,Y8,Y0,Y0,Y0,Y0,Y0],[(0,.v (.sZ)),(1,.v (.pp kF)),(2,.v (.pp Y8)),(4,.v (.aj Y0)),(12,.v (.aj Y0)),(13,.v (.aj Y0)),(19,.v (.aj Y0)),(20,.v (.aj Y0))],[],[]⟩
def QZ:List (dN×cf):= [(.ou 2,⟨44,[kF,Y8,Y0,Y0],[(0,.v (.sZ)),(1,.v (.pp kF)),(2,.v (.pp Y8)),(12,.v (.aj Y0)),(13,.v (.aj Y0))],[],[]⟩),(.sT,⟨44,[],[],[],[]⟩)]
def I5:Ev (List (ax [Y1,Y8])):=mG n (e8 n) Hb QZ (xA n)
theorem aaD d again ks:dv (R:=(List (ax [Y1,Y8]))) (e8 n) (jP [Y1,Y8]) (iw (lp (iw (lp (bd ef) 0)) 0)) [] (mk Hb d) (mL (e8 n) Hb QZ again ks)=xA n d again ks:=by kernel_rfl
theorem agf:eS X.Q (jP [Y1,Y8]) false (lp (iw (lp (bd ef) 0)) 0) (I5 n):=rk (h8 X n) X.b (by kernel_rfl) (O:= []) trivial (aaD n)
def H4:cf:= ⟨44,[kF,Y8,Y0,Y0],[(0,.v (.sZ)),(1,.v (.pp kF)),(2,.v (.pp Y8)),(12,.v (.aj Y0)),(13,.v (.aj Y0))],[],[]⟩
def Ro:List (dN×cf):= [(.ou 0,⟨44,[],[],[],[]⟩),(.sT,⟨44,[],[],[],[]⟩)]
def FW:Ev (List (ax [Y1,Y8])):=mG n (e8 n) H4 Ro (tR n)
theorem ahe d again ks:dv (R:=(List (ax [Y1,Y8]))) (e8 n) (jP [Y1,Y8]) (iw (lp (bd ef) 0)) [I5 n] (mk H4 d) (mL (e8 n) H4 Ro again ks)=tR n d again ks:=by kernel_rfl
theorem abk:eS X.Q (jP [Y1,Y8]) false (lp (bd ef) 0) (FW n):=rk (h8 X n) X.b (by kernel_rfl) (O:= [I5 n]) ⟨agf X n,trivial⟩ (ahe n)
def Fs:vT:= ⟨[kF,Y8],zd,λ y=>Gt n y.1 y.2⟩
theorem UO(y):Bb (e8 n) ef [Y1,Y8] [kF,Y8] [FW n] y=(Fs n).c y:=by kernel_rfl
theorem aew:yk X.Q 135 (Fs n):=XD (h8 X n) X.b (X.a kq (by kernel_rfl) (by decide)) (by kernel_rfl) (by kernel_rfl) (O:= [FW n]) ⟨abk X n,trivial⟩ (UO n)
def e9:aq:=(e8 n).d 135 (Fs n)
theorem h9:al X.Q (e9 n):=aaH (h8 X n) (aew X n)
def tN(p:uG×rG)(a:Y2×Int×Int×Int×Int×Int×Int):Option oa:=(Gt n p a).bind λ x=>some x
def qH:aq:=(e9 n).a 104 ⟨[kF,Y8],[],[zd],λ x y=>tN n x.1 x.2,false⟩
theorem xm:al X.Q (qH n):=dw X (h9 X n) j1
def ui(n:Nat)(d:Int×Y3×oa×yL×Unit)(y:Y9×Y2×Int×Int×Int×Int×Int×Int)(again:(Int×Y3×oa×yL×Unit)->Option yL)(ks:Unit):Option yL:=match d,ks with| (a,b,c,own,_),(_)=>(jk (eb own+eb ([(y.2,a,b,y.1)]:List EE))).bind λ u=>again (a,b,c,(own++ ([(y.2,a,b,y.1)]:List EE)),())
def xD(a:uG×rG)(c1:Int)(c2:Y2×Int×Int×Int×Int×Int×Int):Option yL:=(tN n a c2).bind λ x=>la (ui n) () (λ(d,e,c,b,_)=>some b) x (c1,c2,x,([]:List EE),())
def Ac:cf:= ⟨29,[Y0,Y8,zd,rf],[(3,.v (.pp Y0)),(5,.v (.pp Y8)),(6,.v (.cu 29 0)),(15,.v (.aj zd))],[(29,.cp rf [.iR 30]),(30,.jH Fu)],[]⟩
def BV:List (dN×cf):= []
theorem OC(d)(x)(again)(ks):dv (R:=(ax [rf])) (qH n) (bT.b (R:=(ax [rf]))) (vv (lp Go.Rs.w5 0)) [] (GP Ac [3,5,6,15] 16 17 Y1 Y8 d x) (tH λ st=>dv (R:=(ax [rf])) (qH n) (bT.b (R:=(ax [rf]))) (wQ (lp Go.Rs.w5 0)) [] st (wR (qH n) Ac [3,5,6,15] BV again ks))=ui n d x again ks:=by kernel_rfl
def ja:aq:=qH n
theorem vX:al X.Q (ja n):=(xm X n)
end
end Go.Abs.N
namespace Go.Abs.C
section
local instance:Dr:= ⟨true⟩
abbrev Lp2(D A B R:Type):=D->(D->Option R)->(A->Option R)×(B->Option R)×Unit->Option R
variable(X:Go.Rs.FS)(n:Nat)
abbrev W0:Ty:=.ay .i64
abbrev W1:Ty:=.aF W0 W0
abbrev W2:Ty:=.aF W0 W1
abbrev W3:Ty:=.aF W0 W2
abbrev W4:Ty:=.aF W0 W3
abbrev W5:Ty:=.aF W0 W4
abbrev W6:Ty:=.aF W5 W5
abbrev W7:=Int×Int×Int×Int×Int×Int
abbrev W8:=W7×Int×Int×Int×Int×Int×Int
abbrev W9:Ty:=.aH W0
abbrev Wi:Ty:=.aF W6 W1
abbrev Pq:Ty:=.aF W0 Wi
abbrev uB:Ty:=.aF W6 Pq
abbrev qd:=List Int
def gT:List (Nat×eZ):= [(3,⟨W0,0,false⟩),(4,⟨.aO,0,false⟩),(26,⟨W9,0,false⟩),(147,⟨W5,6,true⟩),(149,⟨W6,2,false⟩),(177,⟨Pq,3,false⟩),(231,⟨uB,2,false⟩)]
def gQ:List (Nat×Ty):= []
def e0(n:Nat):aq:= ⟨gT,[],gQ,[],[],[]⟩
theorem h0:al X.Q (e0 n):=IN (by kernel_rfl)
def AY(n:Nat)(x:Int):Option Bool:=some (x !=x)
def e1:aq:=(e0 n).a 213 ⟨[W0],[],[.aO],λ x y=>AY n x,false⟩
theorem h1:al X.Q (e1 n):=dw X (h0 X n) k3
def Cc(x y:Int):Option Int:=(AY n x).bind λ b=>(AY n y).bind λ a=>bif b then bif a then some 0 else some (-1)else bif a then some 1 else bif decide (x<y)then some (-1)else bif decide (x>y)then some 1 else some 0
def e2:aq:=(e1 n).a 231 ⟨[W0,W0],[],[W0],λ x y=>Cc n x.1 x.2,false⟩
theorem h2:al X.Q (e2 n):=dw X (h1 X n) k6
def GH:Lp2 (qd×qd×qd×Int×Int×Unit) (qd×qd×Unit) (Int×Unit) Int:=λ(c,b,f,d,a,_) again (k0,k1,_)=>bif decide (a<d)then(aG f a).bind λ e=>bif decide (a>=(eb b:Int))then k1 (1,())else(aG b a).bind λ g=>(Cc n e g).bind λ x=>bif x !=0 then k1 (x,())else again (c,b,f,d,(b2 .i64 (a+1)),())else k0 (c,b,())
def Ew(a c:List Int):Option Int:=cq (GH n) n (a,c,a,(eb a:Int),0,()) (λ(b,d,_)=>bif decide ((eb b:Int)< (eb d:Int))then some (-1)else some 0,λ(e,_)=>some e,())
def e3:aq:=(e2 n).a 207 ⟨[W9,W9],[],[W0],λ x y=>Ew n x.1 x.2,false⟩
theorem h3:al X.Q (e3 n):=gD X (h2 X n) k5 (O:= [_]) ⟨gh n (h2 X n) (eN 36 [aT 0 W9,aT 1 W9,aT 9 W9,aT 10 W0,aT 11 W0] []) [fq 0 36 [aT 0 W9,aT 1 W9] [],fw 36 [aT 4 W0] []] (GH n),trivial⟩
def zw(n:Nat):Lp2 (Int×qd×Int×Int×Unit) (Int×Unit) (Int×Unit) Int:=λ(zero,b,c,a,_) again (k0,k1,_)=>bif decide (a<c)then(aG b a).bind λ e=>bif e !=zero then k1 (e,())else again (zero,b,c,(b2 .i64 (a+1)),())else k0 (zero,())
def Eb(a:List Int):Option Int:=cq (zw n) n (0,a,(eb a:Int),0,()) (λ(c,_)=>some c,λ(b,_)=>some b,())
def e4:aq:=(e3 n).a 206 ⟨[W9],[],[W0],λ x y=>Eb n x,false⟩
theorem h4:al X.Q (e4 n):=gD X (h3 X n) k4 (O:= [_]) ⟨gh n (h3 X n) (eN 18 [aT 3 W0,aT 6 W9,aT 7 W0,aT 8 W0] []) [fq 0 18 [aT 3 W0] [],fw 18 [aT 2 W0] []] (zw n),trivial⟩
def Ai(a b:W7×Int×Int×Int×Int×Int×Int):Option Int:=(kZ 6 6).bind λ u=>(kZ 6 6).bind λ e=>(Ew n (fu (fv 6) [a.1.1,a.1.2.1,a.1.2.2.1,a.1.2.2.2.1,a.1.2.2.2.2.1,a.1.2.2.2.2.2]) (fu (fv 6) [b.1.1,b.1.2.1,b.1.2.2.1,b.1.2.2.2.1,b.1.2.2.2.2.1,b.1.2.2.2.2.2])).bind λ x=>(kZ 6 6).bind λ f=>(kZ 6 6).bind λ g=>(Ew n (fu (fv 6) [a.2.1,a.2.2.1,a.2.2.2.1,a.2.2.2.2.1,a.2.2.2.2.2.1,a.2.2.2.2.2.2]) (fu (fv 6) [b.2.1,b.2.2.1,b.2.2.2.1,b.2.2.2.2.1,b.2.2.2.2.2.1,b.2.2.2.2.2.2])).bind λ c=>(Eb n ([x,c]:List Int)).bind λ d=>some d
def PD:aq:=(e4 n).n [1000002,1000003]
theorem ag5:al X.Q (PD n):=IV (h4 X n) _
def Hq:fc:= ⟨[W6,W6],[],[W0],λ x y=>Ai n x.1 x.2,false⟩
theorem WU(x)(y):oI (PD n) kR [W6,W6] [] [W0] false [] x y=(Hq n).g x y:=by kernel_rfl
theorem aiG:jf X.Q 168 (Hq n):=xz (ag5 X n) X.b (X.a kV (by kernel_rfl) (by decide)) (by kernel_rfl) (by kernel_rfl) (O:= []) trivial (WU n)
def e5:aq:=(e4 n).a 168 (Hq n)
theorem h5:al X.Q (e5 n):=mN (h4 X n) (aiG X n)
def JI(a b:W8×Int×W8×Int×Int):Option Int:=(Ai n a.1 b.1).bind λ x=>bif x !=0 then some x else(Ai n a.2.2.1 b.2.2.1).bind λ c=>some c
def HU:fc:= ⟨[uB,uB],[],[W0],λ x y=>JI n x.1 x.2,false⟩
theorem afB(x)(y):oI (e5 n) kL [uB,uB] [] [W0] false [] x y=(HU n).g x y:=by kernel_rfl
theorem Oi:jf X.Q 167 (HU n):=xz (h5 X n) X.b (X.a eV (by kernel_rfl) (by decide)) (by kernel_rfl) (by kernel_rfl) (O:= []) trivial (afB n)
def e6:aq:=(e5 n).a 167 (HU n)
theorem h6:al X.Q (e6 n):=mN (h5 X n) (Oi X n)
end
end Go.Abs.C
namespace Go.Abs
open Go.Proofs Go.Sort
section
local instance:Dr:= ⟨true⟩
def aX:(t:Ty)->t.b->List df| .ay k,n=> [.int k n]| .aO,b=> [.bool b]| .aJ,s=> [.string ⟨⟨s⟩⟩]| .aF a b,x=>aX a x.1++aX b x.2|_,_=> []
section
variable[Dr]
theorem kJ{P w ok}:(t:Ty)->t.h=true->(d:t.b)->(vs:List df)->(aw P t w ok vs d↔vs=aX t d)| .ay _,_,_,_=>Iff.rfl| .aO,_,_,_=>Iff.rfl| .aJ,_,_,_=>Iff.rfl| .aF a b,h,(x,y),vs=>by simp[Ty.h,en]at h;simp[aw,aX];rw[kJ a h.1,kJ b h.2];constructor;grind[List.take_append_drop];rintro rfl;have c:(aX a x).length=a.a:=aw.d a ((kJ (P:=P) (w:=w) (ok:=ok) a h.1 x _).2 rfl);grind| .aH _,h,_,_| .dP _ _,h,_,_| .dX _ _,h,_,_| .cO _ _,h,_,_| .ec _,h,_,_=>by cases h
end
theorem mz(t)(h:t.h=true)(d):(aX t d).length=t.a:=aw.d (P:=default) (w:=default) (ok:=λ _=>True) t ((kJ t h d _).2 rfl)
theorem AW:(t:Ty)->(d:t.b)->∀v∈aX t d,v.oneCell'=true| .ay _,_,v,h=>by simp[aX]at h;subst h;rfl| .aO,_,v,h=>by simp[aX]at h;subst h;rfl| .aJ,_,v,h=>by simp[aX]at h;subst h;rfl| .aF a b,(x,y),v,h=>by simp[aX,eo]at h;exact h.elim (AW a x v) (AW b y v)| .aH _,_,v,h| .dP _ _,_,v,h| .dX _ _,_,v,h| .cO _ _,_,v,h| .ec _,_,v,h=>by cases h
@[reducible] def Sx:Ty:= .aF (.ay .i64) (.aF (.ay .i64) (.aF (.ay .i64) (.aF (.ay .i64) (.aF (.ay .i64) (.ay .i64)))))
@[reducible] def dW:Ty:= .aF Sx Sx
@[reducible] def bq:Ty:= .aF dW (.aF (.ay .i64) (.aF dW (.aF (.ay .i64) (.ay .i64))))
abbrev I6:=Int×Int×Int×Int×Int×Int
abbrev bS:=I6×I6
abbrev bA:=bS×Int×bS×Int×Int
def sD(x y:Int):Int:=bif decide (x<y)then-1 else bif decide (x>y)then 1 else 0
def eR:List Int->List Int->Int|x::l,y::m=>bif sD x y !=0 then sD x y else eR l m|_,_=>0
theorem SU(x y):(x<y/\sD x y= -1)\/(x=y/\sD x y=0)\/(y<x/\sD x y=1):=by grind[sD]
theorem qx(x y)(l m):(x<y/\eR (x::l) (y::m)= -1)\/(x=y/\eR (x::l) (y::m)=eR l m)\/(y<x/\eR (x::l) (y::m)=1):=by rcases SU x y with⟨a,b⟩| ⟨a,b⟩| ⟨a,b⟩;all_goals grind[eR]
theorem NQ:∀l,eR l l=0| []=>rfl|x::l=>by rcases qx x x l l with⟨h,_⟩| ⟨_,h⟩| ⟨h,_⟩;omega;rw[h,NQ l];omega
theorem LC:∀{l m:List Int},l.length=m.length->eR l m=0->l=m| [],[],_,_=>rfl| [],_::_,h,_=>by trivial|_::_,[],h,_=>by trivial|x::l,y::m,h,e=>by rcases qx x y l m with⟨_,a⟩| ⟨b,a⟩| ⟨_,a⟩;omega;rw[a]at e;rw[b,LC (by grind) e];omega
theorem xG:∀{l m:List Int},l.length=m.length->eR m l= - eR l m| [],[],_=>rfl| [],_::_,h=>by rfl|_::_,[],h=>by rfl|x::l,y::m,h=>by have e:=xG (l:=l) (m:=m) (by grind);rcases qx x y l m with⟨d,b⟩| ⟨d,b⟩| ⟨d,b⟩<;>rcases qx y x m l with⟨c,a⟩| ⟨c,a⟩| ⟨c,a⟩<;>first|omega| (rw[b,a];omega)| (rw[b,a];rfl)
theorem EP:∀{l m k:List Int},l.length=m.length->m.length=k.length->eR l m<=0->eR m k<=0->eR l k<=0/\((eR l m<0\/eR m k<0)->eR l k<0)
 | [],[],[],_,_,_,_=>by omega| [],_::_,_,h,_,_,_=>by trivial|_::_,[],_,h,_,_,_=>by trivial| [],[],_::_,_,h,_,_=>by trivial|_::_,_::_,[],_,h,_,_=>by trivial|x::l,y::m,z::k,h,h',e,e'=>by have g:=EP (l:=l) (m:=m) (k:=k) (by grind) (by grind);rcases qx x y l m with⟨c,a⟩| ⟨c,a⟩| ⟨c,a⟩<;>rcases qx y z m k with⟨d,b⟩| ⟨d,b⟩| ⟨d,b⟩<;>rcases qx x z l k with⟨f,c2⟩| ⟨f,c2⟩| ⟨f,c2⟩<;>
   first|omega| (rw[a]at e;rw[b]at e';have:=g e e';rw[a,b,c2];exact this)
theorem JJ:∀{l l':List Int}(m m':List Int),l.length=l'.length->eR (l++m) (l'++m')=bif eR l l' !=0 then eR l l' else eR m m'
 | [],[],m,m',_=>by rfl| [],_::_,_,_,h=>by trivial|_::_,[],_,_,h=>by trivial|x::l,y::l',m,m',h=>by have e:=JJ (l:=l) (l':=l') m m' (by grind);rcases qx x y l l' with⟨c,a⟩| ⟨c,a⟩| ⟨c,a⟩<;>rcases qx x y (l++m) (l'++m')with⟨d,b⟩| ⟨d,b⟩| ⟨d,b⟩<;>
   first|omega| (rw[hF,hF,b,a];first|exact e|rfl)
def l6(x:I6):= [x.1,x.2.1,x.2.2.1,x.2.2.2.1,x.2.2.2.2.1,x.2.2.2.2.2]
def ry(x:bS):=l6 x.1++l6 x.2
def eT(x:bA):=ry x.1++ry x.2.2.1
theorem aeJ{x y}(h:l6 x=l6 y):x=y:=by grind[l6,List.cons.injEq]
theorem agC{x y}(h:ry x=ry y):x=y:=by have:=hM h rfl;grind[Prod.ext,aeJ]
theorem Vm{x y}(h:eT x=eT y):x.1=y.1/\x.2.2.1=y.2.2.1:=by have:=hM h rfl;grind[agC]
def dJ(x y:bA):=eR (eT x) (eT y)
theorem acu:SWO (hv dJ):=by
 have a:∀x y,dJ y x= - dJ x y:=λ x y=>xG rfl;refine⟨λ x=>?_,λ x y z b c=>?_,λ x y z b c=>?_⟩
 grind[hv,dJ,NQ]
 simp only[hv,decide_eq_true_eq]at*;exact(EP (l:=eT x) (m:=eT y) (k:=eT z) rfl rfl (by grind[dJ]) (by grind[dJ])).2 (.inl b);simp only[hv,decide_eq_false_iff_not,nb]at*;have d:=a y x;have e:=a z y;have:=(EP (l:=eT z) (m:=eT y) (k:=eT x) rfl rfl (by grind[dJ]) (by grind[dJ])).1
 grind[dJ]
theorem UN(n)(x):C.AY n x=some false:=by simp[C.AY]
theorem VE(n)(x y):C.Cc n x y=some (sD x y):=by grind[C.Cc,UN,sD]
theorem My(n)(l m)(h:l.length=m.length)(o:l.length<n)(p:l.length<4294967296):C.Ew n l m=some (eR l m):=by
 refine agN (I:=λ d r=>∃i,i<=l.length/\d=(l,m,l,(l.length:Int),(i:Int),())/\r=some (eR (l.drop i) (m.drop i))) (λ d=>l.length- d.2.2.2.2.1.toNat) ?_ n _ _ (by grind) (by omega);rintro d r⟨i,k,rfl,rfl⟩again j;simp only[C.GH];by_cases c:i<l.length
 have e:i<m.length:=by omega
 have f:(i:Int)< ((l.length:Nat):Int):=by omega
 have g:¬((i:Int)>=((m.length:Nat):Int)):=by omega
 rw[oR,oR,ea c,ea e,gb c,gb e];simp only[f,g,decide_true,decide_false,cond_true,cond_false,cr,VE];rw[nu (by omega) (by omega)];rw[show((i:Int)+1)=((i+1:Nat))from by omega];rcases SU l[i] m[i]with⟨b,a⟩| ⟨b,a⟩| ⟨b,a⟩
 simp[a,eR];simp only[a,eR];exact j _ _ (by grind) (by grind);simp[a,eR];grind[eR]
theorem YP(n)(x y):C.Eb (n+3) [x,y]=some (bif x !=0 then x else y):=by
 unfold C.Eb;by_cases h:x=0
 by_cases b:y=0;simp_all[cq,C.zw,aG,nu];subst h;have a:(y !=0)=true:=by grind
 simp[cq,C.zw,aG,nu,a];have e:(x !=0)=true:=by grind
 simp[cq,C.zw,aG,e]
theorem ahA(a b:bS):C.Ai 2000 a b=some (eR (ry a) (ry b)):=by
 have e:∀x,fu (fv 6) [x.1,x.2.1,x.2.2.1,x.2.2.2.1,x.2.2.2.2.1,x.2.2.2.2.2]=l6 x:=λ x=>rfl;have c:kZ 6 6=some ():=by decide
 simp only[C.Ai,c,cr,e];rw[My _ (l6 a.1) (l6 b.1) rfl (by grind) (by grind),cr,My _ (l6 a.2) (l6 b.2) rfl (by grind) (by grind),cr,YP _,cr];grind[ry,JJ,l6]
theorem Vh(x y:bA):C.JI 2000 x y=some (dJ x y):=by simp[C.JI,ahA,cr];unfold dJ eT;rw[JJ (l:=ry x.1) (l':=ry y.1) _ _ rfl];grind
theorem cm.a{w w'}(h:cm w w'):∃q os,w'=mZ (w.drewN q) os:=by
 refine⟨w'.drawn- w.drawn,w'.heap.extract w.heap.size w'.heap.size,?_⟩;have⟨c,d,⟨f,a⟩,i,j⟩:=h;have a:=a rfl;have⟨b,p,l,m,n⟩:=w';have⟨g,o,k,os,out⟩:=w;simp at c d f a i j;subst c d f;have e:b=g++b.extract g.size b.size:=by grind
 unfold mZ World.drewN;simp only;rw[<-e]
 congr 1;omega
theorem YL(X:Go.Rs.FS)(blk off size)(w):CmpLays X.Q 167 #[] (aX bq) 27 dJ blk off size w:=by
 intro m os a d x y;generalize gl (aX bq) 27 w blk off m a os=W;have h:=(C.Oi X 2000).2 W (λ _=>False) [.agg (aX bq x).toArray,.agg (aX bq y).toArray] [] (x,y) () (dJ x y) ⟨aX bq x,_,rfl,(kJ bq rfl x _).2 rfl,aX bq y,rfl,(kJ bq rfl y _).2 rfl⟩ rfl (Vh x y);refine Calls.mono h ?_;rintro e w'⟨v,rfl,c,⟨cs,rfl,b⟩,_⟩;cases b;exact⟨rfl,c.a⟩
end
end Go.Abs
namespace Go.Abs.N
open Go.Abs
section
local instance:Dr:= ⟨false⟩
variable {n:Nat}
abbrev xn:=(List ((List UInt8)×Int))×(List (Int×Int))
def ok1(x:Option Int):=x.isSome
theorem Sv(l)(a:l.length<n)(b:l.length<=gu):C5 n l=some ((l.find? λ e=>e !=0).getD 0):=by refine iy (n:=n) l (λ i=>(l,((eb l):Int),(i:Int),())) (λ i r=>some ((r.find? _).getD 0)) b ?_ ?_ a;all_goals grind[h1,h2,h3,h4,h5,h6,Hv]
theorem afn(l:List (Int×Int))(v)(d:l.length<n)(f:l.length<=gu):∃q,yf n l v=some q/\(decide (q>=0))=decide (v∈l):=by
 unfold yf;have:=iy (n:=n) (body:=yp n) (ks:=(λ(_)=>some ((-1:Int)),λ(g,_)=>some (g),())) l (λ i=>(l,((eb l:Nat):Int),(i:Int),v.1,v.2,())) (λ i r=>some (match r.findIdx? λ e=>e==v with|some k=>((i+k:Nat):Int)|none=> -1)) f ?_ ?_ d;grind
 ·intro i x r h j m a b c again o;simp[yp,b,a,c,cr,cond_true];grind
 grind[yp]
theorem aen(l:List (Int×Int))(v)(a:l.length<n)(b:l.length<=gu):BY n l v=some (decide (v∈l)):=by have⟨q,h1,h2⟩:=afn l v a b;grind[BY,yf,h1,h2]
def ld(x:bS)(i:Nat):=(l6 x.1).getD i 0
def vJ(f t:Nat)(x a:bS):=f≠t/\∃m,0<m/\m<9223372036854775808/\∀i,i<6->ld a i=if i=t then b2 .i64 (ld x i+m)else if i=f then b2 .i64 (ld x i- m)else ld x i
theorem Ed(z):∃q,b2 .i64 z=z+q*18446744073709551616:=by rw[IntKind.wrap_i64];refine⟨-((z+9223372036854775808)/18446744073709551616),?_⟩;omega
theorem YA{f t f' t' x b}(j:f<6)(o:t<6)(p:f'<6)(r:t'<6)(h:vJ f t x b)(g:vJ f' t' x b):f=f'/\t=t':=by have⟨n,m,m1,m2,k⟩:=h;have⟨q,m',s,u,l⟩:=g;have e:∀i,i<6->_:=λ i a=>(k i a).symm.trans (l i a);have d:=e t o;have c:=e f j;rw[if_pos rfl]at d;rw[if_neg n,if_pos rfl]at c;have⟨v,w1⟩:=Ed (ld x t+m);have⟨w,w2⟩:=Ed (ld x f- m);have⟨y,w3⟩:=Ed (ld x t+m');have⟨z,w4⟩:=Ed (ld x t- m');omega
end
section
local instance:Dr:= ⟨false⟩
variable {i:Nat} {α:Type} {n:Nat} {pl:xn}
theorem g6(a b c d e f:Int)(g:i<6):aG [a,b,c,d,e,f] (i:Int)=some ([a,b,c,d,e,f].getD i 0):=by grind[oR,ea]
theorem r6(a:i<6):cQ (i:Int) 6=some ():=by
 grind[cQ]
theorem v97(n)(b)(e):vk n b e=some (bif b then 0 else e):=by cases b<;>rfl
theorem SX(b)(x d:α):bI b (some x) d=some (bif b then x else d):=by cases b<;>rfl
theorem TZ(a:pl.1.length<7){k}(b:k<pl.1.length):zQ n (k:Int) (pl.1,pl.2)=some true:=by grind[zQ,IY,H2,nu,h1,decide,h2]
theorem Ze{P:α->Prop}(b)(x y)(h1:b=true->P x)(h2:b=false->P y):P (bif b then x else y):=by grind
theorem agb(V:1000000<n)(o:pl.1.length<7)(R:pl.2.length<1000000)(J:∀h∈pl.2,h.1≠h.2)(x:bS){f t:Nat}(H:f<pl.1.length)(L:t<pl.1.length):
 ∃d q,En n pl x ((f:Int),(t:Int))=some (d,q)/\(q=0->vJ f t x d):=by
 have p:f<6:=by omega
 have B:t<6:=by omega
 have I:aG pl.1 (t:Int)=some (pl.1[t]):=by grind[oR,ea]
 have C:=aen (n:=n) pl.2 ((f:Int),(t:Int)) (by omega) (by unfold gu;omega);have U:(3:Nat)<=maxLen:=by trivial
 unfold En;simp only[TZ o H,TZ o L,cr,SX,v97,cond_true,C,Bool.and_self];rw[Sv _ (by grind) (by grind)];by_cases k:((f:Int),(t:Int))∈pl.2
 ·have A:f≠t:=λ e=>J _ k (by omega);have X:¬t=f:=λ e=>A e.symm;simp only[k,decide_true,cond_true,fz,hY,bne_self_eq_false,Option.getD_none,cr,cond_false];simp only[r6 p,r6 B,g6 _ _ _ _ _ _ p,g6 _ _ _ _ _ _ B,I,cr,SX];rw[Sv _ (by grind) (by omega)];simp only[cr];generalize D: [x.1.1,x.1.2.1,x.1.2.2.1,x.1.2.2.2.1,x.1.2.2.2.2.1,x.1.2.2.2.2.2].getD f 0=a;generalize l: [x.1.1,x.1.2.1,x.1.2.2.1,x.1.2.2.2.1,x.1.2.2.2.2.1,x.1.2.2.2.2.2].getD t 0=lt;generalize E:(Option.getD (List.find? (λ e:Int=>e !=0) _) 0)=Q;cases Y:(Q !=0)with
  |true=>
   grind
  |false=>
   simp only[cond_false];have F:Q=0:=by grind
   rw[F]at E;have K:0<a/\0<b2 .i64 ((pl.1[t]).2- lt):=by
    grind
   have M:=Ue ((pl.1[t]).2- lt);generalize T:b2 .i64 ((pl.1[t]).2- lt)=W at K M;generalize S:bu a W=m;have s:0<m/\m<9223372036854775808:=by
    grind[bu]
   have fin:∀(y:bS)(z:Int),(∀i,i<6->ld y i=if i=t then b2 .i64 (lt+m)else if i=f then b2 .i64 (a- m)else ld x i)->vJ f t x y:=λ y z h=>by
    refine⟨A,m,s.1,s.2,λ i g=>?_⟩;rw[h i g];by_cases c:i=t
    ·rw[if_pos c,if_pos c,c,<-l];rfl
    ·rw[if_neg c,if_neg c];by_cases j:i=f
     ·rw[if_pos j,if_pos j,j,<-D];rfl
     omega
   have G:([bif decide ((f:Int)=0)then b2 .i64 (a- m)else x.1.1,bif decide ((f:Int)=1)then b2 .i64 (a- m)else x.1.2.1,bif decide ((f:Int)=2)then b2 .i64 (a- m)else x.1.2.2.1,bif decide ((f:Int)=3)then b2 .i64 (a- m)else x.1.2.2.2.1,bif decide ((f:Int)=4)then b2 .i64 (a- m)else x.1.2.2.2.2.1,bif decide ((f:Int)=5)then b2 .i64 (a- m)else x.1.2.2.2.2.2]:List Int).getD t 0=lt:=by
    rw[<-l];have O:t=0\/t=1\/t=2\/t=3\/t=4\/t=5:=by omega
    grind[decide,decide_eq_false,List.getD_cons_zero,List.getD_cons_succ]
   simp only[G];have b:∀(i:Nat)(u v w:Int),(bif decide ((t:Int)=(i:Int))then u else bif decide ((f:Int)=(i:Int))then v else w)=if i=t then u else if i=f then v else w:=λ i u v w=>by
    grind
   have N:∀i:Nat,i<6->i=0\/i=1\/i=2\/i=3\/i=4\/i=5:=λ i g=>by omega
   refine Ze (P:=λ r=>∃d q,r=some (d,q)/\(q=0->vJ f t x d)) _ _ _ (λ _=>?_) (λ _=>?_)
   all_goals
    refine⟨_,_,rfl,λ _=>fin _ 0 λ i g=>?_⟩;rcases N i g with rfl|rfl|rfl|rfl|rfl|rfl
    ·exact b 0 _ _ _
    ·exact b 1 _ _ _
    ·exact b 2 _ _ _
    ·exact b 3 _ _ _
    ·exact b 4 _ _ _
    ·exact b 5 _ _ _
 ·simp only[k,decide_false,cond_false,fz,hY,bne_self_eq_false,cr];exact⟨_,_,rfl,by grind⟩
end
end Go.Abs.N
namespace Go.Abs
open Go.Proofs Go.Sort
section
local instance:Dr:= ⟨false⟩
@[reducible] def iT:Ty:= .aF (.aH (.aF .aJ (.ay .i64))) (.aH (.aF (.ay .i64) (.ay .i64)))
abbrev eU:=(List ((List UInt8)×Int))×(List (Int×Int))
def sl(a:aU):fX:= ⟨[],true,.v a⟩
def xa(e:eU)(num:Int)(x:bS):au:={N:=29,d:= [],a:= [(2,sl (.gB iT e)),(3,sl (.gB (.ay .i64) num)),(5,sl (.gB dW x)),(6,sl (.dx 29 0 0))],b:= [(29,(0,.eu (.aH bq) [.js]))],c:= [0,1,2,3,4,5,6,7,8,9,10,11,12]}
def Gf:Exit->au->Option (List bA)
 | .normal,st=>match Map.av st.a 6,Map.av st.b 29 with
  |some ⟨[],true,.v (.dx 29 ver 0)⟩,some (cv,.eu (.aH t) [.dj id v2])=>bif eQ ver cv then(match Map.av st.b id with|some (a,.c8 e l)=>bif eQ v2 a&&!eQ id 29 then gN (t:= .aH e) (t':= .aH bq) l else none|_=>none)else none|_,_=>none
 |_,_=>none
def Rz(n:Nat):Ev (List bA):=qX (R:=List bA) (N.qH n) (.aF (.ay .i64) (.ay .i64)) dW (vp (lp Go.Rs.w5 0)) N.Ac N.BV (N.ui n)
def IS(n:Nat):Exit->au->Option (List bA)
 | .normal,st=>bif ot st.c [0,1,2,3,4,5,6,7,8,9,10,11,12]&&eQ st.N 29 then Rz n {N:=st.N,d:=st.d,a:=st.a,b:=st.b,c:= []} Gf else none
 |_,_=>none
theorem acK:Go.Rs.w5= .seq (Go.Rs.gY Go.Rs.w5) (.block 2 (lp Go.Rs.w5 0)):=by kernel_rfl
theorem af5(n)(a)(num)(x):dv (R:=List bA) (N.qH n) (bT.b (R:=List bA)) (Go.Rs.gY Go.Rs.w5) [] (xa a num x) (IS n)=N.xD n a num x:=by kernel_rfl
def afX:Code->Bool| .region _ _ _=>true|_=>false
theorem adR{P R}{H:bT R}{i c}(h:afX c=true):nN P H i c []:=by cases c<;>first| (cases h;done)|trivial
theorem Mo{c b}(h:dB (.pointer (some ⟨c,0,none⟩)) b):c=b:=by grind[oi]
theorem hR5(X:Go.Rs.FS)(n):qp X.Q (N.qH n) [.aF (.ay .i64) (.ay .i64),dW] [16,17] (vv (lp Go.Rs.w5 0)) (wQ (lp Go.Rs.w5 0)) [] [] N.Ac [3,5,6,15] N.BV (N.ui n) where
 c:=rfl
 g:=by decide
 e:=rfl
 f:=λ x d=>by trivial
 a:=ji (N.xm X n) X.b _ _ (my trivial)
 b:=ji (N.xm X n) X.b _ _ (my trivial)
 h:=N.OC n
structure RI(P:hq)(v:ee)(ok:Nat->Prop)(a:hG)(m:eU)(num:Int)(x:bS)(c:Nat):Prop where
 f:a.tmps.size=29
 d:a.defers= []
 j:∃p,a.tmps[2]?=some p/\kQ P v ok iT p m
 l:∃p,a.tmps[3]?=some p/\kQ P v ok (.ay .i64) p num
 k:∃p,a.tmps[5]?=some p/\kQ P v ok dW p x
 h:a.tmps[6]?=some (.pointer (some ⟨c,0,none⟩))
 g:∃T,v.heap[c]?=some (.cells #[.slice none 0 0] T (0,0))
 e:¬ok c
 i:∀b,ok b->b<v.heap.size
def xe(w:ee)(n0:Nat)(own:df)(l:List bA):=(own= .slice none 0 0/\l= [])\/∃b off cap cs T,own= .slice (some ⟨b,off,none⟩) l.length cap/\n0<=b/\w.heap[b]?=some (.cells cs T (0,0))/\∀i x,l[i]?=some x->aS cs.toList (off+i*27) 27=aX bq x
structure O5(v:ee)(a:hG)(c:Nat)(l:List bA)(a':hG)(w':ee):Prop where
 f:∀s,s<13->a'.tmps[s]?=a.tmps[s]?
 g:a'.tmps.size=29
 b:∀d∈a'.defers,∃D,d={target:= .collected D,args:= #[]}/\w'.heap[D]?=some (.deferred (some []))/\v.heap.size<=D
 e:a'.defers.Nodup
 h:∃h T,w'.heap[c]?=some (.cells #[h] T (0,0))/\xe w' v.heap.size h l
theorem Yi(X:Go.Rs.FS){n:Nat}{v:ee}{ok:Nat->Prop}{a:hG}{J:eU}{num:Int}{x:bS}{c:Nat}{l:List bA}(h:RI X.Q v ok a J num x c)(Y:N.xD n J num x=some l):
 Go.Rs.w5.wp X.Q (λ e a' w'=>e= .normal/\O5 v a c l a' w') a v:=by
 have bo:c<v.heap.size:=by have⟨T,hT⟩:=h.g;grind
 let K:bC:= ⟨v,λ b=>ok b\/b=c\/v.heap.size<=b,λ b=>b=c,[],a.tmps,0,v.heap.size⟩
 let conc:bf:= ⟨λ id=>if id=29 then some (0,.pointer (some ⟨c,0,none⟩),true)else none,K.B,0⟩
 have O:∀id ver u af,conc id=some (ver,u,af)->id=29/\ver=0/\u= .pointer (some ⟨c,0,none⟩)/\af=true:=λ id ver u af F=>by
  grind
 have aq:∀b,ok b->ae conc b:=λ b A=> ⟨.inl A,λ id ver u F aM=>by
  obtain⟨_,_,rfl,_⟩:=O id ver u true F;obtain rfl:=Mo aM;exact h.e A⟩
 have aL:sQ K:= ⟨λ b A=> .inr (.inr A),λ b A=> .inr (.inl A),λ d z=>(by trivial),hZ,et _⟩;have ac:∀(t:Ty)(p:df)(d:t.b),kQ X.Q v ok t p d->bN X.Q v conc (ae conc) (.gB t d) p:=λ t p d⟨b,off,cs,T,fr,e1,G,P,Q,aE⟩=>
  ⟨b,off,cs,T,fr,e1,aq b G,P,Q,aE.b t ⟨et _,λ _ _ _=>rfl⟩ λ b A _=>aq b A⟩
 have an:∀d E,Map.av (xa J num x).a d=some E->(d=2/\E=sl (.gB iT J))\/(d=3/\E=sl (.gB (.ay .i64) num))\/(d=5/\E=sl (.gB dW x))\/(d=6/\E=sl (.dx 29 0 0)):=λ d E z=>by
  grind[xa,Map.av,gF]
 have aS:aD X.Q K conc (xa J num x) a v:={
  g:=h.d
  n:=h.f
  m:=λ d E z p hp=>by
   rcases an d E z with⟨_,rfl⟩| ⟨_,rfl⟩| ⟨_,rfl⟩| ⟨_,rfl⟩<;>cases hp
  k:=λ d E z=>by
   rcases an d E z with⟨rfl,rfl⟩| ⟨rfl,rfl⟩| ⟨rfl,rfl⟩| ⟨rfl,rfl⟩
   ·have⟨p,e1,G⟩:=h.j;exact⟨p,e1,λ _=> ⟨rfl,ac _ _ _ G⟩,absurd (cG _)⟩
   ·have⟨p,e1,G⟩:=h.l;exact⟨p,e1,λ _=> ⟨rfl,ac _ _ _ G⟩,absurd (cG _)⟩
   ·have⟨p,e1,G⟩:=h.k;exact⟨p,e1,λ _=> ⟨rfl,ac _ _ _ G⟩,absurd (cG _)⟩
   ·exact⟨_,h.h,λ _=> ⟨rfl,0,_,_,rfl,et _,rfl,by grind⟩,absurd (cG _)⟩
  q:=λ id ver o z=>by
   simp only[xa,Map.av,gF]at z;by_cases W:29=id
   ·subst W;simp at z;have⟨rfl,rfl⟩:=z;have⟨T,hT⟩:=h.g;exact⟨_,_,rfl,rfl,c,_,T,rfl,hT,rfl,λ v av=>by simp at av;subst av;rfl,by trivial⟩
   grind
  r:=λ id z=>by
   grind[xa,Map.av,gF]
  t:=λ i j ax a8 u a7 b aj aH _ _=>(O i ax u true aj).1.trans (O j a8 a7 true aH).1.symm
  f:=λ i ax u b aj A=>by
   grind[Mo]
  e:= ⟨rfl,rfl,⟨rfl,λ _=>et _⟩,et _,λ _ _ _=>rfl⟩
  u:=rfl
  x:=rfl
  h:=aL
  l:=λ _ _=>rfl}
 have al:oB X.Q (bT.b (R:=List bA)) false (λ s b=>b=l/\jz K s):={
  d:=λ s s' b A Y=> ⟨A.1,A.2.f Y.h⟩
  c:=λ h=>absurd rfl h
  g:=λ _ _=> ⟨K,l,λ _ _=>Iff.rfl⟩
  f:=λ h=>absurd rfl h}
 rw[<-wpIn_wide (n:=7),acK];refine wpIn_seq (wpIn_mono (ji (N.xm X n) X.b (Go.Rs.gY Go.Rs.w5) [] (adR (by kernel_rfl)) none rfl _ al _ _ _ _ _ _ ((af5 n J num x).trans Y) ⟨conc,aS⟩ ⟨rfl,jz.k _⟩) ?_);rintro e aA w1⟨a6,ag,C,⟨conc1,ab⟩,⟨rfl,ap⟩,ao⟩;cases e with
 |normal=>
  have ao:IS n .normal C=some ag:=ao;obtain⟨aP,aK,aR⟩:C.c= [0,1,2,3,4,5,6,7,8,9,10,11,12]/\C.N=29/\Rz n {N:=C.N,d:=C.d,a:=C.a,b:=C.b,c:= []} Gf=some ag:=by
   grind[IS,ot,eQ,EW,cU]
  have aT:aD X.Q a6 conc1 {N:=C.N,d:=C.d,a:=C.a,b:=C.b,c:= []} aA w1:=
   {ab with l:=λ _ aV=>by trivial}
  refine wpIn_block ?_;have br:=Nk (p:=16) (q:=17) (w:=lp Go.Rs.w5 0) (by kernel_rfl);refine wpIn_mono (Pv (N.xm X n) (H:=bT.b (R:=List bA)) rfl (hR5 X n) _ rfl _ al _ _ _ _ _ _ aR ⟨_,aT⟩ ⟨rfl,ap⟩) ?_;rintro e a' w'⟨⟨s',ba,st',⟨ah,B⟩,⟨rfl,Z⟩,I⟩,ar⟩;cases e with
  |normal=>
   refine⟨rfl,?_⟩;have au:∀s,s<13->a'.tmps[s]?=a.tmps[s]?:=λ s aV=>by
    rw[ar,ab.l s (by rw[aP];simp;omega),ap.m]
   simp only[Gf]at I;split at I
   ·rename_i ver cv t id v2 aW aI;cases am:eQ ver cv with
    |false=>grind
    |true=>
     rw[am]at I;simp only[cond_true]at I;have aY:=cU am;subst aY;split at I
     ·rename_i aC e l0 aN;cases V:(eQ v2 aC&&!eQ id 29)with
      |false=>grind
      |true=>
       rw[V]at I;simp only[cond_true]at I;simp only[en,ht]at V;have aX:=cU V.1;subst aX;have W:id≠29:=λ e=>by grind
       have⟨bp,aa⟩:=kC I;have aO:e=bq:=by grind
       subst aO;have aa:_=l0:=aa;subst aa;have⟨v6,ai,aG⟩:=B.k 6 _ aW;have⟨bj,be,bt,k1,_,_,aZ⟩:=(aG.b (cG _)).2;have⟨bg,bu,m1,m2⟩:=B.q 29 _ _ aI;rw[k1]at m1;cases m1;have⟨bc,a2,a3⟩:=aZ rfl;rw[au 6 (by omega),h.h,a3]at ai;cases ai;subst a2;obtain⟨rfl,bd,cs,T,a4,a5,bz,bB,M⟩:=m2;cases a4;obtain⟨own,bs,a9⟩:∃own,cs.toList= [own]/\bN X.Q w' ah (ae ah) (.dj id v2) own:=by
        cases L:cs.toList with
        |nil=>rw[L]at M;trivial
        |cons o r=>
         rw[L]at M;cases r with
         |nil=>exact⟨o,rfl,M.1⟩
         |cons _ _=>exact M.2.elim
       obtain⟨bk,bh,bv,ad,_,_,a0⟩:=a9;obtain⟨bi,bw,aw,p2⟩:=B.q id _ _ aN;rw[ad]at aw;cases aw;have aU:=a0 rfl;subst aU;obtain⟨rfl,p3⟩:=p2;have L:cs= #[own]:=by
        grind
       subst L;refine⟨au,by rw[ar,ab.n,aK],λ d z=>?_,by rw[B.g];exact B.h.h,own,T,a5,?_⟩
       ·rw[B.g]at z;obtain⟨D,e1,G,P,Q⟩:=B.h.f d z;refine⟨D,e1,?_,?_⟩
        ·rw[B.e.e D (by grind) λ aJ=>P (B.h.e D aJ)];omega
        ·rw[Z.h]at Q;omega
       ·rcases p3 with⟨S,U⟩| ⟨b,off,cap,aB,az,S,U,bl,bm,bn,aF⟩
        ·exact .inl ⟨S,U⟩
        ·refine .inr ⟨b,off,cap,aB,az,S,?_,U,λ i y aQ=>?_⟩
         ·have ak:dB own b:=by grind[oi]
          rcases(B.f id _ _ b ad ak).1 with F|F
          ·exact gw Z.d F
          ·rcases Z.M b F with F|F
           ·exfalso;obtain rfl:b=_:=F;exact W (B.t _ _ _ _ _ _ _ ad k1 ak rfl)
           omega
         ·have:=aF i y aQ;exact(kJ _ rfl y _).1 this
     trivial
   trivial
  |_=>trivial
 |_=>trivial
end
def Jp:Go.Shelf.Ren:= ⟨λ|6=>166|15=>152|14=>205|28=>178|29=>179|20=>223|21=>224|22=>225|23=>226|24=>227|25=>228|26=>229|27=>230|46=>235|47=>209|48=>210|49=>236|50=>237|57=>238|n=>n,λ|22=>228|24=>231|25=>257|3=>3|39=>237|0=>0|53=>250|55=>247|4=>4|46=>260|45=>259|50=>265|5=>5|9=>9|66=>291|70=>294|76=>311|77=>72|n=>n,λ|n=>n⟩
theorem R8(X:Go.Rs.FS):hJ X.Q Jp:={
 mixed:=X.b
 f6:= ⟨Go.Proofs.Tryz.f166.name,by decide,(X.a fb (by kernel_rfl) (by decide)).trans (congrArg some (by kernel_rfl))⟩
 f14:= ⟨Go.Proofs.Tryz.f205.name,by decide,(X.a lk (by kernel_rfl) (by decide)).trans (congrArg some (by kernel_rfl))⟩
 f15:=(X.a k7 (by kernel_rfl) (by decide)).trans (congrArg some (by kernel_rfl))
 f20:= ⟨Go.Proofs.Tryz.f223.name,by decide,(X.a mn (by kernel_rfl) (by decide)).trans (congrArg some (by kernel_rfl))⟩
 f21:= ⟨Go.Proofs.Tryz.f224.name,by decide,(X.a k8 (by kernel_rfl) (by decide)).trans (congrArg some (by kernel_rfl))⟩
 f22:= ⟨Go.Proofs.Tryz.f225.name,by decide,(X.a lA (by kernel_rfl) (by decide)).trans (congrArg some (by kernel_rfl))⟩
 f23:= ⟨Go.Proofs.Tryz.f226.name,by decide,(X.a ma (by kernel_rfl) (by decide)).trans (congrArg some (by kernel_rfl))⟩
 f24:= ⟨Go.Proofs.Tryz.f227.name,by decide,(X.a mo (by kernel_rfl) (by decide)).trans (congrArg some (by kernel_rfl))⟩
 f25:= ⟨Go.Proofs.Tryz.f228.name,by decide,(X.a lb (by kernel_rfl) (by decide)).trans (congrArg some (by kernel_rfl))⟩
 f26:= ⟨Go.Proofs.Tryz.f229.name,by decide,(X.a lB (by kernel_rfl) (by decide)).trans (congrArg some (by kernel_rfl))⟩
 f27:= ⟨Go.Proofs.Tryz.f230.name,by decide,(X.a mb (by kernel_rfl) (by decide)).trans (congrArg some (by kernel_rfl))⟩
 f28:=(X.a l8 (by kernel_rfl) (by decide)).trans (congrArg some (by kernel_rfl))
 f29:=(X.a mm (by kernel_rfl) (by decide)).trans (congrArg some (by kernel_rfl))
 f46:= ⟨Go.Proofs.Tryz.f235.name,by decide,(X.a mr (by kernel_rfl) (by decide)).trans (congrArg some (by kernel_rfl))⟩
 f47:=(X.a lv (by kernel_rfl) (by decide)).trans (congrArg some (by kernel_rfl))
 f48:=(X.a l9 (by kernel_rfl) (by decide)).trans (congrArg some (by kernel_rfl))
 f49:= ⟨Go.Proofs.Tryz.f236.name,by decide,(X.a lf (by kernel_rfl) (by decide)).trans (congrArg some (by kernel_rfl))⟩
 f50:= ⟨Go.Proofs.Tryz.f237.name,by decide,(X.a l7 (by kernel_rfl) (by decide)).trans (congrArg some (by kernel_rfl))⟩
 f57:= ⟨Go.Proofs.Tryz.f238.name,by decide,(X.a ml (by kernel_rfl) (by decide)).trans (congrArg some (by kernel_rfl))⟩
 t0:=by kernel_rfl
 a0:=λ w=>by kernel_rfl
 z0:=λ w=>by kernel_rfl
 v0:=λ w=>by kernel_rfl
 t3:=by kernel_rfl
 a3:=λ w=>by kernel_rfl
 z3:=λ w=>by kernel_rfl
 v3:=λ w=>by kernel_rfl
 t4:=by kernel_rfl
 a4:=λ w=>by kernel_rfl
 z4:=λ w=>by kernel_rfl
 v4:=λ w=>by kernel_rfl
 t5:=by kernel_rfl
 a5:=λ w=>by kernel_rfl
 z5:=λ w=>by kernel_rfl
 v5:=λ w=>by kernel_rfl
 t9:=by kernel_rfl
 a9:=λ w=>by kernel_rfl
 z9:=λ w=>by kernel_rfl
 v9:=λ w=>by kernel_rfl
 t22:=by kernel_rfl
 a22:=λ w=>by kernel_rfl
 z22:=λ w=>by kernel_rfl
 v22:=λ w=>by kernel_rfl
 t25:=by kernel_rfl
 a25:=λ w=>by kernel_rfl
 z25:=λ w=>by kernel_rfl
 v25:=λ w=>by kernel_rfl
 t39:=by kernel_rfl
 a39:=λ w=>by kernel_rfl
 z39:=λ w=>by kernel_rfl
 v39:=λ w=>by kernel_rfl
 t45:=by kernel_rfl
 a45:=λ w=>by kernel_rfl
 z45:=λ w=>by kernel_rfl
 v45:=λ w=>by kernel_rfl
 t46:=by kernel_rfl
 a46:=λ w=>by kernel_rfl
 z46:=λ w=>by kernel_rfl
 v46:=λ w=>by kernel_rfl
 t50:=by kernel_rfl
 a50:=λ w=>by kernel_rfl
 z50:=λ w=>by kernel_rfl
 v50:=λ w=>by kernel_rfl
 t53:=by kernel_rfl
 a53:=λ w=>by kernel_rfl
 z53:=λ w=>by kernel_rfl
 v53:=λ w=>by kernel_rfl
 t55:=by kernel_rfl
 a55:=λ w=>by kernel_rfl
 z55:=λ w=>by kernel_rfl
 v55:=λ w=>by kernel_rfl
 t66:=by kernel_rfl
 a66:=λ w=>by kernel_rfl
 z66:=λ w=>by kernel_rfl
 v66:=λ w=>by kernel_rfl
 t70:=by kernel_rfl
 a70:=λ w=>by kernel_rfl
 z70:=λ w=>by kernel_rfl
 v70:=λ w=>by kernel_rfl
 t76:=by kernel_rfl
 a76:=λ w=>by kernel_rfl
 z76:=λ w=>by kernel_rfl
 v76:=λ w=>by kernel_rfl
 t77:=by kernel_rfl
 a77:=λ w=>by kernel_rfl
 z77:=λ w=>by kernel_rfl
 v77:=λ w=>by kernel_rfl}
theorem YG(X:Go.Rs.FS)(args)(w):(callFunc 167 args).run X.Q w= .ok (.enter 167 args) w:=by exact Go.Proofs.enters_of (c:=Go.Proofs.Tryz.f167.body.getD .skip) (X.a eV (by kernel_rfl) (by decide)) (by kernel_rfl) (by kernel_rfl) args w
theorem Rv(X:Go.Rs.FS)(blk off cap)(d:Array bA)(w)(b:HoldsK (aX bq) 27 w blk off d)(c:blk<w.heap.size)(f:d.size<4611686018427387904):Calls X.Q 166 #[.slice (some ⟨blk,off,none⟩) d.size cap,.func (.func 167) #[] #[]] w λ e w'=>e= .returned (.tuple #[])/\∃a n os,PermIn 0 d.size d a/\SortedIn (hv dJ) 0 d.size a/\w'=gl (aX bq) 27 w blk off n a os:=AnyQ.slices_SortFunc (ρ:=Jp) (R8 X) 27 (λ w=>by kernel_rfl) (λ w=>by kernel_rfl) (aX bq) (λ x=>mz bq rfl x) (λ x=>AW bq x) dJ acu 167 #[] blk off cap d w (YG X) (YL X blk off d.size w) b c f
theorem QJ(X:Go.Rs.FS)(p)(cap)(w):Calls X.Q 166 #[.slice p 0 cap,.func (.func 167) #[] #[]] w λ e w'=>e= .returned (.tuple #[])/\w'=w:=AnyF.slices_SortFunc_none (ρ:=Jp) (R8 X) p _ _ w
end Go.Abs
namespace Go.Rs
open Go.Conc Go.Proofs Go.Sort
section
local instance:Abs.Dr:= ⟨false⟩
open Go.Abs (bS bA eU dW bq iT aX)
variable {r:Nat} {cs:Array df} {ty:TypeId} {fr:Nat×Nat}
def lS(a:Array Obj)(b off cap:Nat)(t:Abs.Ty)(l:List t.b):Prop:=
 ∃cs T fr,a[b]?=some (.cells cs T fr)/\off+cap*t.a<=cs.size/\cap<=gu/\∀(i:Nat)(x:t.b),l[i]?=some x->Abs.aS cs.toList (off+i*t.a) t.a=aX t x
def mH(e:Array Obj)(d:Nat->Prop)(v:df)(t:Abs.Ty)(l:List t.b):Prop:=∃a c,v= .slice a l.length c/\l.length<=c/\(c=0\/∃b o,a=some ⟨b,o,none⟩/\d b/\lS e b o c t l)
theorem mH.map{f g:Array Obj}{d e:Nat->Prop}{v:df}{t:Abs.Ty}{l:List t.b}(h:mH f d v t l)(k:∀b cs T fr,d b->f[b]?=some (.cells cs T fr)->e b/\g[b]?=some (.cells cs T fr)):mH g e v t l:=
 let⟨a,c,i,j,m⟩:=h; ⟨a,c,i,j,m.imp id λ⟨b,o,k1,_,cs,T,fr,_,n⟩=> ⟨b,o,k1,by grind,_,T,fr,by grind,n⟩⟩
@[reducible] def DW:Abs.Ty:= .aF .aJ (.ay .i64)
@[reducible] def CU:Abs.Ty:= .aF (.ay .i64) (.ay .i64)
structure Nr(b:Array Obj)(a:Nat->Prop)(d:df)(c:eU)(vv vh:df):Prop where
 e:∃l,d= .agg ((vv::vh::l).toArray)
 g:mH b a vv DW c.1
 h:mH b a vh CU c.2
def eP(x:bS):Value:= .agg (aX dW x).toArray
section
variable[aW]
open Classical in
def nP[Gl](S:Nat->Prop)(y:df):Value:=match y with
 | .int k n=> .int k n
 | .string s=> .string s
 | .bool b=> .bool b
 | .slice none n c=> .slice none n c
 | .slice (some ad) n c=>if S ad.block then .slice (some ad) n c else if n=0/\c=0 then .slice (some r9) 0 0 else shV (.slice (some ad) n c)
 |y=>shV y
theorem Yy[Gl]{S β}(h:∀b,S b->β b b)(y):VR β (nP S y) y:=by
 unfold nP;split;exact .cx _ _;exact .eI _;exact .fY _;exact .dz (a:=none) (a':=none) trivial _ _
 ·split;exact .dz (a:=some _) (a':=some _) ⟨h _ ‹_›,rfl,rfl⟩ _ _
  ·split;rename_i c;obtain⟨rfl,rfl⟩:=c;exact .ez _;exact vz _ _
 ·exact vz _ _
theorem amG[Gl]{S:Nat->Prop}{ad:Addr}{n c:Nat}(h:S ad.block):nP S (.slice (some ad) n c)= .slice (some ad) n c:=by simp[nP,h]
theorem aoE[Gl]{S:Nat->Prop}(a:Option Addr):∃a',nP S (.slice a 0 0)= .slice a' 0 0:=by
 cases a with
 |none=>exact⟨_,rfl⟩
 |some ad=>
  by_cases h:S ad.block
  all_goals simp_all[amG,r9,nP]
def fg(w:ee)(Bs:List Nat)(c:Nat)(own:Array df):pO:=λ r=>
 if r=c then some (own,false)else if r∈Bs then(match w.heap[r]? with|some (.cells cs _ _)=>some (cs.map (nP (·∈Bs)),true)|_=>none)else none
variable{w:ee}{Bs:List Nat}{c:Nat}{own:Array df}{p:ai}
theorem BK:fg w Bs c own c=some (own,false):=by simp[fg]
theorem IB(b:r∈Bs)(a:r≠c)(h:w.heap[r]?=some (.cells cs ty fr)):fg w Bs c own r=some (cs.map (nP (·∈Bs)),true):=by grind[fg]
theorem AH{q}(h:fg w Bs c own r=some q):(r=c/\q=(own,false))\/(r≠c/\r∈Bs/\∃cs ty fr,w.heap[r]?=some (.cells cs ty fr)/\q=(cs.map (nP (·∈Bs)),true)):=by grind[fg]
theorem NI(l:∀r∈Bs,r≠c/\p.a r/\∃cs ty fr,w.heap[r]?=some (.cells cs ty fr))(o:p.a c/\p.b c)(m:aW.n<=w.heap.size)
 (q:∃cs ty fr,w.heap[c]?=some (.cells cs ty fr)/\∀β:ah,(∀b∈Bs,β b b)->AV β own cs):wo (fg w Bs c own) p w:=by
 have n:∀b∈Bs,jI (fg w Bs c own) b b:=λ b j=>by
  obtain⟨a,_,cs,ty,fr,d⟩:=l b j;exact⟨rfl,by rw[IB j a d];rfl⟩
 refine⟨λ r cs k h=>?_,λ r cs k h=>?_,m⟩
 ·rcases AH h with⟨rfl,e⟩| ⟨a,d,i⟩
  all_goals grind
 ·rcases AH h with⟨rfl,e⟩| ⟨a,d,cs',ty,fr,i,e⟩
  ·grind
  ·cases e;refine⟨_,_,_,i,?_⟩;have:=AV.j (β:=jI (fg w Bs c own)) cs' (f:=nP (·∈Bs)) (g:=id) λ v _=>Yy n v;simp_all
theorem E3[Gl]{S}:(t:Abs.Ty)->(d:t.b)->(aX t d).map (nP S)=aX t d| .ay _,_=>rfl| .aO,_=>rfl| .aJ,_=>rfl| .aF a b,(x,y)=>by simp[aX,hN];rw[E3 a x,E3 b y]| .aH _,_| .dP _ _,_| .dX _ _,_| .cO _ _,_| .ec _,_=>rfl
theorem Iy{f}(l)(i n):Abs.aS (l.map f) i n=(Abs.aS l i n).map f:=by grind[Abs.aS,List.map_take,List.map_drop]
theorem BU(b:r∈Bs)(a:r≠c)(h:w.heap[r]?=some (.cells cs ty fr)):(jD w (fg w Bs c own)).heap[r]?=some (.cells (cs.map (nP (·∈Bs))) ty (0,cs.size)):=by rw[ES h,IB b a h];simp[AE]
theorem SY(h:w.heap[c]?=some (.cells cs ty fr)):(jD w (fg w Bs c own)).heap[c]?=some (.cells own ty fr):=by rw[ES h,BK];rfl
theorem amJ{P:hq}{v:ee}{ok:Nat->Prop}{t:Abs.Ty}{l:List t.b}{x:df}(p:t.h=true)(j:v.heap=(jD w (fg w Bs c own)).heap)(f:∀r∈Bs,r≠c/\ok r)(h:mH w.heap (·∈Bs) x t l):
 Abs.aw P (.aH t) v ok [nP (·∈Bs) x] l:=by
 obtain⟨a,n,rfl,d,g⟩:=h;rcases g with rfl| ⟨b,o,rfl,k1,cs,T,fr,k,s,m,u⟩
 ·have h0:l.length=0:=by omega
  obtain⟨a',e⟩:=aoE (S:=(·∈Bs)) a;rw[h0,e];exact⟨_,0,by rw[h0],d,.inl rfl⟩
 ·rw[amG (S:=(·∈Bs)) (ad:= ⟨b,o,_⟩) k1];refine⟨_,n,rfl,d,.inr ⟨b,o,_,T,_,rfl,(f b k1).2,by rw[j];exact BU k1 (f b k1).1 k,by grind,.inr m,λ i y q=>?_⟩⟩
  grind[hy,Iy,E3,Abs.kJ]
end
end
section
local instance:Abs.Dr:= ⟨false⟩
open Go.Abs (bS bA eU dW bq iT aX)
variable {α:Type} {k:Nat} {f:α->List df}
structure MF(D:RD)(j:eU)(num:Int)(S:bS->List bA)(n:Nat)(vv vh:df):Prop where
 d:∀a,D.d a->a<D.e.heap.size
 c:TP.globals.size<=D.A.f
 i:D.d D.A.f/\∃ty fr,D.e.heap[D.A.f]?=some (.cells D.A.g.cells ty fr)
 h:D.d D.A.i/\∃ty fr,D.e.heap[D.A.i]?=some (.cells D.A.h.cells ty fr)
 g:D.A.h= .int .i64 num
 b:Nr D.e.heap D.d D.A.g j vv vh
 e:∀x∈D.c,∃f,x=eP f/\Abs.N.xD n j num f=some (S f)/\D.b x=(S f).flatMap (aX bq)
def F8(A:Ar)(r:Nat)(y:df):=(r=1/\y=aQ A.e)\/(r=4/\y=aQ A.d)\/(r=9/\y=cX A.b)
theorem Ck(A):∀r a b,F8 A r a->F8 A r b->a=b:=by rintro r a b(⟨e,h⟩| ⟨e,h⟩| ⟨e,h⟩)(⟨d,c⟩| ⟨d,c⟩| ⟨d,c⟩)<;>first|omega| (rw[h,c])
section
variable(A:Ar)
def vU(b c:Nat)[aW](i:Nat)(y:df):Value:=
 if i=1 then .chan (some 1)else if i=2 then aQ A.f else if i=3 then aQ A.i else if i=4 then .chan (some 4)else if i=5 then aQ b else if i=6 then aQ c else if i=9 then .chan (some 9)else shV y
end
theorem ag6{A}{ys:Array df}(d:ys.size=29)(h1:ys[1]?=some (aQ A.e))(h2:ys[2]?=some (aQ A.f))(h3:ys[3]?=some (aQ A.i))(h4:ys[4]?=some (aQ A.d))(h9:ys[9]?=some (cX A.b)):
 ∃f:Nat->df,ys= ⟨wF A f⟩/\∀i,f i=ys.getD i undef:=by
 refine⟨_,?_,λ i=>rfl⟩;apply Array.ext
 ·trivial
 ·intro i h b;have c:i<29:=by omega
  have e:∀j,j<29->ys.getD j nc=ys[j]!:=λ j a=>by simp_all
  have g:∀j(a:j<ys.size),ys.getD j nc=ys[j]:=λ j a=>by grind
  have k:∀j(a:j<ys.size)v,ys[j]?=some v->ys[j]=v:=λ j a v l=>by
   grind
  have:i=0\/i=1\/i=2\/i=3\/i=4\/i=5\/i=6\/i=7\/i=8\/i=9\/i=10\/i=11\/i=12\/i=13\/i=14\/i=15\/i=16\/i=17\/i=18\/i=19\/i=20\/i=21\/i=22\/i=23\/i=24\/i=25\/i=26\/i=27\/i=28:=by omega
  rcases this with rfl|rfl|rfl|rfl|rfl|rfl|rfl|rfl|rfl|rfl|rfl|rfl|rfl|rfl|rfl|rfl|rfl|rfl|rfl|rfl|rfl|rfl|rfl|rfl|rfl|rfl|rfl|rfl|rfl<;>
   first
   |exact(g _ h).symm
   |exact k _ h _ ‹_›
theorem Uk:cK TP TP 30 w5=true:=by kernel_rfl
theorem uE{l:List α}(h:∀x,(f x).length=k):(l.flatMap f).length=l.length*k:=by induction l with|nil=>simp|cons a l b=>grind
theorem tq(h:∀x,(f x).length=k):∀(l:List α) i j x,l[i]?=some x->j<k->(l.flatMap f)[i*k+j]?=(f x)[j]?
 | [],i,j,x,b,_=>by trivial|a::l,0,j,x,b,hj=>by grind|a::l,i+1,j,x,b,hj=>by rw[hz,List.getElem?_append_right (by grind),h,show(i+1)*k+j- k=i*k+j from by grind];exact tq h l i j x (by grind) hj
theorem Kd{l i n j r}(h:Abs.aS l i n=r)(a:j<r.length):l[i+j]?=r[j]?:=by grind[Abs.aS]
end
section
local instance:Abs.Dr:= ⟨false⟩
open Go.Abs (bS bA eU dW bq iT aX)
section
variable[aW]
variable {β:ah} {y:df} {r:Nat}
theorem IJ(h:VR β (aQ r) y)(d:β r r):y=aQ r:=by cases h with|dc h=>rename_i a';cases a' with|none=>trivial|some a'=>have⟨a,b,c⟩:=h;have⟨blk,off,e⟩:=a';simp at a b c;rw[<-b,<-c,β.f r _ _ a d];rfl
theorem Ii(h:VR β (.chan (some r)) y):aW.e r y:=by cases h with|gW h hp=>exact h
theorem CI{a:Option Addr}{n c:Nat}(h:VR β (.slice a n c) y)(b:a≠some r9:=by simp[r9]):∃a',y= .slice a' n c/\AO β a a':=by
 cases h with
 |dz h=>exact⟨_,rfl,h⟩
 |ez a'=>exact absurd rfl b
theorem Se:∀{d b:List Deferred},DL β d b->(∀x∈d,∃D,x=pZ D)->d.Nodup->∃a:List Nat,b=a.map pZ/\a.Nodup/\∀r∈a,∃D,pZ D∈d/\β D r
 | [],[],_,_,_=> ⟨[],rfl,hZ,λ r h=>by cases h⟩| [],_::_,h,_,_=>h.elim|_::_,[],h,_,_=>h.elim|x::d,y::b,h,hx,hn=>by obtain⟨D,rfl⟩:=hx x (by simp);rw[hQ]at hn;have⟨a,f,g,i⟩:=Se h.2 (λ x c=>hx x (gE _ c)) hn.2;have⟨o,args⟩:=y;have⟨k,l⟩:=h.1;cases o with
  |collected r=>
   have n:β D r:=k;have m:args= #[]:=Array.eq_empty_of_size_eq_zero l.1.symm;subst m;refine⟨r::a,by rw[f];rfl,?_,λ r' q=>?_⟩
   rw[hQ];refine⟨λ c=>?_,g⟩;obtain⟨e,p,j⟩:=i r c;obtain rfl:=β.e e D r j n
   grind;grind|_=>trivial
end
theorem De[aW][Gl]{β}:{t:Abs.Ty}->{d:t.b}->{u e:df}->u∈aX t d->VR β u e->e=u| .ay _,_,u,e,h,c=>by simp[aX]at h;subst h;cases c;rfl| .aO,_,u,e,h,c=>by simp[aX]at h;subst h;cases c;rfl| .aJ,_,u,e,h,c=>by simp[aX]at h;subst h;cases c;rfl| .aF a b,(x,y),u,e,h,c=>by simp[aX,eo]at h;exact h.elim (λ h=>De h c) λ h=>De h c| .aH _,_,_,_,h,_| .dP _ _,_,_,_,h,_| .dX _ _,_,_,_,h,_| .cO _ _,_,_,_,h,_| .ec _,_,_,_,h,_=>by cases h
theorem acv{D:RD}{bB:eU}{num:Int}{S:bS->List bA}{n:Nat}{vv vh:df}(K:MF D bB num S n vv vh){x:df}(av:x∈D.c)(f:Nat->df)(N:List Nat)(b c:Nat)(p:ai)(w:ee)
 (V:D.gn p) (aI:D.dU w) (aF:RD.gZ N p w) (aZ:b≠c) (cq:p.a b) (aH:p.a c) (bj:p.b c) (L:∃ty,w.heap[b]?=some (.cells x.cells ty (0,0))) (aB:w.heap[c]?=some (.cells #[zR] 228 (0,0))):
 bG TP false p (WP D.A f N x b c) w (D.GZ x):=by
 letI base:aW:=oT (F8 D.A) (Ck D.A)
 obtain⟨G,rfl,b7,aD⟩:=K.e x av;have ao:∀a,D.d a->a<w.heap.size:=λ a F=>by
  have s:=aI a F;rw[dk (K.d a F)]at s;exact(dr.1 s).1
 have ab:∀a,D.d a->a≠c:=λ a h e=>(V a h).2 (e▸bj);have aS:∀{a cs ty fr},D.d a->D.e.heap[a]?=some (.cells cs ty fr)->w.heap[a]?=some (.cells cs ty fr):=λ F h=>(aI _ F).trans h;obtain⟨ap,c5,cV,bU⟩:=K.i;obtain⟨aA,c4,cU,bT⟩:=K.h;have ak:=K.b;obtain⟨c3,aY⟩:=L;have bE:=aS ap bU;have bD:=aS aA bT;have aV:∀{v t}{l:List (Abs.Ty.b t)},mH D.e.heap D.d v t l->∃M:List Nat,(∀r∈M,D.d r/\∃cs ty fr,w.heap[r]?=some (.cells cs ty fr))/\mH w.heap (·∈M) v t l:=λ{v t l}h=>by
  obtain⟨a,c,O,R,J⟩:=h;rcases J with J| ⟨b,o,J,am,cs,T,fr,bQ,az⟩
  ·exact⟨[],by simp,a,c,O,R,.inl J⟩
  ·have:=aS am bQ;exact⟨[b],λ r C=>by rw[hg.1 C];exact⟨am,_,_,_,this⟩,a,c,O,R,.inr ⟨b,o,J,by simp,cs,T,fr,this,az⟩⟩
 obtain⟨aO,cl,cH⟩:=aV ak.g;obtain⟨aP,cm,cG⟩:=aV ak.h
 let E:List Nat:=b::D.A.f::D.A.i::(aO++aP)
 have aN:b∈E:=by simp[E]
 have mp:D.A.f∈E:=by simp[E]
 have af:D.A.i∈E:=by simp[E]
 have U:∀r∈E,r≠c/\p.a r/\∃cs ty fr,w.heap[r]?=some (.cells cs ty fr):=λ r C=>by
  simp only[E,List.mem_cons,eo]at C;rcases C with rfl|rfl|rfl|C|C
  ·exact⟨aZ,cq,_,_,_,aY⟩
  ·exact⟨ab _ ap,(V _ ap).1,_,_,_,bE⟩
  ·exact⟨ab _ aA,(V _ aA).1,_,_,_,bD⟩
  ·obtain⟨s,B⟩:=cl r C;exact⟨ab _ s,(V _ s).1,B⟩
  ·obtain⟨s,B⟩:=cm r C;exact⟨ab _ s,(V _ s).1,B⟩
 have b6:wo (fg w E c #[zR]) p w:=NI U ⟨aH,bj⟩ (Nat.le_of_lt (Nat.lt_of_le_of_lt K.c (ao _ ap))) ⟨#[zR],228,(0,0),aB,λβ _=>AV.c (.dz (a:=none) (a':=none) trivial 0 0)⟩
 let aj:Nat->Value:=sw (sw (f3 f (eP G)) 5 (aQ b)) 6 (aQ c)
 let ys:Array Value:= ⟨wF D.A aj⟩
 let lt:Array Value:=ys.mapIdx (vU D.A b c)
 let an:Frame:=(WP D.A f N (eP G) b c).frame
 let X:cS:= ⟨[.code (.refuse "x")],.code w9::wK,[],N.map pZ++uU D.A,[gd],[zc D.A]⟩
 have b8:X.b:= ⟨rfl,rfl,rfl,λ id=>rfl,λ h=>by cases h⟩;have ay:=λ r(C:r∈E)=>(show jI (fg w E c #[zR]) r r from by
  obtain⟨s,_,cs,ty,fr,B⟩:=U r C;exact⟨rfl,by rw[IB C s B];rfl⟩)
 have bx:jI (fg w E c #[zR]) c c:= ⟨rfl,by rw[BK];rfl⟩;have b4:AV (jI (fg w E c #[zR])) lt ys:=by
  refine⟨by simp[lt],λ i v v' s B=>?_⟩;have s:(ys.mapIdx (vU D.A b c))[i]?=some v:=s;rw[ej,B]at s;simp only[hA,Option.some.injEq]at s;subst s;unfold vU;have B:(wF D.A aj)[i]?=some v':=by
   have:(⟨wF D.A aj⟩:Array df)[i]?=some v':=B;simpa using this
  by_cases bk:i=1
  ·subst bk;rw[if_pos rfl];cases B;exact .gW (.inl ⟨rfl,rfl⟩) rfl
  ·rw[if_neg bk];by_cases bl:i=2
   ·subst bl;rw[if_pos rfl];cases B;exact .dc (a:=some _) (a':=some _) ⟨ay _ mp,rfl,rfl⟩
   ·rw[if_neg bl];by_cases bm:i=3
    ·subst bm;rw[if_pos rfl];cases B;exact .dc (a:=some _) (a':=some _) ⟨ay _ af,rfl,rfl⟩
    ·rw[if_neg bm];by_cases bn:i=4
     ·subst bn;rw[if_pos rfl];cases B;exact .gW (.inr (.inl ⟨rfl,rfl⟩)) rfl
     ·rw[if_neg bn];by_cases bp:i=5
      ·subst bp;rw[if_pos rfl];cases B;exact .dc (a:=some _) (a':=some _) ⟨ay _ aN,rfl,rfl⟩
      ·rw[if_neg bp];by_cases br:i=6
       ·subst br;rw[if_pos rfl];cases B;exact .dc (a:=some _) (a':=some _) ⟨bx,rfl,rfl⟩
       ·rw[if_neg br];by_cases bt:i=9
        ·subst bt;rw[if_pos rfl];cases B;exact .gW (.inr (.inr ⟨rfl,rfl⟩)) rfl
        ·rw[if_neg bt];exact vz _ _
 have Y:∀i y,(wF D.A aj)[i]?=some y->lt[i]?=some (vU D.A b c i y):=λ i y cw=>by
  have:(ys.mapIdx (vU D.A b c))[i]?=some (vU D.A b c i y):=by
   rw[ej];have:ys[i]?=some y:=by simpa[ys]using cw
   rw[this];rfl
  exact this
 have cz:lt[1]?=some (.chan (some 1)):=Y 1 _ rfl;have l2:lt[2]?=some (aQ D.A.f):=Y 2 _ rfl;have l3:lt[3]?=some (aQ D.A.i):=Y 3 _ rfl;have cA:lt[4]?=some (.chan (some 4)):=Y 4 _ rfl;have l5:lt[5]?=some (aQ b):=Y 5 _ rfl;have bv:lt[6]?=some (aQ c):=Y 6 _ rfl;have cB:lt[9]?=some (.chan (some 9)):=Y 9 _ rfl;have cf:GF CR (jI (fg w E c #[zR])) X.a X.d X.e X.f (an.at ⟨lt,[]⟩ (.code w5::X.a)) an:=by
  refine⟨rfl,b4,⟨[.code w5],[.code w5],rfl,rfl,rfl,λ i u v aJ au=>?_⟩,⟨[],[],rfl,rfl,trivial,λ x h=>by cases h⟩,trivial,rfl,trivial⟩;cases i with
  |zero=>
   simp at aJ au;subst aJ au;exact⟨rfl,(jG w5).trans Uk⟩
  |succ i=>simp at aJ
 have cg:∀T,Abs.RI DN.Q ((jD w (fg w E c #[zR])).tp T 0) (λ r=>r∈E) ⟨lt,[]⟩ bB num G c:=λ T=>by
  refine{f:=by simp[lt,ys,wF],d:=rfl,j:= ⟨_,l2,?_⟩,l:= ⟨_,l3,?_⟩,k:= ⟨_,l5,?_⟩,h:=bv,g:= ⟨228,SY aB⟩,e:=λ h=>(U c h).1 rfl,i:=λ r C=>?_}
  ·refine⟨D.A.f,0,_,_,_,rfl,mp,BU mp (U _ mp).1 bE,by obtain⟨l,e⟩:=ak.e;rw[e];simp[ep,Abs.Ty.a],?_⟩;have e:Abs.aS ((D.A.g.cells.map (nP (·∈E))).toList) 0 iT.a= [nP (·∈E) vv,nP (·∈E) vh]:=by
    obtain⟨l,e⟩:=ak.e;rw[e];simp[ep,Abs.aS,Abs.Ty.a]
   rw[e];exact⟨amJ rfl rfl (λ r C=> ⟨(U r C).1,C⟩) (cH.map λ b _ _ _ L h=> ⟨by simp[E,L],h⟩),amJ rfl rfl (λ r C=> ⟨(U r C).1,C⟩) (cG.map λ b _ _ _ L h=> ⟨by simp[E,L],h⟩)⟩
  ·refine⟨D.A.i,0,_,_,_,rfl,af,BU af (U _ af).1 bD,by rw[K.g];simp[ep,Abs.Ty.a],?_⟩;rw[K.g];simp[ep,Abs.aS,Abs.Ty.a,nP,Abs.aw]
  ·refine⟨b,0,_,_,_,rfl,aN,BU aN aZ aY,by simp[eP,ep,Abs.mz dW rfl G],?_⟩;have e:Abs.aS (((eP G).cells.map (nP (·∈E))).toList) 0 dW.a=aX dW G:=by
    simp only[eP,ep,hy];rw[Iy];have:Abs.aS (aX dW G) 0 dW.a=aX dW G:=by
     unfold Abs.aS;rw[List.drop_zero,List.take_of_length_le (Nat.le_of_eq (Abs.mz dW rfl G))]
    rw[this,E3]
   rw[e];exact(Abs.kJ dW rfl G _).2 rfl
  ·show r< (jD w (fg w E c #[zR])).heap.size;rw[ue];obtain⟨_,_,cs,ty,fr,h⟩:=U r C;exact(dr.1 h).1
 have cv:∀T,w5.wp CR.Q (λ e a' w'=>e= .normal/\Abs.O5 (jD w (fg w E c #[zR])) ⟨lt,[]⟩ c (S G) a' w') ⟨lt,[]⟩ ((jD w (fg w E c #[zR])).tp T 0):=λ T=>
  wp_mono (Abs.Yi DN (cg T) b7) λ e a' w' h=> ⟨h.1,⟨h.2.f,h.2.g,h.2.b,h.2.e,h.2.h⟩⟩
 refine(HD Gx b8 (why:= "x") rfl (b:=an) (fr':=an) rfl b6 cf cv false).c ?_;rintro p' g w2⟨Q,v2,a',fr2,h⟩;obtain⟨T,cQ,hp⟩:=h.d;have cM:∀{r cs ty fr},w.heap[r]?=some (.cells cs ty fr)->r<w.heap.size:=λ h=>(dr.1 h).1;have aT:∀r,r∈E->Q r r:=λ r C=>h.l r r (ay r C);have aU:Q c c:=h.l c c bx;have hT:=h.c.b;have hT:AV Q a'.tmps fr2.tmps:=hT;have ac:∀i v,i<13->lt[i]?=some v->∃y,fr2.tmps[i]?=some y/\VR Q v y:=λ i v aE au=>by
  have O:a'.tmps[i]?=some v:=(hp.f i aE).trans au;rcases hT.d i with⟨s,_⟩| ⟨v1,y,s,B,W⟩
  ·rw[O]at s;cases s
  ·rw[O]at s;cases s;exact⟨y,B,W⟩
 obtain⟨cN,bW,aO⟩:=ac 1 _ (by omega) cz;obtain⟨c6,bX,aP⟩:=ac 2 _ (by omega) l2;obtain⟨c7,bY,cC⟩:=ac 3 _ (by omega) l3;obtain⟨cO,bZ,cD⟩:=ac 4 _ (by omega) cA;obtain⟨c8,b0,cE⟩:=ac 6 _ (by omega) bv;obtain⟨cP,b1,cF⟩:=ac 9 _ (by omega) cB;have O:cN=aQ D.A.e:=Ck D.A 1 _ _ (Ii aO) (.inl ⟨rfl,rfl⟩);have am:cO=aQ D.A.d:=Ck D.A 4 _ _ (Ii cD) (.inr (.inl ⟨rfl,rfl⟩));have bR:cP=cX D.A.b:=Ck D.A 9 _ _ (Ii cF) (.inr (.inr ⟨rfl,rfl⟩));have R:=IJ aP (aT _ mp);have J:=IJ cC (aT _ af);have az:=IJ cE aU;subst O R J am az bR;obtain⟨f',a7,cd⟩:=ag6 (A:=D.A) (hT.1.symm.trans hp.g) bW bX bY bZ b1;have a8:f' 6=aQ c:=by rw[cd];simp[Array.getD_eq_getD_getElem?,b0]
 obtain⟨d,cR,aq,a6,cb,cY⟩:=h.c.a;have aq:a'.defers=d++ []:=aq;rw[hP]at aq;subst aq;obtain⟨Z,cn,co,cp⟩:=Se cb (λ z cx=>by obtain⟨H,e,_⟩:=hp.b z cx;exact⟨H,e⟩) hp.e;have bh:∀r∈Z,w.heap.size<=r/\(∃H,Q H r/\w.heap.size<=H)/\w2.heap[r]?=some (.deferred (some [])):=λ r C=>by
  obtain⟨H,s,B⟩:=cp r C;obtain⟨bI,O,R,J⟩:=hp.b _ s;have bP:H=bI:=by
   have:=congrArg Deferred.target O;simp only[pZ]at this;exact ih this
  subst bP;rw[ue]at J;obtain⟨o,bz,k1,P,I⟩:=h.e.b H r B;have R:v2.heap[H]?=some (.deferred (some [])):=R;rw[R]at k1;cases k1;have ch:w.heap.size<=r:=by
   rcases h.h H r B with⟨rfl,ar⟩|ar
   ·exact J
   ·exact ar.2
  refine⟨ch,⟨H,B,J⟩,?_⟩;rw[P];revert I;generalize jq (fg w E c #[zR]) w.heap.size H=bV;intro I;cases I;rfl
 have ce:fr2=(W9 D.A f' (Z++N)).frame:=by
  have k1:=h.c.h;have P:=h.c.g;have I:=h.c.f;have aL:=h.c.e;have aM:=h.c.c;obtain⟨fn,c2,cL,cT,bw,kind,aR⟩:=fr2;simp only at a7 a6;subst a7;have k1:162=fn:=k1;have I:MR .run bw:=I;have aL:(WL D.A).frame.kind=kind:=aL;have aM:NO Q none aR:=aM;have P:TL CR Q X.a X.d X.a cL:=P;obtain⟨l,m,cI,cJ,cK,_⟩:=P;have:l= []:=gf.1 cI.symm;subst this;have:m= []:=fx cK.symm;subst this;obtain rfl:bw= .run:=MR.c I rfl;have ct:aR=none:=by cases aR with|none=>rfl|some _=>exact aM.elim
  subst k1 aL ct;rw[cJ,a6,cn];show _=Frame.mk 162 ⟨wF D.A f'⟩ _ ((Z++N).map pZ++uU D.A) _ _ _;rw[hN,List.append_assoc];rfl
 have bg:∀a,p.a a->a<w.heap.size->a≠c->w2.heap[a]?=w.heap[a]?:=λ a s B W=>h.i a s B λ⟨cs,M⟩=>by
  rcases AH M with⟨e,_⟩| ⟨_,_,_,_,_,_,e⟩
  ·exact W e
  ·have:=(Prod.mk.inj e).2;cases this
 obtain⟨own,bJ,aG,ck⟩:=hp.h;have aG:v2.heap[c]?=some (.cells #[own] bJ (0,0)):=aG;obtain⟨o,bz,k1,P,I⟩:=h.e.b c c aU;rw[aG]at k1;cases k1;obtain⟨cs',al,fr',a5,b5⟩:∃cs' al fr',w2.heap[c]?=some (.cells cs' al fr')/\AV Q #[own] cs':=by
  revert I;generalize jq (fg w E c #[zR]) w.heap.size c=bV;intro I;cases I with
  |jM e fr h=>exact⟨_,_,_,P,h⟩
 obtain⟨ag,be,bf⟩:∃ag,cs'[0]?=some ag/\VR Q own ag:=by
  rcases b5.d 0 with⟨s,_⟩| ⟨u,bC,s,B,W⟩
  ·simp at s
  ·simp at s;subst s;exact⟨bC,B,W⟩
 have bd:D.gn p':=λ a F=>by
  refine⟨(h.f a).2 (.inl (V a F).1),λ aK=>?_⟩;rcases(h.k a).1 aK with aK| ⟨r,s,B⟩
  ·exact(V a F).2 aK
  ·rcases h.h r a s with⟨rfl,M⟩| ⟨_,M⟩
   ·obtain⟨q,M⟩:=Option.isSome_iff_exists.1 M;rcases AH M with⟨e,_⟩| ⟨_,C,cs,ty,fr,ca,e⟩
    ·exact ab _ F e
    ·subst e;simp[jq,M,cM ca]at B
   ·have:=ao a F;omega
 have bi:D.dU w2:=λ a F=>(bg a (V a F).1 (ao a F) (ab a F)).trans (aI a F);have bc:RD.gZ (Z++N) p' w2:=by
  refine⟨?_,λ r C=>?_⟩
  ·rw[List.nodup_append];refine⟨co,aF.d,λ a F b L e=>?_⟩;subst e;have s:=(bh a F).1;have B:=(dr.1 (aF.b a L).2.2).1;omega
  ·rcases eo.1 C with C|C
   ·obtain⟨s,⟨H,B,W⟩,b3⟩:=bh r C;refine⟨(h.f r).2 (.inr ⟨H,B⟩),(h.k r).2 (.inr ⟨H,B,?_⟩),b3⟩;unfold jq;split
    ·simp;exact W
    ·rfl
   ·obtain⟨bu,cy,aw⟩:=aF.b r C;refine⟨(h.f r).2 (.inl bu),(h.k r).2 (.inl cy),(bg r bu (dr.1 aw).1 λ e=>?_).trans aw⟩;subst e;rw[aB]at aw;cases aw
 have ba:g=W9 D.A f' (Z++N):=by
  rw[h.j,ce];rfl
 have ax:∀y:bA,(aX bq y).length=27:=λ y=>Abs.mz bq rfl y;rcases ck with⟨rfl,cj⟩| ⟨aa,off,cap,bO,bK,rfl,a4,aC,cc⟩
 ·refine⟨f',Z++N,c,ag,none,bc,ba,a8,(h.f c).2 (.inl aH),⟨cs',al,fr',a5,be⟩,.inl ⟨?_,?_,rfl⟩,λ b L=>(by cases L),bd,bi⟩
  ·rw[aD,cj];rfl
  ·obtain⟨ad,e,h0⟩:=CI bf;cases ad with
   |none=>exact e
   |some _=>exact h0.elim
 ·obtain⟨ad,e,h0⟩:=CI bf;cases ad with
  |none=>exact h0.elim
  |some ad=>
   obtain⟨blk,c0,c1⟩:=ad;obtain⟨ah,bF,bH⟩:=h0;simp only at ah bF bH;subst bF bH;have aC:v2.heap[aa]?=some (.cells bO bK (0,0)):=aC;rw[ue]at a4;have cW:w.heap.size<=blk:=by
    rcases h.h aa blk ah with⟨e,_⟩|ar
    ·omega
    ·exact ar.2
   have a9:jq (fg w E c #[zR]) w.heap.size aa=false:=by
    unfold jq;split
    ·simp;exact a4
    ·rfl
   obtain⟨o,bz,k1,P,I⟩:=h.e.b aa blk ah;rw[aC]at k1;cases k1;rw[a9]at I;cases I with
   |jM _ _ b9=>
    rename_i bN;refine⟨f',Z++N,c,ag,some blk,bc,ba,a8,(h.f c).2 (.inl aH),⟨cs',al,fr',a5,be⟩,.inr ⟨blk,off,(S G).length,cap,bN,_,_,e,rfl,P,?_,λ j cZ=>?_,λ cu=>?_⟩,λ b L=>?_,bd,bi⟩
    ·rw[aD];exact uE ax
    ·have aE:j/27< (S G).length:=by omega
     have av:=ea aE;have bb:j%27<27:=nf _ (by omega);have s:=Kd (cc _ _ av) (j:=j%27) (by rw[ax];exact bb);rw[aD];have B:=tq ax (S G) (j/27) (j%27) _ av bb;rw[show j/27*27+j%27=j from by omega]at B;rw[B];rw[show off+j/27*27+j%27=off+j from by omega,eg]at s;rcases b9.d (off+j)with⟨ae,_⟩| ⟨u,bC,ae,bL,bM⟩
     ·rw[s]at ae;rw[List.getElem?_eq_none_iff,ax]at ae;omega
     ·rw[bL,<-s,ae];have ci:u∈aX bq (S G)[j/27]:=eL (s.symm.trans ae);exact congrArg some (De ci bM)
    ·have:=ao _ cu;omega
    ·cases L;exact⟨(h.f blk).2 (.inr ⟨aa,ah⟩),(h.k blk).2 (.inr ⟨aa,ah,a9⟩)⟩
end
section
local instance:Abs.Dr:= ⟨false⟩
open Go.Abs (bS bA eU dW bq iT aX dJ)
variable {u:ee}
def km:Code:=gY lP
def VT:Code->Nat| .region i _ _=>i|_=>0
theorem agS:km= .region (VT km) (ek km) false:=by kernel_rfl
def xQ:Oper:=((ek km)[0]?).getD default
def we:Oper:=((ek km)[1]?).getD default
theorem ahk:(ek km)[0]?=some xQ:=by kernel_rfl
theorem YC:(ek km)[1]?=some we:=by kernel_rfl
theorem afD:we.op= .call {callee:= .value (.func 166),args:= #[.tmp 27,.func 167],argTypes:=(match we.op with| .call c=>c.argTypes|_=> #[])}:=by kernel_rfl
theorem Xd:we.dst=some 28:=by kernel_rfl
def mP(L:List bA):=L.Pairwise λ x y=>Abs.dJ x y<=0
theorem Bw(d:Array bA):(mx (aX bq) 27 d).toList=d.toList.flatMap (aX bq):=by
 have a:∀y,(aX bq y).length=27:=λ y=>Abs.mz bq rfl y;apply hD;intro j;by_cases f:j<d.size*27
 have c:j/27<d.toList.length:=by grind
 have e:j%27<27:=nf _ (by omega);have b:=tq a d.toList (j/27) (j%27) _ (ea c) e;rw[show j/27*27+j%27=j from by omega]at b
 grind[get_flatK,aX,mx,dk,ea]
 rw[ew (by simp_all),ew (by rw[uE a];grind)]
theorem UZ{g n}{b:Array bA}{os a ty fr}(c:u.heap[g]?=some (.cells a ty fr)):(gl (aX bq) 27 u g 0 n b os).heap[g]?=some (.cells (fR id 0 (mx (aX bq) 27 b) a) ty fr):=by grind[dr,gl,mZ,putRowK,putRow,mapBlock,Sort.ahead,Array.getElem?_append_left,onCells]
theorem Q7(X:FS){a v}{L:List bA}(h10:a.tmps[10]?=some v)(Z:a.tmps.size=30) (S:(v= .slice none 0 0/\L= [])\/∃g cap c ty,v= .slice (some ⟨g,0,none⟩) L.length cap/\u.heap[g]?=some (.cells c ty (0,0))/\L.length*27<=c.size/\c.toList.take (L.length*27)=L.flatMap (aX bq)) (Y:L.length<4611686018427387904):km.wp X.Q (λ e a' T=>e= .normal/\a'.tmps=(a.tmps.setIfInBounds 27 v).setIfInBounds 28 (.tuple #[])/\a'.defers=a.defers/\∃o,L.Perm o/\mP o/\
  (v= .slice none 0 0/\o= []\/∃g cap c q ty,v= .slice (some ⟨g,0,none⟩) L.length cap/\u.heap[g]?=some (.cells c ty (0,0))/\T.heap[g]?=some (.cells q ty (0,0))/\q.size=c.size/\q.toList.take (L.length*27)=o.flatMap (aX bq)/\∀j,L.length*27<=j->q[j]?=c[j]?)) a u:=by
 have ac:∀y,(aX bq y).length=27:=λ y=>Abs.mz bq rfl y;rw[agS];refine wp_region ?_;show wpOps _ _ _ [0,1] a u;rw[wpOps_cons];unfold wpOp;rw[ahk];refine .inl ?_;unfold Oper.wp;have K:(execOp a.eval xQ).run X.Q u= .ok (.value (a.eval (.tmp 10))) u:=by
  rfl
 have E:a.eval (.tmp 10)=v:=by simp_all[jc]
 rw[K,E,Oper.upon_value,wpOps_cons];unfold wpOp;rw[YC];refine .inl ?_;unfold Oper.wp;let d:Go.Act:=a.put xQ.dst v
 have aa:d.tmps=a.tmps.setIfInBounds 27 v:=by rfl
 have U:d.defers=a.defers:=by rfl
 have I:Abs.lE X.Q 166:= ⟨mA,X.a fb (by kernel_rfl) (by decide),by kernel_rfl,by kernel_rfl⟩;have C:=Abs.E1 (P:=X.Q) (a:=d) (w:=u) afD (f:= .func 166) (fid:=166) (first:= #[]) (cap:= #[]) rfl I;have D:d.eval (.tmp 27)=v:=by
  simp_all[jc]
 have H:(#[]:Array df)++ (#[iA 27,hR 167]).map d.eval++ #[]= #[v,.func (.func 167) #[] #[]]:=by
  have e:(#[iA 27,hR 167]).map d.eval= #[d.eval (.tmp 27),d.eval (.func 167)]:=by simp
  rw[e,D];rfl
 rw[H]at C;rw[(C),Oper.upon_enter];have fin:∀p,p=d.put we.dst (.tuple #[])->p.tmps=(a.tmps.setIfInBounds 27 v).setIfInBounds 28 (.tuple #[])/\p.defers=a.defers:=λ p e=>by
  grind[Xd,Go.Act.put]
 obtain⟨rfl,rfl⟩| ⟨g,cap,c,ty,rfl,r,W,ab⟩:=S
 refine(Abs.QJ X _ 0 u).mono ?_;rintro e w'⟨rfl,rfl⟩;show wpOps _ _ _ _ _ _;obtain⟨t,x⟩:=fin _ rfl;exact⟨rfl,t,x,_,.refl _,.nil,by grind⟩;have G:HoldsK (aX bq) 27 u g 0 L.toArray:=by
  intro j h;rw[size_flatK]at h;have h:j<L.length*27:=by omega
  have s:(mx (aX bq) 27 L.toArray)[j]! =c[j]!:=by
   have k:(mx (aX bq) 27 L.toArray).toList[j]?=c.toList[j]?:=by
    grind[Bw]
   grind
  have z:j<c.size:=by omega
  refine⟨?_,?_⟩;rw[cell_of_row u g _ _ _ _ r,s,Nat.zero_add,dk z]
  grind
  grind[World.frozen?]
 have Q:g<u.heap.size:=(dr.1 r).1;have B:=Abs.Rv X g 0 cap L.toArray u G Q (by omega);rw[hB]at B;refine B.mono ?_;rintro e w'⟨rfl,b,n,os,⟨J,_,A⟩,R,rfl⟩;show wpOps _ _ _ _ _ _;obtain⟨t,x⟩:=fin _ rfl;have J:b.size=L.length:=by omega
 have A:b.toList.Perm L:=by
  grind[Array.extract_size,hB]
 refine⟨rfl,t,x,b.toList,A.symm,?_,.inr ⟨g,cap,c,fR id 0 (mx (aX bq) 27 b) c,ty,rfl,r,?_,?_,?_,λ j h=>?_⟩⟩;unfold mP;rw[List.pairwise_iff_getElem];intro i j V h N;have k:=R i j (Nat.zero_le _) N (by grind);have M:i<b.size:=by omega
 have O:j<b.size:=by omega
 have s:b[i]! =b[i]:=getElem!_pos b i M;have F:b[j]! =b[j]:=getElem!_pos b j O;rw[s,F]at k;simp only[hv,decide_eq_false_iff_not,nb]at k;rw[eH,eH];have:=Abs.xG (l:=Abs.eT b[i]) (m:=Abs.eT b[j]) rfl;have k:0<=Abs.eR (Abs.eT b[j]) (Abs.eT b[i]):=k;show Abs.eR (Abs.eT b[i]) (Abs.eT b[j])<=0;omega;exact UZ r;simp[fR];rw[<-Bw];apply hD;intro j;rw[ei];by_cases h:j<L.length*27;rw[if_pos h];have z:j<c.size:=by omega
 simp_all[fR];simp_all[if_neg,ew];by_cases z:j<c.size;have:¬j<b.size*27:=by omega
 simp[fR,this]
 grind[Array.getElem?_eq_none,fR]
end
section
local instance:Abs.Dr:= ⟨false⟩
open Go.Abs (bS bA eU dW bq iT aX dJ)
theorem ad8:cK TP TP 30 km=true:=by kernel_rfl
theorem acL{ys:Array df}(c:ys.size=30):ys= ⟨mF λ i=>ys.getD i nc⟩:=by
 apply Array.ext
 ·trivial
 ·intro i h b;have g:∀j(a:j<ys.size),ys.getD j nc=ys[j]:=λ j a=>by simp[a]
  have:i=0\/i=1\/i=2\/i=3\/i=4\/i=5\/i=6\/i=7\/i=8\/i=9\/i=10\/i=11\/i=12\/i=13\/i=14\/i=15\/i=16\/i=17\/i=18\/i=19\/i=20\/i=21\/i=22\/i=23\/i=24\/i=25\/i=26\/i=27\/i=28\/i=29:=by omega
  rcases this with rfl|rfl|rfl|rfl|rfl|rfl|rfl|rfl|rfl|rfl|rfl|rfl|rfl|rfl|rfl|rfl|rfl|rfl|rfl|rfl|rfl|rfl|rfl|rfl|rfl|rfl|rfl|rfl|rfl|rfl<;>exact(g _ h).symm
theorem GD{x:bA}{u:df}(h:u∈aX bq x):∃k m,u= .int k m:=by
 obtain⟨⟨⟨a,b,d,e,f,g⟩,i,j,l,n,o,p⟩,c,⟨⟨d1,d2,d3,d4,q,r⟩,s,t,v,w,y,z⟩,A,B⟩:=x;simp only[aX,eo,hg]at h
 grind
theorem XT[aW][Gl]{β k m y}(h:VR β (.int k m) y):y= .int k m:=by cases h;rfl
structure C7(w:ee)(v:df)(L:List bA):Prop where
 b:(v= .slice none 0 0/\L= [])\/∃g cap c,v= .slice (some ⟨g,0,none⟩) L.length cap/\w.heap[g]?=some (.cells c 231 (0,0))/\L.length<=cap/\cap<=gu/\c.size=cap*27/\
  (∀j,j<L.length*27->c[j]?=(L.flatMap (aX bq))[j]?)/\∀j,L.length*27<=j->j<c.size->c[j]?=some (.int .i64 0)
 a:∀g m cap,v= .slice (some ⟨g,0,none⟩) m cap->0<L.length
structure abt(A:Ar)(L:List bA)(v:df)(i:ai)(w0:ee)(p:ai)(g:hh)(w:ee):Prop where
 d:∃f,g=MG A f [.code (bX lP)]/\f 10=v
 c:∃h,L.Perm h/\mP h/\C7 w v h
 b:∀k,v.ownBlock=some k->p.a k/\p.b k
 e:∀a,i.a a->a<w0.heap.size->v.ownBlock≠some a->w.heap[a]?=w0.heap[a]?
theorem Uf{A:Ar}{f:Nat->df}{p:ai}{w:ee}{L:List bA}{n base:Nat}(ba:w.ownsRow base 231 27 (f 10) n (L.flatMap (aX bq)))(aH:lh w (f 10) n)(bb:∀k,(f 10).ownBlock=some k->p.a k/\p.b k)
 (aA:TP.globals.size<=w.heap.size) (aE:L.length<4611686018427387904):bG TP true p (ME A f) w (abt A L (f 10) p w):=by
 letI bs:aW:=oT (λ _ _=>False) (λ _ _ _ h=>h.elim)
 have bk:∀y:bA,(aX bq y).length=27:=λ y=>Abs.mz bq rfl y;obtain⟨h0,a9⟩:=ba;rw[uE bk]at h0;have a8:n=L.length:=by omega
 subst a8
 let v:=f 10
 have R:(v= .slice none 0 0/\L= [])\/∃g cap c,v= .slice (some ⟨g,0,none⟩) L.length cap/\w.heap[g]?=some (.cells c 231 (0,0))/\L.length<=cap/\cap<=gu/\c.size=cap*27/\c.toList.take (L.length*27)=L.flatMap (aX bq)/\∀j,L.length*27<=j->j<c.size->c[j]?=some (.int .i64 0):=by
  rcases a9 with⟨q,s⟩| ⟨g,cap,c,q,s,B,Z,aa,ab,aU⟩
  ·exact .inl ⟨q,List.length_eq_zero_iff.1 s⟩
  ·exact .inr ⟨g,cap,c,q,B,Z,aa,ab,aU,(aH g _ cap q).2 c 231 (0,0) B⟩
 have bj:∀{c:Array df},c.toList.take (L.length*27)=L.flatMap (aX bq)->(∀j,L.length*27<=j->j<c.size->c[j]?=some (.int .i64 0))->∀y∈c,∃k m,y= .int k m:=λ{c}q s y C=>by
  obtain⟨j,H,rfl⟩:=gg.1 C;by_cases O:j<L.length*27
  ·have:c[j]∈L.flatMap (aX bq):=by
    rw[<-q];refine eL (i:=j) ?_;rw[ei,if_pos O,eg,dk H]
   obtain⟨x,_,al⟩:=hL.1 this;exact GD al
  ·have:=s j (by omega) H;rw[dk H]at this;exact⟨_,_,ng this⟩
 let ys:Array Value:= ⟨mF f⟩
 have bi:ys.size=30:=rfl
 let lt:Array Value:=ys.mapIdx λ i y=>if i=10 then v else shV y
 have O:lt.size=30:=by simp[lt,bi]
 have ao:lt[10]?=some v:=by
  show(ys.mapIdx _)[10]?=_;rw[ej];rfl
 let F:Frame:=(ME A f).frame
 let X:cS:= ⟨[.code (.refuse "x")],[.code (bX lP)],[],[],[gd],A.j⟩
 have aw:X.b:= ⟨rfl,rfl,rfl,λ id=>rfl,λ h=>by cases h⟩;have aY:∀β:ah,VR β v v->AV β lt ys:=λβ J=>by
  refine⟨by simp[lt],λ i u bK q s=>?_⟩;have q:(ys.mapIdx λ i y=>if i=10 then v else shV y)[i]?=some u:=q;rw[ej,s]at q;simp only[hA,Option.some.injEq]at q;subst q;by_cases aD:i=10
  ·subst aD;rw[if_pos rfl];have:ys[10]?=some v:=rfl;rw[this]at s;cases s;exact J
  ·rw[if_neg aD];exact vz _ _
 have aB:∀β:ah,VR β v v->GF CR β X.a X.d X.e X.f (F.at ⟨lt,[]⟩ (.code km::X.a)) F:=λβ J=>by
  refine⟨rfl,aY β J,⟨[.code km],[.code km],rfl,rfl,rfl,λ i u v aj R=>?_⟩,⟨[],[],rfl,rfl,trivial,λ x h=>by cases h⟩,trivial,rfl,trivial⟩;cases i with
  |zero=>
   simp at aj R;subst aj R;exact⟨rfl,(jG km).trans ad8⟩
  |succ i=>simp at aj
 have out:∀{D:ah}{a':hG}{fr2:hU},GF CR D X.a X.d X.e X.f (F.at a' X.a) fr2->a'.tmps=(lt.setIfInBounds 27 v).setIfInBounds 28 (.tuple #[])->a'.defers= []->
  (∀y,VR D v y->y=v)->∃f',G0 fr2 X.g=MG A f' [.code (bX lP)]/\f' 10=v:=λ{D a' fr2}G aJ a1 bh=>by
  have hT:AV D a'.tmps fr2.tmps:=G.b;have aS:a'.tmps[10]?=some v:=by rw[aJ,fl (by decide),fl (by decide)];exact ao
  have be:fr2.tmps.size=30:=by rw[<-hT.1,aJ];simp[O]
  have S:=G.g;obtain⟨d,ar,Q,az,a2,_⟩:=G.a;have Q:a'.defers=d++ []:=Q;rw[hP,a1]at Q;subst Q;have:ar= []:=by cases ar with|nil=>rfl|cons _ _=>exact a2.elim
  subst this;refine⟨λ i=>fr2.tmps.getD i nc,?_,?_⟩
  ·have aF:=acL be;have k1:=G.h;have M:=G.f;have am:=G.e;have an:=G.c;obtain⟨fn,bo,bp,bt,aM,kind,ap⟩:=fr2;have k1:147=fn:=k1;have M:MR .run aM:=M;have am:CallKind.normal=kind:=am;have an:NO D none ap:=an;have S:TL CR D X.a X.d X.a bp:=S;obtain⟨l,m,bl,bm,bn,_⟩:=S;have:l= []:=gf.1 bl.symm;subst this;have:m= []:=fx bn.symm;subst this;obtain rfl:aM= .run:=MR.c M rfl;have bd:ap=none:=by cases ap with|none=>rfl|some _=>exact an.elim
   simp only at aF az;subst k1 am bd;rw[bm,az];show Goroutine.mk (Frame.mk 147 bo _ _ _ _ _) _ _ _ _=Goroutine.mk (Frame.mk 147 _ _ _ _ _ _) _ _ _ _;rw[<-aF];rfl
  ·rcases hT.d 10 with⟨q,_⟩| ⟨v1,y,q,s,B⟩
   ·grind
   ·rw[aS]at q;cases q;simp[s,bh y B]
 have bu:ME A f=G0 F X.g:=rfl;rcases R with⟨P,av⟩| ⟨g,cap,c,I,ay,bF,a7,bH,aK,bg⟩
 ·have ac:wo (λ _=>none) p w:= ⟨λ r cs aT h=>(by cases h),λ r cs aT h=>(by cases h),aA⟩;have J:∀β:ah,VR β v v:=λβ=>by rw[P];exact .dz (a:=none) (a':=none) trivial 0 0
  have ak:∀T,km.wp CR.Q (λ e a' w'=>e= .normal/\(a'.tmps=(lt.setIfInBounds 27 v).setIfInBounds 28 (.tuple #[])/\a'.defers= [])) ⟨lt,[]⟩ ((jD w λ _=>none).tp T 0):=λ T=>
   wp_mono (Q7 DN (a:= ⟨lt,[]⟩) ao O (.inl ⟨P,av⟩) aE) λ e a' w'⟨q,s,B,_⟩=> ⟨q,s,B⟩
  refine(HD Gx aw (why:= "x") rfl (b:=F) (fr':=F) rfl ac (aB _ (J _)) ak true).c ?_;rintro p' g w2⟨D,v2,a',fr2,h⟩;obtain⟨T,aQ,ae,af⟩:=h.d;obtain⟨f',W,Y⟩:=out h.c ae af λ y C=>by
   rw[P]at C⊢;obtain⟨N,e,h0⟩:=CI C;cases N with
   |none=>exact e
   |some _=>exact h0.elim
  refine⟨⟨f',h.j.trans W,Y⟩,⟨[],by rw[av],.nil,⟨.inl ⟨P,rfl⟩,λ g m cap e=>by grind⟩⟩,λ k E=>?_,λ a q s B=>h.i a q s λ⟨cs,aG⟩=>by grind⟩;have E:v.ownBlock=some k:=E;rw[P]at E;cases E
 ·have ag:=bb g (by show v.ownBlock=_;rw[I];rfl);have bf:∀β:ah,AV β c c:=λβ=>AV.i λ y C=>by
   obtain⟨k,m,rfl⟩:=bj aK bg y C;exact .cx k m
  have ac:wo (fg w [] g c) p w:=NI (λ r bc=>by grind) ag aA ⟨c,231,(0,0),ay,λβ _=>bf β⟩;have aC:jI (fg w [] g c) g g:= ⟨rfl,by rw[BK];rfl⟩;have J:VR (jI (fg w [] g c)) v v:=by rw[I];exact .dz (a:=some _) (a':=some _) ⟨aC,rfl,rfl⟩ _ _
  have a5:(jD w (fg w [] g c)).heap[g]?=some (.cells c 231 (0,0)):=SY ay
  let Post:hG->ee->Prop:=λ a' w'=>a'.tmps=(lt.setIfInBounds 27 v).setIfInBounds 28 (.tuple #[])/\a'.defers= []/\∃z,L.Perm z/\mP z/\∃t,w'.heap[g]?=some (.cells t 231 (0,0))/\t.size=c.size/\t.toList.take (L.length*27)=z.flatMap (aX bq)/\∀j,L.length*27<=j->t[j]?=c[j]?
  have ak:∀T,km.wp CR.Q (λ e a' w'=>e= .normal/\Post a' w') ⟨lt,[]⟩ ((jD w (fg w [] g c)).tp T 0):=λ T=>
   wp_mono (Q7 DN (a:= ⟨lt,[]⟩) ao O (.inr ⟨g,cap,c,231,I,a5,by omega,aK⟩) aE) λ e a' w'⟨q,s,B,z,Z,aa,ab⟩=>by
    refine⟨q,s,B,_,Z,aa,?_⟩;rcases ab with⟨V,_⟩| ⟨g',br,aR,t,ty,V,au,bv,bw,bx,bz⟩
    ·grind
    ·rw[I]at V;cases V;have au:(jD w (fg w [] g c)).heap[g]?=some (.cells aR ty (0,0)):=au;simp_all
  refine(HD Gx aw (why:= "x") rfl (b:=F) (fr':=F) rfl ac (aB _ J) ak true).c ?_;rintro p' bB w2⟨D,v2,a',fr2,h⟩;obtain⟨T,aQ,ae,af,z,K,aV,t,ad,bC,bD,bE⟩:=h.d;have aq:D g g:=h.l g g aC;obtain⟨f',W,Y⟩:=out h.c ae af λ y C=>by
   rw[I]at C⊢;obtain⟨N,e,h0⟩:=CI C;cases N with
   |none=>exact h0.elim
   |some N=>
    obtain⟨blk,off,bJ⟩:=N;obtain⟨aN,aO,aP⟩:=h0;simp only at aN aO aP;subst aO aP;rw[e,D.f g _ _ aN aq]
  have a3:jq (fg w [] g c) w.heap.size g=false:=by simp_all[jq,BK]
  obtain⟨o,bI,k1,S,M⟩:=h.e.b g g aq;have ad:v2.heap[g]?=some (.cells t 231 (0,0)):=ad;rw[ad]at k1;cases k1;rw[a3]at M;have aI:∀j,z.length*27<=j->j<t.size->t[j]?=some (.int .i64 0):=λ j q s=>by
   rw[<-K.length_eq]at q
   grind
  have aL:t.toList.take (z.length*27)=z.flatMap (aX bq):=by rw[<-K.length_eq];omega
  have a4:∀y∈t,∃k m,y= .int k m:=λ y C=>by
   obtain⟨j,H,rfl⟩:=gg.1 C;by_cases a6:j<z.length*27
   ·have:t[j]∈z.flatMap (aX bq):=by
     rw[<-aL];refine eL (i:=j) ?_;rw[ei,if_pos a6,eg,dk _]
    obtain⟨x,_,al⟩:=hL.1 this;exact GD al
   ·have:=aI j (by omega) H
    grind
  cases M with
  |jM _ _ ax=>
   rename_i U;have aZ:U=t:=by
    apply Array.ext
    ·exact ax.1.symm
    ·intro i q s;obtain⟨k,m,e⟩:=a4 t[i] (Array.getElem_mem s);have:=ax.2 i t[i] U[i] (dk s) (dk q)
     grind[XT]
   subst aZ;refine⟨⟨f',h.j.trans W,Y⟩,⟨z,K,aV,⟨.inr ⟨g,cap,U,?_,?_,?_,a7,by omega,λ j H=>?_,aI⟩,λ g m cap e=>by rw[<-K.length_eq];exact(aH g m _ e).1⟩⟩,λ k E=>?_,λ a q s B=>h.i a q s λ⟨cs,aG⟩=>?_⟩
   ·rw[<-K.length_eq];omega
   ·omega
   ·rw[<-K.length_eq];omega
   ·rw[<-aL,ei,if_pos H,eg]
   ·have E:v.ownBlock=some k:=E;rw[I]at E;cases E;exact⟨(h.f g).2 (.inl ag.1),(h.k g).2 (.inl ag.2)⟩
   ·rcases AH aG with⟨e,_⟩| ⟨_,bc,_⟩
    ·apply B;show v.ownBlock=_;rw[I,e];rfl
    grind
end
def HJ(A:Ar)(f:Nat->df):Goroutine:=dR TP true 6 (MG A f [.code (bX lP)])
theorem ahb(A)(f)(w):jo TP true 6 (MG A f [.code (bX lP)]) w=jl TP true 6 (MG A f [.code (bX lP)]) w:=by kernel_rfl
theorem Xo(A)(f):gJ TP true 6 (MG A f [.code (bX lP)])=true:=by kernel_rfl
theorem abn(A)(f):qD TP true 6 (MG A f [.code (bX lP)])=true:=by kernel_rfl
theorem agy(A)(f):(HJ A f).status= .running:=by kernel_rfl
theorem ad4(h g d a b e j i)(m k l)(c)(cs)(f)(w):stepG TP true (HJ ⟨h,g,d,a,b,e,j,i,m,k,l,c::cs⟩ f) w= .go (G0 (c.finish (f 10)) cs) w #[]:=by kernel_rfl
theorem adU{A f p w c cs Stop}(a:A.j=c::cs)(h:∀w1,bO p w w1->Stop p (G0 (c.finish (f 10)) cs) w1):bG TP true p (MG A f [.code (bX lP)]) w Stop:=by refine zU (g':=HJ A f) (ahb A f) (Xo A f) (abn A f) rfl ?_;refine GN (g':=G0 (c.finish (f 10)) cs) (agy A f) (λ w=>?_) (nQ rfl h);have⟨j,i,e,b,d,g,l,k,o,m,n,cs'⟩:=A;have a:cs'=c::cs:=a;subst a;exact ad4 j i e b d g l k o m n c cs f w
section
local instance:Abs.Dr:= ⟨false⟩
open Go.Abs (bS bA eU dW bq iT aX dJ)
variable {pl:eU} {ly:List bS} {S:bS->List bA}
theorem QF{x y}(h:eP x=eP y):x=y:=by have⟨⟨a,b,c,d,e,f⟩,g,i,j,k,l,m⟩:=x;simp_all[eP,aX]
open Classical in
def pJ(S:bS->List bA)(x:df):List Value:=if h:∃a,x=eP a then(S h.choose).flatMap (aX bq)else[]
theorem H8(S)(nd):pJ S (eP nd)=(S nd).flatMap (aX bq):=by have h:∃a,eP nd=eP a:= ⟨nd,rfl⟩;grind[pJ,QF]
theorem HG(S):∀l:List bS,(l.map eP).flatMap (pJ S)=(l.flatMap S).flatMap (aX bq)| []=>rfl|a::l=>by simp[List.map_cons,hz,H8,HG S l,List.flatMap_append]
theorem Uc:∀{l:List bS}{m:List df},(l.map eP).Perm m->∃l':List bS,m=l'.map eP/\l.Perm l':=by
 intro l m h;have c:∀x∈m,∃b,x=eP b:=λ x j=>by
  grind
 have:∃l':List bS,m=l'.map eP:=by
  clear h
  induction m with
  |nil=>simp
  |cons x m f=>
   obtain⟨b,rfl⟩:=c x (by simp);obtain⟨l',rfl⟩:=f λ y e=>c y (gE _ e);exact⟨b::l',rfl⟩
 obtain⟨l',rfl⟩:=this;refine⟨_,rfl,?_⟩
 classical
 let dec:df->bS:=λ x=>if h:∃b,x=eP b then h.choose else default
 have d:∀b,dec (eP b)=b:=λ b=>by
  have h:∃g,eP b=eP g:= ⟨b,rfl⟩
  grind[QF]
 have i:∀a:List bS,(a.map eP).map dec=a:=λ a=>by
  rw[List.map_map]
  conv=>rhs;rw[<-List.map_id a]
  exact List.map_congr_left λ x _=>d x
 grind
structure Ie(A:Ar)(rd:Nat->Prop)(w:ee)(pl:eU)(ly:List bS)(num:Int)(S:bS->List bA)(n:Nat)(vv vh:df):Prop where
 b:Nr w.heap rd A.g pl vv vh
 c:mH w.heap rd A.k dW ly
 g:A.h= .int .i64 num
 f:∀e∈ly,Abs.N.xD n pl num e=some (S e)
 d:ly.length<2^62
 a:(ly.flatMap S).length*216<=140737488355328
theorem VZ{A A':Ar}{ps p:ai}{w w1:ee}{num:Int}{n:Nat}{vv vh:df}{C:Option Addr}{E:Nat}(h:Ie A ps.a w pl ly num S n vv vh)(I:A.k= .slice C ly.length E)
 (Q:∀b,ps.a b->b<w.heap.size) (ae:TP.globals.size<=w.heap.size) (e1:A'.g=A.g) (e2:A'.k=A.k) (e3:A'.h=A.h) (q:uo A' w.heap.size w ps p w1) (F:∀b,p.a b->b<w1.heap.size):
 uT (sq A' (ly.map eP) (pJ S) p w1)/\ra (sq A' (ly.map eP) (pJ S) p w1) C ly.length E:=by
 have Z:∀y:bA,(aX bq y).length=27:=λ y=>Abs.mz bq rfl y;have aa:∀a,ps.a a->p.a a:=λ a O=>(q.b a).2 (.inl O);have sl:∀b cs T fr,ps.a b->w.heap[b]?=some (.cells cs T fr)->p.a b/\w1.heap[b]?=some (.cells cs T fr):=λ b cs T fr t e=> ⟨aa b t,(q.g b (Q b t)).trans e⟩
 have z:=h.b
 let D:=sq A' (ly.map eP) (pJ S) p w1
 have N:MF D pl num S n vv vh:={
  d:=F
  c:=by show _<=A'.f;rw[q.c.1];omega
  i:= ⟨(q.b _).2 (.inr (.inl rfl)),_,_,q.q⟩
  h:= ⟨(q.b _).2 (.inr (.inr (.inr (.inl rfl)))),_,_,q.t⟩
  g:=e3.trans h.g
  b:= ⟨z.e.imp λ _ e=>e1.trans e,z.g.map sl,z.h.map sl⟩
  e:=λ x r=>by
   obtain⟨s,hnd,rfl⟩:=gk.1 r;exact⟨_,rfl,h.f _ hnd,H8 S _⟩}
 have G:D.iO:={
  k:=F
  m:=λ x r=>by
   obtain⟨s,_,rfl⟩:=gk.1 r;exact⟨_,rfl,rfl,λ u B=>Abs.AW _ _ u (by omega)⟩
  l:= ⟨(q.b _).2 (.inr (.inr (.inr (.inr (.inl rfl))))),_,_,_,q.k,rfl⟩
  j:= ⟨(q.b _).2 (.inr (.inr (.inr (.inr (.inr rfl))))),_,_,_,q.s,rfl⟩
  e:=λ x r f ab b c p w R X U P V W Y t H=>acv N r f ab b c p w R X U P V W Y t H}
 refine⟨⟨G,?_,λ x r u B=>?_⟩,⟨G,⟨(q.b _).2 (.inr (.inr (.inl rfl))),_,_,_,q.l,?_⟩,?_,h.d,?_⟩⟩
 ·show((ly.map _).flatMap (pJ S)).length*8<=_;rw[HG,uE Z];have:=h.a;omega
 ·obtain⟨s,_,rfl⟩:=gk.1 r;have B:u∈pJ S (eP s):=B
  grind[H8,Abs.AW]
 ·rw[e2,I];rfl
 ·show(ly.map _).length=_;simp
 ·obtain⟨_,_,e,ac,g⟩:=h.c.map sl;rw[I]at e;cases e;rcases g with g| ⟨b,o,rfl,k1,cs,T,fr,J,ad,_,K⟩
  ·omega
  refine .inr ⟨b,o,cs,T,fr,rfl,k1,J,λ k c v j af=>?_⟩;have v:(ly.map eP)[k]?=some (.agg c):=v;rw[List.getElem?_map]at v;obtain⟨s,L,M⟩:=Option.map_eq_some_iff.1 v;have H:c=(aX dW s).toArray:=by
   have:Value.agg (aX dW s).toArray= .agg c:=M
   grind
  have:=Kd (K k s L) (j:=j) (by trivial)
  grind[Abs.Ty.a]
theorem abN{A:Ar}{S0:Nat->Prop}{ps:ai}{z:Array hh}{w:ee}{t:Trace}{q:Nat->Nat}(sl:Option (Nat×Nat)){num:Int}{n:Nat}{vv vh:df}{c:hU}{cs:List hU}
 (h:Ie A ps.a w pl ly num S n vv vh) (ak:A.j=c::cs) (I:TP.globals.size<=w.heap.size)
 (h0:z[0]?=some (PE A)) (ag:Leavers TP t z q) (ah:Past (eG S0) w.heap.size t) (aj:∀b,S0 b->b<w.heap.size/\¬ps.a b) (J:∀b,ps.a b->b<w.heap.size) (au:∀b,ps.b b->ps.a b):
 ∃(N:Nat)(B:Array hh)(w':ee)(ay:Option (Nat×Nat))(t':Trace)(q':Nat->Nat)(u:Nat->Prop)(v:df)(L:List bA),
  runNT TP N (crowd z w sl) t=(.next (crowd B w' ay),t')/\B[0]?=some (G0 (c.finish v) cs)/\Leavers TP t' B q'/\Past (eG u) w'.heap.size t'/\(∀b,u b->b<w'.heap.size/\(S0 b\/(w.heap.size<=b/\v.ownBlock≠some b)))/\
   (∀b,S0 b->u b)/\mq w w'/\(ly.flatMap S).Perm L/\mP L/\C7 w' v L/\∀k,v.ownBlock=some k->w.heap.size<=k:=by
 obtain⟨V,Z,al,_,_⟩:=h.c;obtain⟨N,ad,w1,az,aB,aw,av,l,g,A',aR,w0,aa,aG,aH,aJ,U,aq,E⟩:=afP sl (xs:=ly.map eP) (fnd:=pJ S) (a:=V) (n:=ly.length) (c:=Z) h0 ag ah aj J au λ A' p w1 W X Y aK hp af=>VZ h al J I W X Y hp af;obtain⟨f,rfl,D⟩:=E.i;obtain⟨m,K,ar⟩:=D.d;have ap:(ly.map eP).Perm l:=E.f;obtain⟨s,rfl,an⟩:=Uc ap;have K:w1.ownsRow A'.d 231 27 (f 10) m ((s.flatMap S).flatMap (aX bq)):=by
  grind[sq,HG]
 have G:(ly.flatMap S).Perm (s.flatMap S):=an.flatMap_right S;have am:(s.flatMap S).length<4611686018427387904:=by
  rw[<-G.length_eq];have:=h.a;omega
 have j:=(Uf K ar D.b (gw I E.c.b) am).d (Stop':=λ p g w=>∃L,(s.flatMap S).Perm L/\mP L/\C7 w (f 10) L/\g=G0 (c.finish (f 10)) cs/\(∀k,(f 10).ownBlock=some k->p.a k)) λ p g w o=>by
  obtain⟨f',rfl,aQ⟩:=o.d;obtain⟨O,x,y,i⟩:=o.c;refine adU (A:=A') (c:=c) (cs:=cs) (U.trans ak) λ w1 F=> ⟨O,x,y,?_,by grind,λ k C=>(o.b k C).1⟩;rcases i.b with ao| ⟨aP,cap,aM,M,aD,aE⟩
  ·exact⟨.inl ao,i.a⟩
  ·exact⟨.inr ⟨_,_,_,M,(F.e _ (o.b _ (by rw[M];rfl)).1).trans aD,aE⟩,i.a⟩
 obtain⟨_,r,j⟩:=j;obtain⟨Q,ae,aI,w2,aA,aC,ax,p2,ab,aN,ac,⟨L,x,y,i,rfl,aO⟩,P,R,_,aS,T,aF,e⟩:=
  Kh (B0:=w1.heap.size) (S:=λ b=>S0 b\/b=A'.a) r _ av ad _ w1 az aB aw (et _) E.o E.m E.d (gI.c E.d.seen _) (λ b d=> ⟨E.h b d,λ F=>(E.e b F).2 d⟩) (λ b d=>(E.e b d).1) j
 haveI:aW:= ⟨0,λ _=>true,λ _ _=>False,λ _ _ _ h=>h.elim⟩
 refine⟨N+Q,ae,w2,aA,aC,ax,λ b=>S0 b\/b=A'.a,f 10,L,zA aa ab,ac,P,R,λ b d=> ⟨(T b d).1,?_⟩,λ b d=> .inl d,?_,G.trans x,y,i,λ k C=>?_⟩
 ·rcases d with d|d
  ·grind
  ·refine .inr ⟨by rw[d,aq.c.2.2.2];omega,by grind⟩
 ·refine⟨gw E.c.b e.d,λ a H=>?_,e.i.trans E.c.f,e.f.trans E.c.c,e.g.trans E.c.e⟩;rw[e.h a (Nat.lt_of_lt_of_le H E.c.b) λ j=>by have:=E.j a j;omega,E.c.d a H]
 ·exact E.j k (D.b k C).2
end
end Go.Rs
