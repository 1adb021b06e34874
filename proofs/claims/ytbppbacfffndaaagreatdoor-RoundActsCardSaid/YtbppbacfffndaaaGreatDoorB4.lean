/- Part of a proof that the statement holds. No conditions. -/
import Derived.LoopNIn
import Derived.RangeFuncSeq
import Derived.RangeFuncIn
import Derived.RangeFuncRecord
import Derived.ChangeKeysEq
import Derived.ProofKit
import Derived.ChangeSlices
import Derived.Test.YtbppbacfffndaaaGreatDoorB3
set_option linter.all false
open Bool renaming and_eq_true->b2,not_eq_true'->fb,false_eq_true->fV,not_true->nL
open Nat renaming beq->ea,le_refl->eb,lt_of_lt_of_le->ev,le_trans->eH,zero_le->gE,zero_mul->hR,ble->j2,add_zero->lH,succ_mul->lL,mul_le_mul_right->l7,add_le_add_left->mb,blt->mH
open Go.Result renaming andThen_ok->ee,ok->ov
open Go renaming World->ef,Value->eg,Program->ei,Code->et,run_underlying->ez,Operand->fl,wpIn_mono->fz,LoopState->hq,Exit->hz,FuncId->hN,Field->iA,Act->kg,wpOpsIn->kp,execOp->k4,Oper->k9,yielded->lA,TypeId->lB,undef->l9,wpIn_seq->nc,Deferred->nf,part->ng,MemPlace->nv,sizeOf->nZ,maxLen->n1,results->n4,DataW->n5,Func->oh,ResultVar->oj,TypeDesc->o0
open Array renaming getElem?_eq_some_iff->ej,replicate->kk
open Go.Sem renaming run_bind->en,run_pure->hP
open Option renaming bind_some->eo,bind_eq_some_iff->eQ,isSome_iff_exists->hD,map_eq_some_iff->k8
open Go.Instr renaming checkKey->ep,findNow->hU,sameNow->hY,findAsking->mn,yield->n3
open List renaming all_eq_true->eL,getElem?_eq_getElem->fx,mem_cons_self->fH,mem_singleton->fR,nodup_nil->gb,mem_cons->gg,mem_append_left->gl,mem_cons_of_mem->gw,nodup_cons->hh,getElem?_eq_some_iff->hA,drop_eq_getElem_cons->hB,getElem?_take_of_lt->hG,range'_succ->hJ,take_of_length_le->hM,forIn_cons->hQ,mem_append_right->hS,getElem?_drop->ih,append_assoc->jA,length_cons->j3,mem_append->kn,range->kL,mapM_cons->kR,drop_zero->kV,drop_drop->k3,map_cons->k7,getElem?_cons_zero->lf,getElem?_eq_none->l1,range_eq_range'->l4,mem_filterMap->ma,any_eq_false->mm,drop_length->mv,range'_zero->mA,append_nil->nb,forIn_nil->nz,range'->oH,length->oL
open Go.World renaming putObj_heap_other->eV,putObj_heap_same->lb,cell?->lV,putObj->nY,cells?->n2
open Decidable renaming decide->fu
open Go.Region renaming wanted->fv
open Go.DataW renaming trod->gf,TrodAll->k6,agg->oV
open Go.IntKind renaming wrap->hg,signed->mo,bits->np
open PUnit renaming unit->hy
open Go.Op renaming equalIn->hF,eqFields->ml,eqItems->mx
open Go.Ending renaming returned->hL
open Go.Deferred renaming ofValue->hZ
open ForInStep renaming yield->jc
open Iff renaming rfl->j1
open Go.Fence renaming wide->kq
open Go.Value renaming func->kH,okWide->lk,cells->n9
open BEq renaming comm->k5
open Go.Exit renaming inBlock->lv
open Go.ChangeShapes renaming trodAll_cons->mr,trodAll_nil->ny
open Std.Legacy.Range renaming size->nB,forIn_eq_forIn_range'->nH
open Go.Act renaming eval->nV
open Go.Addr renaming add->o1
namespace Go.Abs
open Go.ChangeShapes Go.RowKit Go.WideShapes
section
variable[Dr]
variable {F:List Nat} {v:eg} {s:bQ} {α:Type} {k i:Nat} {m:List (Nat×α)}
structure iK where
 t:Ty
 d:t.b
inductive lj where|aj (t:Ty)|pp (t:Ty)|iR (id:Nat)|cu (id off:Nat)|j6|TN (f:Nat)|sZ
inductive ki where|v (c:lj)|B6 (l:List lj)
inductive mS where|jH (e:Ty)|cp (t:Ty) (l:List lj)|tU (k v:Ty)
structure cf where
 N:Nat
 b:List Ty
 d:List (Nat×ki)
 e:List (Nat×mS)
 c:List Nat
structure Sc where
 d:List iK
 c:List (Nat×Option Nat)
 f:W
def Sc.b(x y:Sc):Sc:= ⟨x.d++y.d,x.c++y.c,x.f++y.f⟩
def Sc.e:Sc:= ⟨[],[],[]⟩
def wx(E:aq):lj->aU->RM Sc
 | .aj t,a=>(gX E t a).aB λ x=> .aA ⟨[⟨t,x.1⟩],[],x.2⟩| .pp t,a=>(qu E t a).aB λ x=> .aA ⟨[⟨t,x.1⟩],[],x.2⟩| .iR i,.dj id ver=> .dS id λ|some (cv,.c8 _ _)=>bif ea cv ver then .aA ⟨[],[(i,some id)],[]⟩else .aa|some (cv,.kB _ _ _)=>bif ea cv ver then .aA ⟨[],[(i,some id)],[]⟩else .aa|_=> .aa
 | .iR i,.js=> .aA ⟨[],[(i,none)],[]⟩| .cu i off,.dx id ver b=> .dS id λ|some (cv,.eu _ _)=>bif ea cv ver&&ea off b then .aA ⟨[],[(i,some id)],[]⟩else .aa|_=> .aa
 | .j6,.js=> .aA .e| .TN f,.rN f'=>bif ea f f' then .aA .e else .aa| .sZ,.ku=> .aA .e|_,_=> .aa
def sW(E:aq):List lj->List aU->RM Sc| [],[]=> .aA .e|c::l,a::m=>(wx E c a).aB λ x=>(sW E l m).aB λ y=> .aA (x.b y)|_,_=> .aa
def Az(E:aq):ki->bQ->RM Sc| .v (.aj t),s=>(jd E t s).aB λ x=> .aA ⟨[⟨t,x.1⟩],[],x.2⟩| .v c,.v a=>wx E c a| .B6 l,.ju m=>sW E l m| .B6 l,.v (.aE t d)=>bif t.c then sW E l (tn t d)else .aa|_,_=> .aa
def xx(E:aq):List (Nat×ki)->RM Sc| []=> .aA .e| (d,t)::r=> .nh d λ|some ⟨[],_,s⟩=>(Az E t s).aB λ x=>(xx E r).aB λ y=> .aA (x.b y)|_=> .aa
def yg(E:aq)(a:List (Nat×Option Nat))(i:Nat):mS->RM Sc
 | .jH e=>match Map.av a i with
  |some none=> .aA ⟨[⟨.aH e,([]:List e.b)⟩],[],[]⟩|some (some id)=> .dS id λ|some (_,.c8 b l)=>bif fu (b=e)then .aA ⟨[⟨.aH b,l⟩],[],[]⟩else .aa|_=> .aa
  |none=> .aa
 | .cp t l=>match Map.av a i with
  |some (some id)=> .dS id λ|some (_,.eu u cells)=>bif fu (u=t)then sW E l cells else .aa|_=> .aa
  |_=> .aa
 | .tU k v=>match Map.av a i with
  |some (some id)=> .dS id λ|some (_,.kB k' v' l)=>bif fu (k'=k/\v'=v)then .aA ⟨[⟨.cO k' v',l⟩],[],[]⟩else .aa|_=> .aa
  |_=> .aa
def xH(E:aq):List (Nat×Option Nat)->List (Nat×mS)->RM Sc|_,[]=> .aA .e|a,(i,t)::r=>(yg E a i t).aB λ x=>(xH E (a++x.c) r).aB λ y=> .aA (x.b y)
def Tb(E:aq)(T:cf):=(xx E T.d).aB λ x=>(xH E x.c T.e).aB λ y=> .aA (x.b y)
def Hz(p q:Nat×Option Nat):Bool:=bif ea p.1 q.1 then(match p.2,q.2 with|none,none=>true|some a,some b=>ea a b|_,_=>false) else(match p.2,q.2 with|some a,some b=>!ea a b|_,_=>true)
def Jw(T:cf)(S:Sc):=(S.c.all λ p=>S.c.all (Hz p))&& (S.c.all λ p=>match Map.av T.e p.1 with|some _=>true|none=>false)&&S.c.all λ p=>match p.2 with|some id=>!S.f.any λ q=>ea q.1 id|none=>true
@[reducible] def cR:List Ty->Type
 | []=>Unit
 |t::ts=>t.b×cR ts
def Ep:(a:List Ty)->List iK->Option (cR a)
 | [],[]=>some ()|t::a,d::ds=>match gN (t:=d.t) (t':=t) d.d,Ep a ds with|some x,some r=>some (x,r)|_,_=>none
 |_,_=>none
def CK:(a:List Ty)->cR a->List iK| [],_=> []|t::a,(x,r)=> ⟨t,x⟩::CK a r
def ot:List Nat->List Nat->Bool| [],[]=>true|a::l,b::m=>ea a b&&ot l m|_,_=>false
theorem EW:{l m:List Nat}->ot l m=true->l=m
 | [],[],_=>rfl|a::l,b::m,h=>by simp only[ot,b2]at h;rw[cU h.1,EW h.2]| [],_::_,h=>by cases h|_::_,[],h=>by cases h
def ky(E:aq)(T:cf)(st:au):=(Tb E T).jT st λ S=>bif Jw T S&&ea st.N T.N&&ot st.c T.c then Ep T.b S.d else none
def DT:lj->List iK->Option (aU×List iK)| .aj _,⟨t,d⟩::r=>some (.aE t d,r)| .pp _,⟨t,d⟩::r=>some (.gB t d,r)| .iR i,r=>some (.dj i 0,r)| .cu i off,r=>some (.dx i 0 off,r)| .j6,r=>some (.js,r)| .TN f,r=>some (.rN f,r)| .sZ,r=>some (.ku,r)|_,[]=>none
def AP:List lj->List iK->Option (List aU×List iK)| [],r=>some ([],r)|c::l,r=>match DT c r with
  |some (a,r)=>match AP l r with|some (m,r)=>some (a::m,r)|none=>none
  |none=>none
def yv:ki->List iK->Option (bQ×List iK)
 | .v c,r=>match DT c r with|some (a,r)=>some (.v a,r)|none=>none
 | .B6 l,r=>match AP l r with|some (m,r)=>some (.ju m,r)|none=>none
def pY:List (Nat×ki)->List iK->Option (List (Nat×fX)×List iK)| [],r=>some ([],r)| (d,t)::l,r=>match yv t r with
  |some (s,r)=>match pY l r with|some (m,r)=>some ((d,⟨[],true,s⟩)::m,r)|none=>none
  |none=>none
def Ih:mS->List iK->Option (fJ×List iK)
 | .jH _,⟨.aH e,l⟩::r=>some (.c8 e l,r)| .cp t l,r=>match AP l r with|some (m,r)=>some (.eu t m,r)|none=>none
 | .tU _ _,⟨.cO k v,l⟩::r=>some (.kB k v l,r)|_,_=>none
def Ci:List (Nat×mS)->List iK->Option (List (Nat×(Nat×fJ))×List iK)| [],r=>some ([],r)| (i,t)::l,r=>match Ih t r with
  |some (o,r)=>match Ci l r with|some (m,r)=>some ((i,(0,o))::m,r)|none=>none
  |none=>none
def mk(T:cf)(d:cR T.b):au:=match pY T.d (CK T.b d)with
 |some (s,r)=>match Ci T.e r with|some (h,_)=> ⟨T.N,[],s,h,T.c⟩|none=> ⟨T.N,[],[],[],T.c⟩
 |none=> ⟨T.N,[],[],[],T.c⟩
variable{P:ei}{E:aq}{w0:bC}{w:ef}{conc:bf}{st:au}{a:kg}
theorem LD:(a:List Ty)->{b:List iK}->{d:cR a}->Ep a b=some d->CK a d=b
 | [],[],d,h=>rfl| [],_::_,d,h=>by trivial|t::a,[],d,h=>by trivial|t::a,⟨u,y⟩::b,d,h=>by
  simp[Ep]at h;split at h
  rename_i x r g f;cases h;obtain⟨e,c⟩:=kC g;subst e;subst c;simp only[CK,LD a f];trivial
def yK(conc:bf)(b:List (Nat×Option Nat))(a:bf):=∀i s,(i,s)∈b->match s with|none=>a i=some (0,.slice none 0 0,true)|some id=>∃cv c,conc id=some (cv,c,true)/\a i=some (0,c,true)
structure lC(w:ef)(conc:bf)(S:Sc)(F:List Nat)(a:bf):Prop where
 f:∀id∈aV S.f,id∈F
 e:yK conc S.c a
 d:cM w (ae (bB conc F)) (ae a)
 g:a.b=conc.b
theorem lC.b{x y a}(h:lC w conc (x.b y) F a):lC w conc x F a:= ⟨λ id b=>h.f _ (by grind[Sc.b,jZ,gl]),λ i s b=>h.e i s (by grind[Sc.b,gl]),h.d,h.g⟩
theorem lC.c{x y:Sc}{a}(h:lC w conc (x.b y) F a):lC w conc y F a:= ⟨λ id b=>h.f _ (by grind[Sc.b,jZ,hS]),λ i s b=>h.e i s (by grind[Sc.b,hS]),h.d,h.g⟩
theorem aw.c{t d vs w ok ok'}(h:aw P t w ok vs d)(a:cM w ok ok'):aw P t w ok' vs d:=h.b t ⟨eb _,λ _ _ _=>rfl⟩ a
theorem J3{S a}(h:lC w conc S F a):cM w (ae conc) (ae a):=(sX w _ F).b (eb _) h.d
def Tu(P:ei)(w:ef)(conc:bf)(c:lj)(S:Sc)(v:eg):=∃y,(∀r,DT c (S.d++r)=some (y,r))/\∀F a,lC w conc S F a->bN P w a (ae a) y v
theorem KD(z:al P E)(h:aD P w0 conc st a w){c x v S}(f:(wx E c x).af st=some S)(j:bN P w conc (ae conc) x v):Tu P w conc c S v:=by
 have named:∀{i id cv:Nat}{o:fJ}{Q:eg->Prop}(y:aU),Map.av st.b id=some (cv,o)->(∀c t,fS P w conc (ae conc) c t o->t=true)->Nm conc id cv v Q->S= ⟨[],[(i,some id)],[]⟩->(∀r,DT c r=some (y,r))->(∀g,Nm g i 0 v Q->bN P w g (ae g) y v)->Tu P w conc c S v:=by intro i id cv o Q y m H j D G J;subst D;have⟨c2,t,k1,K,L⟩:=sR h m j;have:=H _ _ K;subst this;refine⟨y,G,λ F g e=>J g ?_⟩;have⟨N,c3,A,p2⟩:=e.e i (some id) (by simp);rw[k1]at A;cases A;have⟨_,_,_,_,_,M,_⟩:=j;exact⟨0,c2,true,p2,eb _,M,λ _=>L⟩
 unfold wx at f;split at f
 obtain⟨d,q,s⟩:=RM.aI f;cases s;obtain⟨us,n,p⟩:=Ca z h q j;exact⟨_,λ r=>rfl,λ F g e=> ⟨us,n,(p F e.f).2.c e.d⟩⟩;obtain⟨d,q,s⟩:=RM.aI f;cases s;refine⟨_,λ r=>rfl,λ F g e=>?_⟩;obtain⟨b,off,cs,T,fr,k,l,u,B,C⟩:=(AQ z h q j F e.f).2;exact⟨b,off,cs,T,fr,k,e.d b l (ej.1 u).1,u,B,C.c e.d⟩;rename_i i id ver;simp only[RM.af]at f;split at f
 iterate 2
  rename_i m;obtain⟨k,l⟩:=dE f;have:=cU k;subst this;exact named (.dj i 0) m (λ _ _ h=>h.1) j (by cases l;rfl) (λ _=>rfl) λ _ h=>h
 trivial;rename_i i;cases f;refine⟨_,λ r=>rfl,λ F g e=>?_⟩;have:=e.e i none (by simp);have I:v= .slice none 0 0:=j;subst I;exact⟨0,_,_,this,eb _,rfl,λ _=>rfl⟩;simp only[RM.af]at f;split at f;rename_i m;obtain⟨k,l⟩:=dE f;simp only[b2]at k;have n:=cU k.1;have p:=cU k.2;subst n p;exact named _ m (λ _ _ h=>h.1) j (by cases l;rfl) (λ _=>rfl) λ _ h=>h;trivial;cases f;exact⟨_,λ r=>rfl,λ F g e=>j⟩;obtain⟨k,l⟩:=dE f;cases l;have:=cU k;subst this;exact⟨_,λ r=>rfl,λ F g e=>j⟩;cases f;exact⟨_,λ r=>rfl,λ F g e=>by
  show v=_;rw[e.g];trivial⟩;trivial
theorem B7(f:al P E)(h:aD P w0 conc st a w):{cs:List lj}->{xs:List aU}->{vs:List eg}->{S:Sc}->(sW E cs xs).af st=some S->bU (bN P w conc (ae conc)) xs vs->∃ys,(∀r,AP cs (S.d++r)=some (ys,r))/\∀F e,lC w conc S F e->bU (bN P w e (ae e)) ys vs
 | [],[],vs,S,b,d=>by cases b;cases vs with|nil=>exact⟨_,λ r=>rfl,λ _ _ _=>trivial⟩|cons _ _=>trivial
 | [],_::_,vs,S,b,d=>by trivial|_::_,[],vs,S,b,d=>by trivial|c::cs,x::xs,[],S,b,d=>d.elim|c::cs,x::xs,v::vs,S,b,d=>by rw[sW]at b;have⟨q,k,l⟩:=RM.aI b;have⟨s,m,n⟩:=RM.aI l;cases n;have⟨y,o,i⟩:=KD f h k d.1;have⟨ys,p,j⟩:=B7 f h m d.2;refine⟨y::ys,λ r=>?_,λ F e g=> ⟨i F e g.b,j F e g.c⟩⟩;grind[AP,Sc.b,jA]
theorem afZ(i:al P E)(h:aD P w0 conc st a w){t S}(f:(Az E t s).af st=some S)(j:di P w conc (ae conc) s v):∃y,(∀r,yv t (S.d++r)=some (y,r))/\∀F c,lC w conc S F c->di P w c (ae c) y v:=by
 unfold Az at f;split at f
 obtain⟨d,o,p⟩:=RM.aI f;cases p;obtain⟨us,b,g⟩:=nO i h o j;exact⟨_,λ r=>rfl,λ F c e=> ⟨_,b,(g F e.f).2.c e.d⟩⟩;obtain⟨y,b,g⟩:=KD i h f j;exact⟨.v y,λ r=>by grind[yv],g⟩;obtain⟨vs,l,b,g⟩:=j;obtain⟨ys,m,k⟩:=B7 i h f g;exact⟨.ju _,λ r=>by grind[yv],λ F c e=> ⟨_,l,b,k F _ e⟩⟩;obtain⟨q,n⟩:=dE f;obtain⟨vs,l,b⟩:=j;obtain⟨ys,m,k⟩:=B7 i h n (Al _ b);exact⟨.ju _,λ r=>by grind[yv],λ F c e=> ⟨_,by grind[Ty.d],b.f,k F _ e⟩⟩;trivial
theorem Mg(i:al P E)(h:aD P w0 conc st a w):{l:List (Nat×ki)}->{S:Sc}->(xx E l).af st=some S->∃ys,(∀r,pY l (S.d++r)=some (ys,r))/\∀F c,lC w conc S F c->∀d sl,(d,sl)∈ys->sl.L= []/\sl.g=true/\∃v,a.tmps[d]?=some v/\di P w c (ae c) sl.s v
 | [],S,b=>by cases b;exact⟨_,λ r=>rfl,by grind⟩| (k,t)::l,S,b=>by
  simp[xx,RM.af]at b;split at b
  rename_i g s x;obtain⟨G,o,p⟩:=RM.aI b;obtain⟨H,q,u⟩:=RM.aI p;cases u;obtain⟨v,z,A⟩:=h.k k _ x;have B:=(A.b (cG _)).2;obtain⟨y,C,m⟩:=afZ i h o B;obtain⟨ys,D,n⟩:=Mg i h q;refine⟨(k,⟨[],true,y⟩)::ys,λ r=>?_,λ F c j d sl f=>?_⟩
  grind[pY,Sc.b,jA]
  rcases gg.1 f with e|f;cases e;exact⟨rfl,rfl,v,z,m F _ j.b⟩;exact n F _ j.c d _ f;trivial
theorem Map.ll{v}(h:Map.av m k=some v):(k,v)∈m:=by induction m with|nil=>cases h|cons p r a=>grind[Map.av,gF,fH,gw]
theorem Map.RE{α}{m:List (Nat×α)}{k}(h:Map.av m k=none):∀v,(k,v)∉m:=by induction m with|nil=>simp|cons p r a=>grind[Map.av,gF]
theorem Wy(N:al P E)(h:aD P w0 conc st a w){K t S}(d:(yg E K i t).af st=some S):∃o,(∀r,Ih t (S.d++r)=some (o,r))/\∀F f,lC w conc S F f->yK conc K f->∃c,f i=some (0,c,true)/\fS P w f (ae f) c true o:=by
 unfold yg at d;split at d
 rename_i e;split at d;rename_i p;cases d;refine⟨_,λ r=>rfl,λ F f m n=> ⟨_,n i _ (Map.ll p),rfl,by grind⟩⟩;rename_i id p;simp only[RM.af]at d;split at d;rename_i cv L l v;obtain⟨H,s⟩:=dE d;cases s;refine⟨.c8 L l,λ r=>rfl,λ F f m n=>?_⟩;obtain⟨G,c2,g,p2⟩:=n i (some id) (Map.ll p);obtain⟨c,J,k1,q⟩:=pW h v;rw[k1]at g;cases g;refine⟨_,p2,rfl,?_⟩;obtain⟨_,q| ⟨b,off,cap,cs,T,y,z,B,A,C,R⟩⟩:=q
 grind
 exact .inr ⟨b,_,_,_,T,y,z,B,A,C,λ j x D=>(R j x D).c (J3 m)⟩;trivial;trivial;rename_i t l;split at d;rename_i id p;simp only[RM.af]at d;split at d;rename_i cv u cells v;obtain⟨H,s⟩:=dE d;have Q:u=t:=by grind
 subst Q;obtain⟨c,J,k1,q⟩:=pW h v;obtain⟨rfl,b,cs,T,y,z,B,A,C⟩:=q;obtain⟨ys,Z,M⟩:=B7 N h s C;refine⟨.eu u ys,λ r=>by grind[Ih],λ F f m n=>?_⟩;obtain⟨G,c2,g,p2⟩:=n i (some id) (Map.ll p);rw[k1]at g;cases g;have I:=M F f m;exact⟨_,p2,rfl,b,_,T,y,z,by rw[I.b,<-C.b];omega,A,I⟩;trivial;trivial;rename_i k u;split at d;rename_i id p;simp only[RM.af]at d;split at d;rename_i cv k' Y l v;obtain⟨H,s⟩:=dE d;cases s;refine⟨.kB k' Y l,λ r=>rfl,λ F f m n=>?_⟩;obtain⟨G,c2,g,p2⟩:=n i (some id) (Map.ll p);obtain⟨c,J,k1,q⟩:=pW h v;rw[k1]at g;cases g;refine⟨_,p2,rfl,?_⟩;obtain⟨_,b,es,clock,y,z,B,A⟩:=q;refine⟨b,es,clock,y,z,B,λ j x e D O=>?_⟩;obtain⟨⟨ks,U,V⟩,us,W,X⟩:=A j x e D O;exact⟨⟨_,U,V.c (J3 m)⟩,_,W,X.c (J3 m)⟩;trivial;trivial
theorem Lj(q:al P E)(h:aD P w0 conc st a w):{l:List (Nat×mS)}->{n:List (Nat×Option Nat)}->{S:Sc}->(xH E n l).af st=some S->∃ys,(∀r,Ci l (S.d++r)=some (ys,r))/\(∀F b,lC w conc S F b->yK conc n b->∀i d,(i,d)∈ys->d.1=0/\∃c,b i=some (0,c,true)/\fS P w b (ae b) c true d.2)/\∀i t,(i,t)∈l->∃d,(i,d)∈ys
 | [],n,S,m=>by cases m;exact⟨_,λ r=>rfl,by grind,by grind⟩| (k,t)::l,n,S,m=>by
  simp[xH]at m;have⟨H,y,z⟩:=RM.aI m;have⟨I,A,B⟩:=RM.aI z;cases B;have⟨o,C,v⟩:=Wy q h y;have⟨ys,D,x,G⟩:=Lj q h A;refine⟨(k,(0,o))::ys,λ r=>?_,λ F b p u i d g=>?_,λ i t' g=>?_⟩
  grind[Ci,Sc.b,jA]
  rcases gg.1 g with e|g;cases e;exact⟨rfl,v F _ p.b u⟩;refine x F b p.c (λ j s f=>?_) i d g;rcases kn.1 f with f|f
  exact u j s f;exact p.b.e j s f;grind
def gV(conc:bf)(S:Sc):=∀i id,(i,some id)∈S.c->∃cv c,conc id=some (cv,c,true)
theorem gV.c{x y}(h:gV conc x)(b:gV conc y):gV conc (x.b y):=by
 intro i id a;rcases kn.1 a with a|a
 exact h i _ a;exact b i _ a
theorem gV.b{a b}:gV conc ⟨a,[],b⟩:=λ _ _ h=>(by cases h)
theorem Ry(h:aD P w0 conc st a w){c x S}(b:(wx E c x).af st=some S):gV conc S:=by
 have l:∀{i id cv:Nat}{o:fJ},Map.av st.b id=some (cv,o)->(∀c k,fS P w conc (ae conc) c k o->k=true)->gV conc ⟨[],[(i,some id)],[]⟩:=by intro i id cv o f q j r n;grind[fR,pW]
 unfold wx at b;split at b
 obtain⟨d,m,g⟩:=RM.aI b;cases g;exact gV.b;obtain⟨d,m,g⟩:=RM.aI b;cases g;exact gV.b;simp only[RM.af]at b;split at b
 iterate 2
  rename_i f;obtain⟨_,e⟩:=dE b;cases e;exact l f λ _ _ h=>h.1
 trivial;cases b;intro i id n;trivial;simp only[RM.af]at b;split at b;rename_i f;obtain⟨_,e⟩:=dE b;cases e;exact l f λ _ _ h=>h.1;trivial;cases b;exact gV.b;obtain⟨p,e⟩:=dE b;cases e;exact gV.b;cases b;exact gV.b;trivial
theorem Bc(h:aD P w0 conc st a w):{cs:List lj}->{xs:List aU}->{S:Sc}->(sW E cs xs).af st=some S->gV conc S| [],[],S,b=>by cases b;exact gV.b| [],_::_,S,b=>by trivial|_::_,[],S,b=>by trivial|c::cs,x::xs,S,b=>by rw[sW]at b;have⟨i,d,e⟩:=RM.aI b;have⟨j,f,g⟩:=RM.aI e;cases g;exact(Ry h d).c (Bc h f)
theorem ah5(h:aD P w0 conc st a w){t S}(b:(Az E t s).af st=some S):gV conc S:=by
 unfold Az at b;split at b
 obtain⟨d,g,c⟩:=RM.aI b;cases c;exact gV.b
 grind[Ry]
 grind[Bc]
 obtain⟨e,f⟩:=dE b
 grind[Bc];trivial
theorem KU(h:aD P w0 conc st a w):{l:List (Nat×ki)}->{S:Sc}->(xx E l).af st=some S->gV conc S
 | [],S,b=>by cases b;exact gV.b| (k,t)::l,S,b=>by
  simp[xx,RM.af]at b;split at b
  obtain⟨g,c,d⟩:=RM.aI b;obtain⟨i,e,f⟩:=RM.aI d;cases f;exact(ah5 h c).c (KU h e);trivial
theorem agn(h:aD P w0 conc st a w){c t S}(b:(yg E c i t).af st=some S):gV conc S:=by unfold yg at b;grind[gV.b,RM.af,Bc]
theorem O2(h:aD P w0 conc st a w):{l:List (Nat×mS)}->{c:List (Nat×Option Nat)}->{S:Sc}->(xH E c l).af st=some S->gV conc S| [],c,S,b=>by cases b;exact gV.b| (k,t)::l,c,S,b=>by simp[xH]at b;have⟨i,d,e⟩:=RM.aI b;have⟨j,f,g⟩:=RM.aI e;cases g;exact(agn h d).c (O2 h f)
theorem GR(aa:al P E)(h:aD P w0 conc st a w){T:cf}{d:cR T.b}(D:ky E T st=some d):∃A,aD P w0 A (mk T d) a w/\
 ∀i v c b,A i=some (v,c,true)->dB c b->∃aH v' c',conc aH=some (v',c',true)/\dB c' b:=by
 unfold ky at D;rw[RM.sH]at D;cases Q:(Tb E T).af st with
 |none=>rw[Q]at D;cases D
 |some S=>
  rw[Q]at D;simp[eo]at D;cases I:(Jw T S&&ea st.N T.N&&ot st.c T.c)with
  |false=>rw[I]at D;cases D
  |true=>
   rw[I]at D;simp[cond_true]at D;have au:=LD _ D;simp only[b2]at I;have⟨⟨I,O⟩,ac⟩:=I;have O:=cU O;have ac:=EW ac;unfold Jw at I;simp only[b2]at I;have⟨⟨aB,aC⟩,aE⟩:=I;have⟨x,Y,an⟩:=RM.aI Q;have⟨y,Z,ao⟩:=RM.aI an;cases ao;have⟨sl,ah,V⟩:=Mg aa h Y;have⟨aJ,ai,aj,ak⟩:=Lj aa h Z;have aw:mk T d= ⟨T.N,[],sl,aJ,T.c⟩:=by
    unfold mk;rw[au];simp[Sc.b];rw[ah y.d];dsimp only;have:=ai [];rw[nb]at this;rw[this]
   rw[aw]
   let F:List Nat:=aV (x.b y).f
   let A:bf:= ⟨λ i=>match Map.av (x.b y).c i with
    |some none=>some (0,.slice none 0 0,true)
    |some (some id)=>match conc id with
     |some (_,c,K)=>some (0,c,K)
     |none=>none
    |none=>none,conc.B,conc.b⟩
   have aK:∀i id,(i,some id)∈(x.b y).c->id∉F:=by
    intro i id C ap;have:=eL.1 aE _ C;simp only[fb,mm]at this;have⟨q,az,aA⟩:=List.mem_map.1 ap;exact this q az (by simp[aA])
   have aL:∀i s,(i,s)∈(x.b y).c->Map.av (x.b y).c i=some s:=by
    intro i s C;cases G:Map.av (x.b y).c i with
    |none=>exact absurd C (Map.RE G s)
    |some s'=>
     have:=eL.1 (eL.1 aB _ C) _ (Map.ll G);simp[Hz,gF,decide_true,cond_true]at this;cases s<;>cases s'<;>simp at this⊢
     exact this.symm
   have L:∀i c,A i=some (0,c,true)->c= .slice none 0 0\/∃id cv,(i,some id)∈(x.b y).c/\conc id=some (cv,c,true):=by
    intro i c z;simp[A]at z;split at z
    cases z;exact .inl rfl;rename_i id G;split at z;rename_i cv c' K H;cases z;exact .inr ⟨id,cv,Map.ll G,H⟩;cases z;cases z
   have M:∀i v c K,A i=some (v,c,K)->v=0:=by
    intro i v c K z;simp[A]at z;split at z
    cases z;rfl;split at z;cases z;rfl;cases z;cases z
   have aF:cM w (ae (bB conc F)) (ae A):=by
    intro b J _;refine⟨J.1,λ i v c z ab=>?_⟩;have:=M i v c true z;subst this;rcases L i c z with rfl| ⟨id,cv,C,H⟩
    cases ab;refine J.2 id cv c ?_ ab;simp[bB,H,aK i id C]
   have ay:gV conc (x.b y):=(KU h Y).c (O2 h Z);have ad:yK conc (x.b y).c A:=by
    intro i s C;have G:=aL i s C;cases s with
    |none=>simp[A,G]
    |some id=>
     have⟨cv,c,z⟩:=ay i id C;exact⟨cv,c,z,by simp[A,G,z]⟩
   have R:lC w conc (x.b y) F A:= ⟨λ id B=>B,ad,aF,rfl⟩;have av:yK conc x.c A:=λ i s B=>ad i s (by simp only[Sc.b];exact gl _ B);refine⟨A,{g:=h.g,n:=by rw[h.n,O],m:=?_,k:=?_,q:=?_,r:=?_,t:=?_,f:=?_,e:=h.e,u:=h.u,x:=h.x,h:=h.h,l:=λ s aP=>h.l s (by grind)},λ i v c b B J=>?_⟩
   intro N s' U p hp;rw[(V F A R.b N s' (Map.ll U)).1]at hp;trivial;intro N s' U;obtain⟨W,am,v,X,aN⟩:=V F A R.b N s' (Map.ll U);exact⟨v,X,⟨by grind,absurd (by rw[W];exact cG _)⟩⟩;intro i v o ax;obtain⟨W,c,am,X⟩:=aj F A R.c av i (v,o) (Map.ll ax)
   grind
   intro i B;cases G:Map.av (x.b y).c i with
   |none=>grind
   |some s=>
    have:=eL.1 aC _ (Map.ll G);cases aG:Map.av T.e i with
    |none=>grind
    |some t=>
     obtain⟨aT,aQ⟩:=ak i t (Map.ll aG)
     grind[absurd,Map.RE]
   intro i j aR aS c c' b B af J aq;have e:=M _ _ _ _ B;have ag:=M _ _ _ _ af;subst e;subst ag;rcases L i c B with rfl| ⟨id,cv,C,H⟩
   trivial;rcases L j c' af with rfl| ⟨aI,aM,aO,ar⟩;trivial;have:=h.t id aI _ _ _ _ b H ar J aq
   grind[eL,Hz,gF,decide_true,nL]
   intro i v c b B J;have e:=M _ _ _ _ B;subst e;rcases L i c B with rfl| ⟨id,cv,C,H⟩
   trivial;exact h.f _ _ c b H J;have e:=M _ _ _ _ B;subst e;rcases L i c B with rfl| ⟨id,cv,C,H⟩
   trivial
   grind
theorem Aa(c:al P E)(h:cT P w0 st a w){T d}(e:ky E T st=some d):cT P w0 (mk T d) a w:=by have⟨conc,h⟩:=h;have⟨f,b,_⟩:=GR c h e;exact⟨_,b⟩
end
section
variable[Dr]
variable {a:kg} {w:ef} {st:au} {n:Nat} {i:Bool} {o:k9} {r:Option Nat} {s:Nat} {Q:hz->kg->ef->Prop} {l:Nat} {x:bQ}
inductive dN where|ou (id:Nat)|sT
def dN.c:dN->hz->Bool| .ou i,.exit j=>ea i j| .sT,.ret=>true|_,_=>false
def dN.b:dN->hz| .ou i=> .exit i| .sT=> .ret
@[reducible] def iI(R:Type):List (dN×cf)->Type
 | []=>Unit
 |x::r=>(cR x.2.b->Option R)×iI R r
def kK{R:Type}(K:hz->au->Option R):(X:List (dN×cf))->iI R X| []=>()|x::r=>(λ d=>K x.1.b (mk x.2 d),kK K r)
def pB{R:Type}(E:aq):(X:List (dN×cf))->iI R X->hz->au->Option R| [],_,_,_=>none|x::r,k,e,st=>bif x.1.c e then(ky E x.2 st).bind k.1 else pB E r k.2 e st
def cq{D a R:Type}(body:D->(D->Option R)->a->Option R):Nat->D->a->Option R|0,_,_=>none|n+1,d,k=>body d (λ d=>cq body n d k) k
def la{D α a R:Type}(body:D->α->(D->Option R)->a->Option R)(k:a)(done:D->Option R):List α->D->Option R| [],d=>done d|x::r,d=>body d x (λ d=>la body k done r d) k
def mL{R:Type}(E:aq)(T:cf)(X:List (dN×cf))(again:cR T.b->Option R)(k:iI R X):hz->au->Option R| .normal,st=>(ky E T st).bind again|e,st=>pB E X k e st
def mG{R:Type}(n:Nat)(E:aq)(T:cf)(X:List (dN×cf))(body:cR T.b->(cR T.b->Option R)->iI R X->Option R):Ev R:=λ st K=>(ky E T st).bind λ d=>cq body n d (kK K X)
structure lU(s s':bC):Prop where
 k:s'.w.os=s.w.os
 f:s'.w.tape=s.w.tape
 c:eW s.w s'.w
 e:s.w.heap.size<=s'.w.heap.size
 d:∀b,b<s.w.heap.size->¬s.M b->s'.w.heap[b]?=s.w.heap[b]?
 M:∀b,s'.M b->s.M b\/(s.w.heap.size<=b/\b<s'.w.heap.size)
 B:∀b,s'.B b↔s.B b
 m:s'.e=s.e
 p:s'.d=s.d
 q:s'.f=s.f
 g:s'.b=s.b
structure jz(s s':bC):Prop where
 j:s'.w.os=s.w.os
 g:s'.w.tape=s.w.tape
 c:eW s.w s'.w
 d:s.w.heap.size<=s'.w.heap.size
 e:∀b,b<s.w.heap.size->¬s.M b->s'.w.heap[b]?=s.w.heap[b]?
 M:∀b,s'.M b->s.M b\/s.w.heap.size<=b
 q:∀b,b<s.w.heap.size->s.B b->s'.B b
 p:∀b,b<s.d->s'.B b->s.B b
 h:s'.d=s.d
 m:s'.b=s.b
theorem jz.f{a b c}(h:jz a b)(k:jz b c):jz a c where
 j:=k.j.trans h.j
 g:=k.g.trans h.g
 c:=k.c.b h.c
 d:=eH h.d k.d
 e:=λ i f o=>(k.e i (ev f h.d) λ r=>by
  rcases h.M i r with l|l;all_goals grind).trans (h.e i f o)
 M:=λ i f=>by
  rcases k.M i f with l|l
  exact h.M i l;exact .inr (eH h.d l)
 q:=λ i f n=>k.q i (ev f h.d) (h.q i f n)
 p:=λ i f n=>h.p i f (k.p i (by rw[h.h];omega) n)
 h:=k.h.trans h.h
 m:=k.m.trans h.m
theorem jz.k(s):jz s s:= ⟨rfl,rfl,⟨rfl,by omega⟩,eb _,λ _ _ _=>rfl,λ _ h=> .inl h,λ _ _ h=>h,λ _ _ h=>h,rfl,rfl⟩
theorem lU.h{s s'}(h:lU s s'):jz s s':= ⟨h.k,h.f,h.c,h.e,h.d,λ b a=>(h.M b a).imp id λ g=>g.1,λ b _ a=>(h.B b).2 a,λ b _ a=>(h.B b).1 a,h.p,h.g⟩
theorem lU.t(s):lU s s:= ⟨rfl,rfl,⟨rfl,by omega⟩,eb _,λ _ _ _=>rfl,λ _ h=> .inl h,λ _=>j1,rfl,rfl,rfl,rfl⟩
theorem lU.j{a b c}(h:lU a b)(k:lU b c):lU a c where
 k:=k.k.trans h.k
 f:=k.f.trans h.f
 c:=k.c.b h.c
 e:=eH h.e k.e
 d:=λ i l o=>(k.d i (ev l h.e) λ r=>by
  rcases h.M i r with j|j;all_goals grind).trans (h.d i l o)
 M:=λ i l=>by
  rcases k.M i l with j|j
  rcases h.M i j with n|n
  grind
  exact .inr ⟨n.1,ev n.2 k.e⟩;exact .inr ⟨eH h.e j.1,j.2⟩
 B:=λ i=>(k.B i).trans (h.B i)
 m:=k.m.trans h.m
 p:=k.p.trans h.p
 q:=k.q.trans h.q
 g:=k.g.trans h.g
def cZ(conc:bf)(b:Nat):=∃i v c,conc i=some (v,c,true)/\dB c b
def bC.c(w0:bC)(conc:bf)(a:kg)(w:ef):bC:= ⟨w,w0.B,cZ conc,a.defers,w0.b,w0.e,w0.d⟩
variable{P:ei}{E:aq}{R:Type}
theorem aD.C{w0 conc}(h:aD P w0 conc st a w):lU w0 (w0.c conc a w) where
 k:=h.e.i
 f:=h.e.g
 c:=h.e.f
 e:=h.e.d
 d:=h.e.e
 M:=λ b⟨i,v,c,j,l⟩=>by
  rcases(h.f i v c b j l).1 with g|g
  exact .inr ⟨g,(h.f i v c b j l).2⟩;grind
 B:=λ _=>j1
 m:=rfl
 p:=rfl
 q:=h.g
 g:=rfl
theorem aD.y{w0 conc}(h:aD P w0 conc st a w):aD P (w0.c conc a w) conc st a w:={h with
  g:=rfl
  f:=λ i v c b h1 j=> ⟨.inr ⟨i,v,c,h1,j⟩,(h.f i v c b h1 j).2⟩
  e:= ⟨rfl,rfl,⟨rfl,λ _=>eb _⟩,eb _,λ _ _ _=>rfl⟩
  u:=h.u
  x:=h.x
  h:={
   i:=λ b k=>h.h.i b (eH h.e.d k)
   e:=λ b⟨i,v,c,h1,j⟩=>h.z h1 j
   f:=λ d o=>by have⟨D,e,h1,j⟩:=h.h.f d (by rw[<-h.g];trivial);have m:=(ej.1 h1).1;exact⟨D,e,(h.e.e D m λ n=>j.1 (h.h.e D n)).trans h1,j⟩
   h:=by show a.defers.Nodup;rw[h.g];exact h.h.h
   g:=eH h.h.g h.e.d}
  l:=h.l}
structure bT(R:Type)where
 c:List Ty
 d:ax c->Option R->Option R->Option R
def bT.b{R:Type}:bT R:= ⟨[],λ _ _ _=>none⟩
def tG{α:Type}(x:α)(A B:Option (List α)):=A.bind λ ys=>B.bind λ a=>match a with| []=>some (x::ys)|_::_=>none
def yY(st:au)(o:k9):Option (List fl×Nat):=match o.guard,o.op,o.dst with
 |none,.call {callee:= .value (.tmp t),args,.. },some d=>match Map.av st.a t with|some ⟨[],_,.v .ku⟩=>some (args.toList,d)|_=>none
 |_,_,_=>none
def zJ(E:aq)(H:bT R)(args:List fl)(d:Nat)(st:au)(K:au->Option R):=bif H.c.isEmpty then none else((sb [] args).aB (rl E H.c)).jT st λ x=>match cD st none (.a (some d) [] true (.v (.aE .aO true)) x.2),cD st none (.a (some d) [] true (.v (.aE .aO false)) x.2)with|some b,some c=>H.d x.1 (K b) (K c)|_,_=>none
def Eg(ops:Array k9)(st:au)(o:k9):Option (List fl×Nat×Nat×Bool×Bool):=match o.guard,o.op,o.dst with
 |some (j,want),.call {callee:= .value (.tmp t),args,.. },some d=>match(ops[j]?).bind (·.dst)with
  |some s=>match Map.av st.a s,Map.av st.a t with|some ⟨[],_,.v (.aE .aO b)⟩,some ⟨[(q,c)],_,.v .ku⟩=>bif ea q s&& (bif want then c else !c)then some (args.toList,d,s,want,b)else none|_,_=>none
  |none=>none
 |_,_,_=>none
def qe(s:Nat)(want:Bool)(p:Nat×fX):Nat×fX:=match p.2.L with| [(q,c)]=>bif ea q s&& (bif want then c else !c)then(p.1,⟨[],true,p.2.s⟩)else p|_=>p
def xK(st:au)(s:Nat)(want:Bool):au:={N:=st.N,d:=st.d,a:=(Map.jw st.a s ⟨[],true,.v (.aE .aO want)⟩).map (qe s want),b:=st.b,c:=st.c}
def GB(st:au)(s d:Nat)(want:Bool):=cD {N:=st.N,d:=st.d,a:=Map.jw st.a s ⟨[],true,.v (.aE .aO (!want))⟩,b:=st.b,c:=st.c} (some s) (.a (some d) [(s,want)] false (.v (.aE .aO false)) [])
def uJ(E:aq)(H:bT R)(ops:Array k9):List k9->au->(au->Option R)->Option R| [],st,K=>K st|o::r,st,K=>match yY st o with|some p=>zJ E H p.1 p.2 st λ st=>uJ E H ops r st K|none=>match Eg ops st o with
   |some q=>bif (bif q.2.2.2.1 then q.2.2.2.2 else !q.2.2.2.2)then zJ E H q.1 q.2.1 (xK st q.2.2.1 q.2.2.2.1) λ st=>uJ E H ops r st K else match GB st q.2.2.1 q.2.1 q.2.2.2.1 with|some st=>uJ E H ops r st K|none=>none
   |none=>Ge E ops o st λ st=>uJ E H ops r st K
def NY(E:aq)(H:bT R)(ops:Array k9)(a:Bool)(st:au)(K:au->Option R):Option R:=bif a then(bif yq 0 ops.toList then(match tA E E.N st with|some st=>Bd E ops (qo ops.toList []) ops.toList [] st λ st=>K (jO st)|none=>none)else none) else uJ E H ops ops.toList st λ st=>K (jO st)
def gP:et->Nat| .seq a b=>gP a+gP b| .cond _ a b=>gP a+gP b| .block _ c=>gP c| .loop _=>1| .rangeFunc .. =>1|_=>0
def dv(E:aq)(H:bT R):et->List (Ev R)->Ev R
 | .skip,_=>λ st K=>K .normal st| .region _ ops d,_=>λ st K=>NY E H ops d st (K .normal)| .seq a b,O=>λ st K=>dv E H a (O.take (gP a)) st λ| .normal,st=>dv E H b (O.drop (gP a)) st K|e,st=>K e st
 | .cond c a b,O=>λ st K=>Oq c st (dv E H a (O.take (gP a)) st K) (dv E H b (O.drop (gP a)) st K)| .block id c,O=>λ st K=>dv E H c O st λ| .exit i,st=>bif ea i id then K .normal st else K (.exit i) st|e,st=>K e st
 | .loop _,O=>match O with| [f]=>f|_=>λ _ _=>none
 | .rangeFunc ..,O=>match O with| [f]=>f|_=>λ _ _=>none
 | .exit i,_=>λ st K=>K (.exit i) st| .ret,_=>λ st K=>K .ret st|_,_=>λ _ _=>none
def bC.g(s:bC)(w':ef):={s with w:=w',B:=λ b=>(b<s.w.heap.size/\s.B b)\/w'.heap.size<=b}
structure oB(P:ei){R:Type}(H:bT R)(i:Bool)(h:bC->R->Prop):Prop where
 d:∀s s' a,h s a->lU s s'->h s' a
 c:H.c≠[]->∀s a,h s a->s.f= []
 g:i=false->H.c= []->∃m l,∀s b,h s b↔(b=l/\jz m s)
 f:H.c≠[]->∀s a x A B k,h s a->sQ s->H.d x A B=some a->fe P s.w (λ b=>s.B b/\¬s.M b) H.c k x->
  YieldAt kq 5 P s.e k.toArray s.w λ e w'=>Le s.B s.w w'/\∃b,e= .returned (.bool b)/\∃j,(bif b then A else B)=some j/\h (s.g w') j
def eS(P:ei){R:Type}(H:bT R)(i:Bool)(c:et)(f:Ev R):=∀r,r.isSome=i->∀b,oB P H i b->∀K d st a w w0,f st K=some d->cT P w0 st a w->b w0 d->c.wpIn (Fr r) 7 P (λ e a' w'=>∃h g st',cT P h st' a' w'/\b h g/\K e st'=some g) a w
def nN(P:ei){R:Type}(H:bT R)(i:Bool):et->List (Ev R)->Prop| .seq a b,O=>nN P H i a (O.take (gP a))/\nN P H i b (O.drop (gP a))| .cond _ a b,O=>nN P H i a (O.take (gP a))/\nN P H i b (O.drop (gP a))| .block _ c,O=>nN P H i c O| .loop c,O=>∀f,O= [f]->eS P H i (.loop c) f| .rangeFunc g ps x y,O=>∀f,O= [f]->eS P H i (.rangeFunc g ps x y) f|_,_=>True
theorem yy{w0 a w}(c:al P E):(l:List Nat)->{st st':au}->cT P w0 st a w->tA E l st=some st'->cT P w0 st' a w
 | [],st,st',h,b=>by cases b;exact h|n::r,st,st',h,b=>by unfold tA at b;cases i:j2 1000000 n with|false=>rw[i]at b;exact yy c r h b|true=>
   rw[i]at b;simp[cond_true]at b;split at b
   rename_i g id ver k;split at b;rename_i cv u cells p;obtain⟨conc,f⟩:=h;cases e:(qu E u (.dx id ver 0)).af st with
   |none=>rw[e]at b;cases b
   |some d=>
    rw[e]at b;simp only[eo]at b;obtain⟨v,q,o⟩:=f.k _ _ k;have m:bN P w conc (ae conc) (.dx id ver 0) v:=(o.b (cG _)).2;have j:=(AQ c f e m (aV d.2) λ _ h=>h).1;exact yy c r ⟨_,f.A j⟩ b
   exact yy c r h b;exact yy c r h b
theorem aaJ{w0 conc}(k:al P E)(h:aD P w0 conc st a w){c t}(i:((c9 [] c).aB pL).af st=some t):a.eval c= .bool t:=by
 have⟨x,g,b⟩:=RM.aI i;have j:=dQ h (cG _) g;cases x<;>simp[pL]at b<;>try(cases b;done)
 rename_i u d;cases u<;>simp[pL]at b<;>try(cases b;done)
 cases b;have⟨vs,e,f⟩:=j;exact tM e f
theorem QM(g:al P E){w0 K}{c:R}{e st a w}(i:cT P w0 st a w):(X:List (dN×cf))->pB E X (kK K X) e st=some c->∃st',cT P w0 st' a w/\K e st'=some c
 | [],h=>by cases h|x::r,h=>by simp[pB,kK]at h;cases b:x.1.c e with
  |true=>rw[b]at h;simp[cond_true]at h;cases f:ky E x.2 st with|none=>rw[f]at h;cases h|some d=>
    rw[f]at h;have k:x.1.b=e:=by cases j:x.1<;>cases e<;>simp[j,dN.c]at b<;>simp[dN.b,b]
    grind[Aa]
  |false=>rw[b]at h;exact QM g i r h
theorem ab5{n H i}(j:al P E){c O T X}{body:cR T.b->(cR T.b->Option R)->iI R X->Option R} (t:eS P H i c (dv E H c O)) (s:∀d again k,dv E H c O (mk T d) (mL E T X again k)=body d again k):eS P H i (.loop c) (mG n E T X body):=by intro r y l q K m st a w w0 h g u;unfold mG at h;cases b:ky E T st with|none=>rw[b]at h;cases h|some d=>
  rw[b]at h;simp[eo]at h;have g:=Aa j g b;clear b;refine wpIn_loop_rounds n ?_
  induction n generalizing d a w st w0 m with|zero=>cases h|succ n B=>rw[cq,<-s]at h;rw[roundsIn_succ];refine fz (t r y l q _ _ _ _ _ _ h g u) ?_;rintro e a' w'⟨w1,z,st',x,v,f⟩;cases e with
   |normal=>show Code.roundsIn (Fr r) 7 P c _ n a' w';simp[mL]at f;cases b:ky E T st' with|none=>rw[b]at f;cases f|some A=>grind[Aa]
   |_=>have⟨st2,o,p⟩:=QM j x X f;exact⟨_,_,_,o,v,p⟩
theorem adu{f args tys}(c:o.op= .call {callee:= .value f,args:=args,argTypes:=tys}) (b:a.eval f= .func (.yield l) #[] #[]):k4 a.eval o=n3 l (args.map a.eval):=by grind[k4,resolve,hZ,invoke]
theorem UX{m f a assign body Q}(h:RoundIn kq n P l f a assign body w Q):RoundIn (Fr r) m P l f a assign body w Q:= ⟨trivial,λ c cs _=>h.2 c _ (room_wide _)⟩
theorem Lm(ax:al P E){H r i L}(hI:oB P H i L){o:k9}{st a w w0}{t d:Nat}{g args tys K}{Y:R}{n} (ai:o.op= .call {callee:= .value (.tmp t),args:=args,argTypes:=tys}) (aC:o.dst=some d) (aM:Map.av st.a t=some ⟨[],g,.v .ku⟩) (h:zJ E H args.toList d st K=some Y) (y:cT P w0 st a w) (aG:L w0 Y) {next} {Q} (ah:∀a' w' st' ao C,cT P ao st' a' w'->L ao C->K st'=some C->next a' w'):o.wpIn (Fr r) n P a w next Q:=by
 have⟨conc,y⟩:=y
 obtain⟨v,aP,aQ⟩:=y.k t _ aM;have aN:v= .func (.yield conc.b) #[] #[]:=(aQ.b (cG _)).2;have aF:a.eval (.tmp t)= .func (.yield conc.b) #[] #[]:=by simp[nV,aP,aN]
 unfold zJ at h;cases s:H.c.isEmpty with
 |true=>rw[s]at h;cases h
 |false=>
 rw[s]at h;simp only[cond_false]at h;have s:H.c≠[]:=λ e=>by rw[e]at s;cases s
 rw[RM.sH]at h;cases V:((sb [] args.toList).aB (rl E H.c)).af st with
 |none=>rw[V]at h;cases h
 |some x=>
  rw[V]at h;simp only[eo]at h;cases F:cD st none (.a (some d) [] true (.v (.aE .aO true)) x.2)with
  |none=>simp only[F]at h;cases h
  |some am=>
   cases N:cD st none (.a (some d) [] true (.v (.aE .aO false)) x.2)with
   |none=>simp only[F,N]at h;cases h
   |some an=>
    simp only[F,N]at h;obtain⟨l,av,aw⟩:=RM.aI V;have hp:=DF ax y H.c aw (yZ y (cG _) av);obtain⟨ar,Z⟩:=hp (aV x.2) λ _ h=>h;obtain⟨conc1,rfl,m1,m2,aY⟩:=wG y ar;have p:=m1.y;have aS:=m1.C;have U:=hI.d _ _ _ aG aS;have aA:(bB conc (aV x.2)).B=w0.B:=m1.u;have ay:fe P w (λ b=>(w0.c (bB conc (aV x.2)) a w).B b/\¬(w0.c (bB conc (aV x.2)) a w).M b) H.c (args.toList.map a.eval) x.1:=by
     have aI:∀b,ae (bB conc (aV x.2)) b↔(w0.B b/\¬cZ (bB conc (aV x.2)) b):=by
      intro b;unfold ae cZ;rw[aA];refine and_congr j1 ⟨λ T⟨i,v,c,k1,j⟩=>T i v c k1 j,λ T i v c k1 j=>T ⟨i,v,c,k1,j⟩⟩
     have:ae (bB conc (aV x.2))=λ b=>w0.B b/\¬cZ (bB conc (aV x.2)) b:=funext λ b=>propext (aI b);rw[this]at Z;exact Z
    obtain⟨fn,aW,assign,body,X,ap⟩:=hI.f s _ _ _ _ _ _ U p.h h ay;have aR:(w0.c (bB conc (aV x.2)) a w).e=conc.b:=by show w0.e=conc.b;rw[<-y.x]
    rw[aR]at X ap;have aB:∀c,o.op≠ .defer c:=by intro c I;rw[ai]at I;cases I
    refine⟨λ _ _=>trivial,?_⟩;rw[Oper.semAt_eq _ _ _ aB,adu ai aF];have az:(args.toList.map a.eval).toArray=args.map a.eval:=by grind
    rw[az]at X;have aK:(n3 conc.b (args.map a.eval)).run P w= .ok (.round conc.b fn aW assign body) w:=X;rw[aK,Oper.uponIn_round];refine⟨λ e=>by trivial,(UX ap).mono ?_⟩;rintro e w'⟨J,b,rfl,C,aa,ac⟩;show next _ _
    rw[aC];have aX:(w0.c (bB conc (aV x.2)) a w).w=w:=rfl;have ad:∀b,b<w.heap.size->w0.B b->w'.heap[b]?=w.heap[b]?:=J.e
    let A:bf:= ⟨(bB conc (aV x.2)).m,λ b=>(b<w.heap.size/\w0.B b)\/w'.heap.size<=b,(bB conc (aV x.2)).b⟩
    have ag:fU (bB conc (aV x.2)) A:= ⟨rfl,λ id cv c W I=> ⟨cv,c,W,I,.inr ⟨rfl,rfl⟩⟩⟩;have aJ:∀b,ae (bB conc (aV x.2)) b->b<w.heap.size->ae A b:=λ b B D=> ⟨.inl ⟨D,by have:=B.1;grind⟩,B.2⟩;have ak:fN (ae (bB conc (aV x.2))) w w':= ⟨J.d,λ b B D=>ad b D (by have:=B.1;grind)⟩;have aj:cM w (ae (bB conc (aV x.2))) (ae A):=λ b B D=>aJ b B D;have aT:aD P ((w0.c (bB conc (aV x.2)) a w).g w') A {st with b:=eX st.b x.2} a w':={
     g:=rfl
     n:=p.n
     m:=p.m
     k:=λ M sl O=>by
      obtain⟨u,k1,j⟩:=p.k M sl O;exact⟨u,k1,⟨λ af=> ⟨(j.b af).1,(j.b af).2.b ak aj ag⟩,j.d⟩⟩
     q:=λ id ver aU aH=>by
      obtain⟨c,W,k1,j⟩:=p.q id ver aU aH;refine⟨c,W,k1,j.b ak aj ag λ aq z G=>?_⟩;subst aq;exact ad _ (p.f id ver c z k1 G).2 (m1.z k1 G)
     r:=p.r
     t:=p.t
     f:=λ i v c z k1 j=> ⟨.inr ⟨i,v,c,k1,j⟩,ev (p.f i v c z k1 j).2 J.d⟩
     e:= ⟨rfl,rfl,⟨rfl,λ _=>eb _⟩,eb _,λ _ _ _=>rfl⟩
     u:=rfl
     x:=m1.x
     h:={
      i:=λ z G=> .inr G
      e:=λ z⟨i,v,c,k1,j⟩=> .inl ⟨(p.f i v c z k1 j).2,m1.z k1 j⟩
      f:=λ M O=>by
       have S:(w0.c (bB conc (aV x.2)) a w).f= []:=hI.c s _ _ U;have ab:M∈(w0.c (bB conc (aV x.2)) a w).f:=O;rw[S]at ab;cases ab
      h:=by
       have S:(w0.c (bB conc (aV x.2)) a w).f= []:=hI.c s _ _ U;show(w0.c (bB conc (aV x.2)) a w).f.Nodup;rw[S];exact gb
      g:=eH p.h.g J.d}
     l:=m1.l}
    have fin:∀c s',cD st none (.a (some d) [] true (.v (.aE .aO c)) x.2)=some s'->cT P ((w0.c (bB conc (aV x.2)) a w).g w') s' (a.put (some d) (.bool c)) w':=λ c s' aL=>
     nM (W0:=x.2) (conc1:=A) aT aL (lR (conc:=A) c)
    cases b with
    |true=>exact ah _ _ am _ C (fin true am F) ac (by simpa using aa)
    |false=>exact ah _ _ an _ C (fin false an N) ac (by simpa using aa)
theorem ZD(f:al P E){H b}(hI:oB P H i b){w0 p K}{c:R} (l:yY st o=some p) (h:zJ E H p.1 p.2 st K=some c) (j:cT P w0 st a w) (g:b w0 c) {next}  (k:∀a' w' st' e d,cT P e st' a' w'->b e d->K st'=some d->next a' w'):o.wpIn (Fr r) n P a w next Q:=by grind[yY,Lm]
theorem abu{ops l d want b}(h:Eg ops st o=some (l,d,s,want,b)):∃j t args tys g a,o.guard=some (j,want)/\o.op= .call {callee:= .value (.tmp t),args:=args,argTypes:=tys}/\o.dst=some d/\l=args.toList/\(ops[j]?).bind (·.dst)=some s/\Map.av st.a s=some ⟨[],g,.v (.aE .aO b)⟩/\Map.av st.a t=some ⟨[(s,want)],a,.v .ku⟩:=by grind[Eg,ea,cU]
theorem ad1(s)(want)(p):(qe s want p).1=p.1:=by grind[qe,ea]
theorem CX(s)(want):∀l k,Map.av (l.map (qe s want)) k=(Map.av l k).map λ sl=>(qe s want (k,sl)).2| [],_=>rfl| (k',v)::r,k=>by simp[k7];have a:=ad1 s want (k',v);obtain⟨b,v2,hp⟩:∃b v2,qe s want (k',v)=(b,v2):= ⟨_,_,rfl⟩;rw[hp]at a⊢;simp at a;subst a;simp[Map.av];cases c:ea _ k with|true=>simp_all|false=>exact CX s _ r k
theorem LW{want k sl}:(qe s want (k,sl)).2=sl\/(sl.L= [(s,want)]/\(qe s want (k,sl)).2= ⟨[],true,sl.s⟩):=by grind[qe,ea,cU]
theorem R9{w0 conc}(f:aD P w0 conc st a w){c g}(i:Map.av st.a s=some ⟨[],g,x⟩)(hc:a.tmps[s]?=some (.bool c)):aD P w0 conc {N:=st.N,d:=st.d,a:=Map.jw st.a s ⟨[],true,.v (.aE .aO c)⟩,b:=st.b,c:=st.c} a w:={f with
  m:=λ k sl e=>by
   simp[Map.lq]at e;split at e
   grind
   exact f.m k _ e
  k:=λ k sl e=>by
   simp[Map.lq]at e;split at e
   rename_i h;subst h;cases e;exact⟨_,hc,⟨λ _=> ⟨rfl,lR (conc:=conc) c⟩,absurd (cG _)⟩⟩;exact f.k k _ e}
theorem Yh{w0 conc}(n:aD P w0 conc st a w){c g}(o:Map.av st.a s=some ⟨[],g,x⟩)(j:a.tmps[s]?=some (.bool c)):aD P w0 conc (xK st s c) a w:=by have h:=R9 n o j;exact{h with
  m:=λ k sl b=>by
   simp[xK,CX,k8]at b;obtain⟨d,h0,rfl⟩:=b;rcases LW (s:=s) (want:=c) (k:=k) (sl:=d)with e| ⟨_,e⟩
   rw[e];exact h.m k _ h0;grind
  k:=λ k sl b=>by
   simp[xK,CX,k8]at b;obtain⟨d,h0,rfl⟩:=b;have⟨v,g1,i⟩:=h.k k d h0;refine⟨v,g1,?_⟩;rcases LW (s:=s) (want:=c) (k:=k) (sl:=d)with e| ⟨f,e⟩
   grind
   rw[e];have l:eO a.tmps d.L:=by
    rw[f];intro p hp
    grind
   exact⟨λ _=> ⟨rfl,(i.b l).2⟩,absurd (cG _)⟩}
theorem wU(e:al P E){H r i I}(hI:oB P H i I){ops K n Q}:∀u l,u.map (λ i=>ops[i]?)=l.map some->∀{st:au}{a:kg}{w:ef}{w0:bC}{C:R},uJ E H ops l st K=some C->cT P w0 st a w->I w0 C->(∀a' w' st' G D,cT P G st' a' w'->I G D->K st'=some D->Q .normal a' w')->kp (Fr r) n P ops Q u a w
 | [],l,z,st,a,w,w0,C,h,c,f,k=>by
  have:l= []:=by simp_all
  subst this;exact k a w _ _ _ c f h|i::u,l,z,st,a,w,w0,C,h,c,f,k=>by cases l with|nil=>trivial|cons o l=>simp[k7,List.cons.injEq]at z;have⟨Z,x⟩:=z;simp[uJ]at h;simp[kp,Z];cases T:yY st o with
   |some p=>
    rw[T]at h;dsimp only at h;have m:fv o (lA ops a.tmps)=true:=by
     grind[yY,fv]
    simp[m,if_true];exact ZD e hI T h c f λ a' w' st' G D A N y=>wU e hI _ l x y A N k|none=>rw[T]at h;cases J:Eg ops st o with
    |some q=>
     have⟨l',d,s,want,b⟩:=q;rw[J]at h;dsimp only at h;obtain⟨j,t,args,tys,g,ag,ah,ab,U,rfl,B,O,ai⟩:=abu J;have⟨conc,c⟩:=c;have⟨v,S,ad⟩:=c.k s _ O;have⟨us,X,Y⟩:=(ad.b (cG _)).2;have ae:=tM X Y;subst ae;have m:fv o (lA ops a.tmps)=(some b==some want):=by
      grind[fv,lA]
     cases L:(bif want then b else !b)with
     |true=>
      have M:b=want:=by grind
      subst M;rw[L]at h;simp[cond_true]at h;rw[m];simp[BEq.rfl,if_true];have ac:Map.av (xK st s b).a t=some ⟨[],true,.v .ku⟩:=by
       grind[xK,CX,Map.lq,qe,gF]
      exact Lm e hI ab U ac h ⟨_,Yh c O S⟩ f λ a' w' st' G D A N y=>wU e hI _ l x y A N k
     |false=>
      rw[L]at h;simp[cond_false]at h;have M:b=!want:=by cases want<;>cases b<;>first|rfl|cases L
      subst M;have af:fv o (lA ops a.tmps)=false:=by rw[m];cases want<;>rfl
      rw[af];simp[fV,if_false];cases F:GB st s d want with
      |none=>rw[F]at h;cases h
      |some W=>
       rw[F]at h;dsimp only at h;have y:=R9 c O S;have aa:cT P w0 W (a.put o.dst l9) w:=by
        rw[U];unfold GB at F;refine uO (W0:= []) y (cm.h w) rfl F (λ p hp=>?_) ⟨λ z=>?_,λ _=>rfl⟩
        simp only[fR]at hp;subst hp;exact .inl rfl;have:=z (s,want) fH;dsimp only at this;rw[S]at this;cases want<;>cases this
       exact⟨λ _ _=>trivial,wU e hI u l x h aa f k⟩
    |none=>
    rw[J]at h;dsimp only at h;rw[aey]at h;cases B:tS E ops o st with
    |none=>rw[B]at h;cases h
    |some W=>
     rw[B]at h;simp[eo]at h;have V:=aeQ e c B;cases m:fv o (lA ops a.tmps)with
     |true=>
      simp[if_true];exact H7 (Xc B) (V.1 m _ Q λ a' w' A=>wU e hI u l x h A f k)
     |false=>
      simp[fV,if_false];exact⟨λ _ _=>trivial,wU e hI u l x h (V.2 m) f k⟩
theorem ji(u:al P E)(A:P.follows .mixedOrders=true){H i}:(c:et)->(O:List (Ev R))->nN P H i c O->eS P H i c (dv E H c O)
 | .skip,O,_=>λ r _ l j K m st a w w0 h b d=>wpIn_skip ⟨w0,m,st,b,d,h⟩| .ret,O,_=>λ r _ l j K m st a w w0 h b d=>wpIn_ret ⟨w0,m,st,b,d,h⟩| .exit i,O,_=>λ r _ l j K m st a w w0 h b d=>wpIn_exit ⟨w0,m,st,b,d,h⟩| .seq x y,O,p=>λ r n l j K m st a w w0 h b d=>by simp[dv]at h;refine nc (fz (ji u A x _ p.1 r n l j _ _ _ _ _ _ h b d) ?_);rintro e a' w'⟨w1,z,st',q,v,s⟩;cases e with|normal=>exact ji u A y _ p.2 r n l j _ _ _ _ _ _ s q v|_=>exact⟨w1,z,st',q,v,s⟩
 | .cond c x y,O,p=>λ r n l j K m st a w w0 h b d=>by simp[dv,Oq,RM.sH]at h;cases J:((c9 [] c).aB pL).af st with|none=>rw[J]at h;cases h|some t=>rw[J]at h;simp[eo]at h;have⟨conc,C⟩:=b;have U:=aaJ u C J;refine wpIn_cond U ?_;cases t with|true=>exact ji u A x _ p.1 r n l j _ _ _ _ _ _ h ⟨conc,C⟩ d|false=>exact ji u A y _ p.2 r n l j _ _ _ _ _ _ h ⟨conc,C⟩ d
 | .block id c,O,p=>λ r n l j K m st a w w0 h b d=>by simp[dv]at h;refine wpIn_block (fz (ji u A c _ p r n l j _ _ _ _ _ _ h b d) ?_);rintro e a' w'⟨w1,z,st',q,v,s⟩;cases e with
  |exit i=>
   simp[gF]at s;by_cases D:i=id
   simp only[D,decide_true,cond_true]at s;simp only[lv,D,if_true];exact⟨w1,z,st',q,v,s⟩;simp only[D,decide_false,cond_false]at s;simp only[lv,D,if_false];exact⟨w1,z,st',q,v,s⟩|_=>exact⟨w1,z,st',q,v,s⟩
 | .loop c,O,p=>λ r n l j K m st a w w0 h b d=>by cases O with|nil=>cases h|cons f O=>cases O with|nil=>exact p f rfl r n l j K m st a w w0 h b d|cons _ _=>cases h
 | .rangeFunc g ps x y,O,p=>λ r n l j K m st a w w0 h b d=>by cases O with|nil=>cases h|cons f O=>cases O with|nil=>exact p f rfl r n l j K m st a w w0 h b d|cons _ _=>cases h
 | .region id ops N,O,_=>λ r n l j K m st a w w0 h b d=>by simp[dv,NY]at h;cases N with|false=>simp[cond_false]at h;exact wpIn_region (wU u j _ _ (ahz ops) h b d λ a' w' st' W z q v I=> ⟨W,z,_,LM q,v,I⟩)|true=>simp[cond_true]at h;cases G:yq 0 ops.toList with|false=>rw[G]at h;cases h|true=>
    rw[G]at h;simp[cond_true]at h;split at h
    rotate_left
    cases h;rename_i M L;have b:=yy u _ b L;clear L;have⟨T,st2,Z,Q,S,aa⟩:=Ln ops.toList [] M (λ k o I=>by simpa using I) h;have⟨ad,X,Y⟩:=Sl ops.toList [];have V:cT P w0 M a {w with drawn:=w.drawn+1}:=by have⟨conc,C⟩:=b;exact⟨_,C.D (cm.k w)⟩
    let F:Nat->FP:=λ i=>T.getD i ⟨[],[]⟩;have ac:=S F (λ k g ab=>by grind);refine wpIn_region_any A ?_;refine T9 u (F:=F) (B:=λ i=>(qo ops.toList []).getD i 0) (st2:=st2) ?_ ?_ ?_ (λ a' w' q=> ⟨_,_,_,LM q,d,Q⟩) _ _ (kL ops.size) (by simp) (List.pairwise_lt_range) (by simp) ?_ ?_ V ?_
    grind
    intro i o p;have:=SJ ops.toList 0 G i o (by grind)
    grind
    grind;all_goals simp_all[Array.getD,absurd,l4]
 | .scope _,O,_=>λ r n l j K m st a w w0 h b d=>by cases h| .label _,O,_=>λ r n l j K m st a w w0 h b d=>by cases h| .goto _,O,_=>λ r n l j K m st a w w0 h b d=>by cases h| .refuse _,O,_=>λ r n l j K m st a w w0 h b d=>by cases h
end
section
variable[Dr]
variable{P:ei}{E:aq}{R:Type}
variable {w:ef} {A S:Nat->Prop} {W:ef} {T:cf} {K:hz->au->Option R} {F:List Nat}
def A9:List Nat->(es:List Ty)->ax es->List (Nat×fX)->List (Nat×fX)| [p],[e],x,m=>Map.jw m p ⟨[],true,.v (.aE e x)⟩|p::q::ps,e::u::es,(x,y),m=>A9 (q::ps) (u::es) y (Map.jw m p ⟨[],true,.v (.aE e x)⟩)|_,_,_,m=>m
def oz(F:List Nat)(st:au):au:={N:=st.N,d:= [],a:=st.a.filter λ p=>F.any (ea p.1),b:=st.b,c:= []}
def yO(T:cf)(F ps:List Nat)(es:List Ty)(d:cR T.b)(x:ax es):au:={N:=T.N,d:= [],a:=A9 ps es x (mk T d).a,b:=(mk T d).b,c:=F}
def wR(E:aq)(T:cf)(F:List Nat)(X:List (dN×cf))(again:cR T.b->Option R)(k:iI R X):hz->au->Option R| .normal,st=>bif ot st.c F&&ea st.N T.N then(ky E T (oz F (jO st))).bind again else none|e,st=>bif ot st.c F&&ea st.N T.N then pB E X k e (oz F (jO st))else none
def tH(K:au->Option R):hz->au->Option R| .normal,st=>K st|_,_=>none
theorem qw(d):(mk T d).N=T.N/\(mk T d).d= []/\(mk T d).c=T.c:=by grind[mk]
theorem aca{α}(F:List Nat)(m:List (Nat×α))(k):Map.av (m.filter λ p=>F.any (ea p.1)) k=if F.any (ea k)then Map.av m k else none:=Map.afw (λ n=>F.any _) m k
theorem aD.G{s s' conc st st' a a' w w'}(h:aD P s conc st a w)(y) (O:st'.N=st.N) (E:∀d sl,Map.av st'.a d=some sl->Map.av st.a d=some sl/\sl.L= []/\a'.tmps[d]?=a.tmps[d]?) (C:∀id,Map.av st'.b id=Map.av st.b id) (Z:a'.tmps.size=a.tmps.size) (S:a'.defers=s'.f) (T:∀d∈st'.c,a'.tmps[d]?=s'.b[d]?) (I:w.heap.size<=w'.heap.size) (G:∀b,b<w.heap.size->conc.B b->w'.heap[b]?=w.heap[b]?) (N:∀b,b<w.heap.size->conc.B b->y b) (X:s'.w=w') (V:s'.B=y) (W:∀b,cZ conc b->s'.M b) (Y:s'.e=s.e) (Q:sQ s'):aD P s' ⟨conc.m,y,conc.b⟩ st' a' w':=by have D:fU conc ⟨conc.m,y,conc.b⟩:= ⟨rfl,λ id cv c ow R=> ⟨cv,c,ow,R,.inr ⟨rfl,rfl⟩⟩⟩;have J:fN (ae conc) w w':= ⟨I,λ b j A=>G b A j.1⟩;have H:cM w (ae conc) (ae ⟨conc.m,y,conc.b⟩):=λ b j A=> ⟨N b A j.1,j.2⟩;exact{
  g:=S
  n:=by rw[Z,O];exact h.n
  m:=λ d sl z p hp=>by have:=(E d sl z).2.1;rw[this]at hp;cases hp
  k:=λ d sl z=>by have⟨L,g2,M⟩:=E d sl z;have⟨v,k1,B⟩:=h.k d sl L;refine⟨v,M.trans k1,λ _=>?_,λ U=>absurd (by grind[cG]) U⟩;have:=B.b (by grind[cG]);exact⟨this.1,this.2.b J H D⟩
  q:=λ id ver o F=>by rw[C]at F;have⟨c,ow,k1,B⟩:=h.q id ver o F;refine⟨c,ow,k1,B.b J H D λ K b j=>?_⟩;subst K;exact G b (h.f id ver c b k1 j).2 (by rw[h.u];exact h.z k1 j)
  r:=λ id z=>h.r id (by rw[<-C];exact z)
  t:=h.t
  f:=λ i v c b hi j=> ⟨.inr (W b ⟨i,v,c,hi,j⟩),ev (h.f i v c b hi j).2 I⟩
  e:=by rw[<-X];exact⟨rfl,rfl,⟨rfl,λ _=>eb _⟩,eb _,λ _ _ _=>rfl⟩
  u:=V.symm
  x:=h.x.trans Y.symm
  h:=Q
  l:=T}
theorem aD.H{s s' conc st a w w'}(h:aD P s conc st a w)(p) (E:w.heap.size<=w'.heap.size) (D:∀b,b<w.heap.size->conc.B b->w'.heap[b]?=w.heap[b]?) (H:∀b,b<w.heap.size->conc.B b->p b) (Q:s'.w=w') (N:s'.B=p) (O:∀b,cZ conc b->s'.M b) (R:s'.e=s.e) (L:a.defers=s'.f) (S:s'.b=s.b) (I:sQ s'):aD P s' ⟨conc.m,p,conc.b⟩ st a w':=by have C:fU conc ⟨conc.m,p,conc.b⟩:= ⟨rfl,λ id cv c ow J=> ⟨cv,c,ow,J,.inr ⟨rfl,rfl⟩⟩⟩;have F:fN (ae conc) w w':= ⟨E,λ b j A=>D b A j.1⟩;have z:cM w (ae conc) (ae ⟨conc.m,p,conc.b⟩):=λ b j A=> ⟨H b A j.1,j.2⟩;exact{
  g:=L
  n:=h.n
  m:=h.m
  k:=λ d sl K=>by have⟨v,k1,y⟩:=h.k d sl K;exact⟨v,k1,λ B=> ⟨(y.b B).1,(y.b B).2.b F z C⟩,y.d⟩
  q:=λ id ver o M=>by have⟨c,ow,k1,y⟩:=h.q id ver o M;refine⟨c,ow,k1,y.b F z C λ G b j=>?_⟩;subst G;exact D b (h.f id _ c b k1 j).2 (by rw[h.u];exact h.z k1 j)
  r:=h.r
  t:=h.t
  f:=λ i v c b hi j=> ⟨.inr (O b ⟨i,v,c,hi,j⟩),ev (h.f i v c b hi j).2 E⟩
  e:=by rw[<-Q];exact⟨rfl,rfl,⟨rfl,λ _=>eb _⟩,eb _,λ _ _ _=>rfl⟩
  u:=N.symm
  x:=h.x.trans R.symm
  h:=I
  l:=λ s z=>by rw[S];exact h.l s z}
structure iE(P:ei)(w0:bC)(wb:ef)(D l:Nat)(own0:Nat->Prop)(a:kg)(fn:hN)(ps:Array Tmp)(ca cb:et)(stt:hq)(pe:Option et)(A S:Nat->Prop)(conc:bf)(st:au)(W:ef):Prop where
 c:aD P ⟨W,λ b=>(b<wb.heap.size/\w0.B b)\/((wb.heap.size<=b/\b≠D/\b≠l)/\¬S b),cZ conc,a.defers,a.tmps,w0.e,w0.d⟩ conc st a W
 m:wb.heap.size<=D/\wb.heap.size<=l/\D≠l
 g:W.heap[l]?=some (.loop {state:=stt,pending:=pe,fn,tmps:=a.tmps,params:=ps,assign:=ca,body:=cb,defers:=D})
 n:W.heap[D]?=some (.deferred (some []))
 p:W.os=wb.os
 i:W.tape=wb.tape
 d:eW wb W
 f:D<W.heap.size/\l<W.heap.size
 h:∀b,b<wb.heap.size->¬own0 b->W.heap[b]?=wb.heap[b]?
 j:∀b,cZ conc b->own0 b\/(wb.heap.size<=b/\b≠D/\b≠l)
 e:∀b,cZ conc b->¬A b
 o:∀b,S b->A b
 k:∀b,A b->(wb.heap.size<=b/\b≠D/\b≠l)/\b<W.heap.size
section
variable{w0:bC}{wb:ef}{D l:Nat}{own0:Nat->Prop}{a:kg}{fn:hN}{ps:Array Tmp}{ca cb:et}{stt:hq}{pe:Option et}{conc:bf}{st:au}
theorem iE.r{A' t z}(h:iE P w0 wb D l own0 a fn ps ca cb stt pe A S conc st W)(R:st.d= []/\∀d sl,Map.av st.a d=some sl->sl.L= [])(Q:st.c= []) (r:wm A S W A' t z) (K:∀d∈a.defers,∃D,d={target:= .collected D,args:= #[]}/\wb.heap[D]?=some (.deferred (some []))/\¬own0 D/\¬w0.B D/\w0.d<=D):∃B,B.m=conc.m/\iE P w0 wb D l own0 a fn ps ca cb stt pe A' t B st z:=by
 have L:=h.m;have T:=h.f;have N:=r.f;have O:∀b,b<wb.heap.size\/b=D\/b=l->¬S b:=λ b q s=>by have:=(h.k b (h.o b s)).1;omega
 have H:conc.B=λ b=>(b<wb.heap.size/\w0.B b)\/((wb.heap.size<=b/\b≠D/\b≠l)/\¬S b):=h.c.u;have I:∀b,conc.B b->¬S b:=λ b q=>by grind
 have C:∀b,b<W.heap.size->conc.B b->(b<wb.heap.size/\w0.B b)\/((wb.heap.size<=b/\b≠D/\b≠l)/\¬t b):=λ b w q=>by
  rw[H]at q;obtain q| ⟨h1,h2⟩:=q
  grind
  refine .inr ⟨h1,λ s=>?_⟩;rcases r.k b s with E|E
  all_goals grind
 have x:∀b,b<wb.heap.size\/b=D\/b=l->z.heap[b]?=W.heap[b]?:=λ b q=>r.d b (by omega) (O b q);refine⟨⟨conc.m,λ b=>(b<wb.heap.size/\w0.B b)\/((wb.heap.size<=b/\b≠D/\b≠l)/\¬t b),conc.b⟩,rfl,?_⟩;refine{
  c:=h.c.G _ rfl (by grind) (λ _=>rfl) rfl rfl (by grind) N (λ b w q=>r.d b w (I b q)) C rfl rfl (λ b q=>q) rfl ?_
  m:=L
  g:=(x _ (by omega)).trans h.g
  n:=(x _ (by omega)).trans h.n
  p:=r.l.trans h.p
  i:=r.g.trans h.i
  d:=r.e.b h.d
  f:=by omega
  h:=λ b q M=>(x b (by omega)).trans (h.h b q M)
  j:=h.j
  e:=λ b q G=>by
   rcases r.j b G with h1|h1
   exact h.e b q h1;obtain⟨i,v,c,g1,u⟩:=q;have:=(h.c.f i v c b g1 u).2;omega
  o:=r.h
  k:=λ b q=> ⟨by
   rcases r.j b q with h1|h1
   exact(h.k b h1).1;omega,r.i b q⟩};exact{
  i:=λ b q=> .inr ⟨by grind,λ s=>by
   have:=r.i b (r.h b s);grind⟩
  e:=λ b⟨i,v,c,g1,u⟩=>C b (h.c.f i v c b g1 u).2 (by rw[h.c.u];exact h.c.z g1 u)
  f:=λ d J=>by have⟨y,e,h1,h2,F⟩:=K d J;have w:=(ej.1 h1).1;refine⟨y,e,((x y (by omega)).trans (h.h y w h2)).trans h1,λ q=>?_,F.2⟩;grind
  h:=h.c.h.h
  g:=by have:=h.c.h.g;grind}
end
theorem Oy:{l:List (Nat×ki)}->{r:List iK}->{m:List (Nat×fX)}->{r':List iK}->pY l r=some (m,r')->∀p∈m,p.2.L= []
 | [],r,m,r',h=>by grind[pY,Option.some.injEq,Prod.mk.injEq]| (d,t)::l,r,m,r',h=>by
  simp[pY]at h;split at h
  split at h;rename_i m' b a;simp only[Option.some.injEq,Prod.mk.injEq]at h;obtain⟨rfl,_⟩:=h;intro p hp;rcases gg.1 hp with rfl|hp
  rfl;exact Oy a p hp;trivial;trivial
theorem xS(d){k sl}(h:Map.av (mk T d).a k=some sl):sl.L= []:=by
 unfold mk at h;split at h
 rename_i s r a;split at h;exact Oy a _ (Map.ll h);trivial;trivial
theorem IW(l:al P E){w0 K}{k:R}{e conc st a w}(m:aD P w0 conc st a w):(X:List (dN×cf))->pB E X (kK K X) e st=some k->∃x∈X,∃d f,e=x.1.b/\aD P w0 f (mk x.2 d) a w/\(∀b,cZ f b->cZ conc b)/\K e (mk x.2 d)=some k
 | [],h=>by cases h|x::r,h=>by simp[pB,kK]at h;cases g:x.1.c e with
  |true=>rw[g]at h;simp[cond_true]at h;cases j:ky E x.2 st with|none=>rw[j]at h;cases h|some d=>
    rw[j]at h;have p:x.1.b=e:=by cases q:x.1<;>cases e<;>simp[q,dN.c,gF]at g<;>simp[dN.b,g]
    have⟨f,n,o⟩:=GR l m j;exact⟨x,fH,d,f,p.symm,n,λ b⟨i,v,c,k1,s⟩=>o i v c b k1 s,by grind⟩
  |false=>rw[g]at h;have⟨y,t,r⟩:=IW l m r h;grind
def Cl:hz->et| .exit i=> .exit i|_=> .ret
theorem ahw(F)(st)(k):Map.av (oz F st).a k=if F.any (ea k)then Map.av st.a k else none:=aca F _ k
theorem iE.s{w0 wb D l own0 a y fn ps ca cb conc MO st s W3 W4 stt pe} {T} {R} (h:iE P w0 wb D l own0 a fn ps ca cb stt pe A S conc st W) {w} (t:aD P w MO s y W3) (am:s.c=F) (aj:∀k∈F,w.b[k]?=a.tmps[k]?) (ah:y.tmps.size=a.tmps.size) (ac:∀k sl,Map.av s.a k=some sl->F.any (ea k)=true->sl.L= []) (V:w.B=λ b=>(b<wb.heap.size/\w0.B b)\/((wb.heap.size<=b/\b≠D/\b≠l)/\¬S b)) (ak:w.e=w0.e) (ao:w.d=w0.d) (af:W3.os=W.os) (ai:W3.tape=W.tape) (M:eW W W3) (ap:W.heap.size<=W3.heap.size) (Z:∀b,b<W.heap.size->¬cZ conc b->b≠l->W3.heap[b]?=W.heap[b]?) (N:∀b,cZ MO b->cZ conc b\/W.heap.size<=b) (aa:∀d∈a.defers,∃D,d={target:= .collected D,args:= #[]}/\wb.heap[D]?=some (.deferred (some []))/\¬own0 D/\¬w0.B D/\w0.d<=D) (C:W4=W3.putObj l (.loop {state:=T,pending:=R,fn,tmps:=a.tmps,params:=ps,assign:=ca,body:=cb,defers:=D})):∃H,H.m=MO.m/\iE P w0 wb D l own0 a fn ps ca cb T R A S H (oz F s) W4:=by
 have O:=h.f;have ae:=h.m;have Q:∀b,b<wb.heap.size\/b=D\/b=l->¬own0 b->¬cZ conc b:=λ b q u E=>by rcases h.j b E with h1|h1;all_goals grind
 have I:∀b,b≠l->W4.heap[b]?=W3.heap[b]?:=λ b q=>by grind[eV]
 have aq:W4.heap.size=W3.heap.size:=by simp_all
 have an:l<W3.heap.size:=by omega
 have al:MO.B=λ b=>(b<wb.heap.size/\w0.B b)\/((wb.heap.size<=b/\b≠D/\b≠l)/\¬S b):=t.u.trans V;have X:¬MO.B l:=by grind
 have ag:∀d sl,Map.av (oz F s).a d=some sl->Map.av s.a d=some sl/\sl.L= []/\a.tmps[d]?=y.tmps[d]?:=by
  intro d sl r;rw[ahw]at r;split at r
  rename_i Y;have ad:d∈F:=by
   simp_all
  refine⟨r,ac d _ r Y,?_⟩;rw[t.l d (by grind),aj d ad];trivial
 have G:∀b,b<wb.heap.size\/b=D\/b=l->¬cZ conc b->b≠l->W4.heap[b]?=W.heap[b]?:=λ b q u L=>(I b L).trans (Z b (by omega) u L);have ab:∀b,cZ MO b->MO.B b:=λ b⟨i,v,c,z,B⟩=>by rw[t.u];exact t.z z B
 refine⟨⟨MO.m,λ b=>(b<wb.heap.size/\w0.B b)\/((wb.heap.size<=b/\b≠D/\b≠l)/\¬S b),MO.b⟩,rfl,?_⟩;refine{
  c:=t.G _ rfl ag (λ _=>rfl) ah.symm rfl (λ d r=>by rfl) (by omega) (λ b K q=>I b λ e=>X (by grind)) (λ b _ q=>by grind) rfl rfl (λ b q=>q) ak.symm ?_
  m:=ae
  g:=by grind[lb]
  n:=(G _ (by omega) (λ E=>?_) (by omega)).trans h.n
  p:=by rw[C];exact af.trans h.p
  i:=by rw[C];exact ai.trans h.i
  d:=by rw[C];exact eW.b (⟨M.d,M.e⟩) h.d
  f:=by omega
  h:=λ b q u=>(G b (by omega) (Q b (by omega) u) (by omega)).trans (h.h b q u)
  j:=λ b q=>by
   rcases N b q with h1|h1;all_goals grind
  e:=λ b q J=>by
   rcases N b q with h1|h1
   exact h.e b h1 J;have:=(h.k b J).2;omega
  o:=h.o
  k:=λ b q=> ⟨(h.k b q).1,by have:=(h.k b q).2;omega⟩}
 exact{
  i:=λ b q=> .inr ⟨by
   grind,λ O=>by
   have:=(h.k b (h.o b O)).2
   grind⟩
  e:=λ b q=>by have:=ab b q;grind
  f:=λ d r=>by
   obtain⟨x,e,h1,h2,U⟩:=aa d r;have K:=(ej.1 h1).1;refine⟨x,e,((G x (by omega) (Q x (by omega) h2) (by omega)).trans (h.h x K h2)).trans h1,λ q=>?_,U.2⟩
   grind
  h:=h.c.h.h
  g:=by
   have:=h.c.h.g
   grind}
 obtain⟨i,v,c,z,B⟩:=E;have q:=h.c.z z B;omega
theorem iE.q{w0 wb D l own0 a fn ps ca cb conc r st st' stt pe} (h:iE P w0 wb D l own0 a fn ps ca cb stt pe A S conc st W) (t:aD P ⟨W,λ b=>(b<wb.heap.size/\w0.B b)\/((wb.heap.size<=b/\b≠D/\b≠l)/\¬S b),cZ conc,a.defers,a.tmps,w0.e,w0.d⟩ r st' a W) (s:∀b,cZ r b->cZ conc b):∃u,iE P w0 wb D l own0 a fn ps ca cb stt pe A S u st' W:=by have v:r.B=λ b=>(b<wb.heap.size/\w0.B b)\/((wb.heap.size<=b/\b≠D/\b≠l)/\¬S b):=t.u;refine⟨_,{
  c:=aD.H t _ (eb _) (λ _ _ _=>rfl) (by grind) rfl rfl (λ b q=>q) rfl rfl rfl {
   i:=h.c.h.i
   e:=λ b q=>h.c.h.e b (s b q)
   f:=h.c.h.f
   h:=h.c.h.h
   g:=h.c.h.g}
  m:=h.m
  g:=h.g
  n:=h.n
  p:=h.p
  i:=h.i
  d:=h.d
  f:=h.f
  h:=h.h
  j:=λ b q=>h.j b (s b q)
  e:=λ b q=>h.e b (s b q)
  o:=h.o
  k:=h.k}⟩
def vq(a:Array eg):List Nat->List eg->Array eg|p::ps,v::vs=>vq (a.setIfInBounds p v) ps vs|_,_=>a
theorem aaW:∀ps vs a,(ps.toArray.zip vs.toArray).foldl (λ c(x:Nat×eg)=>c.setIfInBounds x.1 x.2) a=vq a ps vs:=by
 intro ps vs a;rw[<-Array.foldl_toList,Array.toList_zip];show(ps.zip vs).foldl _ _=_
 induction ps generalizing vs a with|nil=>rfl|cons p ps b=>cases vs with|nil=>rfl|cons v vs=>exact b _ _
theorem SH:∀ps vs a{k:Nat},k∉ps->(vq a ps vs)[k]?=a[k]?| [],_,_,_,_=>by rfl|_::_,[],_,_,_=>rfl|p::ps,v::vs,a,k,h=>by simp[gg,not_or]at h;rw[vq,SH _ _ _ h.2,Array.getElem?_setIfInBounds_ne (by omega)]
theorem fe.b{ok}:{a:List Ty}->{vs:List eg}->{x:ax a}->fe P w ok a vs x->vs.length=a.length| [],_,_,h=>by rw[h];rfl| [t],_,_,⟨_,h,_⟩=>by grind|t::u::a,_,(_,_),⟨_,_,h,_,h2⟩=>by rw[h,j3,fe.b h2];rfl
theorem abP:∀ps es{x:ax es}{m:List (Nat×fX)},(∀k sl,Map.av m k=some sl->sl.L= [])->∀k sl,Map.av (A9 ps es x m) k=some sl->sl.L= []:=by
 intro ps;have one:∀{m:List (Nat×fX)}{p:Nat}{s:bQ},(∀k sl,Map.av m k=some sl->sl.L= [])->∀k sl,Map.av (Map.jw m p ⟨[],true,s⟩) k=some sl->sl.L= []:=by grind[Map.lq]
 induction ps with|nil=>intro es x m h;trivial|cons p ps a=>
  intro es x m h
  match ps,es,x with
  | [],[e],x=>exact one h| [],[],_=>exact h| [],_::_::_,_=>exact h|_::_,[],_=>exact h|_::_,[_],_=>exact h|q::ps,e::u::es,(x,y)=>exact a _ (one h)
theorem aD.J{s conc}:∀{st:au}{a:kg},aD P s conc st a w->st.d= []->∀ps es{vs:List eg}{x:ax es},fe P w (ae conc) es vs x->ps.length=es.length->(∀p∈ps,p<st.N/\p∉st.c)->aD P s conc {st with a:=A9 ps es x st.a} {a with tmps:=Go.Abs.vq a.tmps ps vs} w:=by
 intro st a h c ps;have one:∀{st:au}{a:kg}{p:Nat}{e:Ty}{x:e.b}{cs:List eg},aD P s conc st a w->st.d= []->p<st.N/\p∉st.c->aw P e w (ae conc) cs x->aD P s conc {st with a:=Map.jw st.a p ⟨[],true,.v (.aE e x)⟩} (a.put (some p) (e.d cs)) w:=λ h c hp b=>h.K (pa.2 ⟨hp.1,by grind,hp.2⟩) (λ _ f=>f) (λ _ k=>by trivial) ⟨λ _=> ⟨rfl,_,rfl,b⟩,λ g=>absurd (cG _) g⟩
 induction ps generalizing st a with|nil=>intro es vs x b d _;trivial|cons p ps j=>
  intro es vs x b d hp
  match ps,es,x,d with
  | [],[e],x,_=>obtain⟨cs,rfl,b⟩:=b;exact one h c (hp p (by simp)) b|q::ps,e::u::es,(x,y),d=>obtain⟨cs,r,rfl,b,i⟩:=b;exact j (one h c (hp p (by simp)) b) c _ i (by grind) (by grind)
structure qp(P:ei){R:Type}(E:aq)(es:List Ty)(ps:List Nat)(ca cb:et)(Oa Ob:List (Ev R))(T:cf)(F:List Nat)(X:List (dN×cf))(body:cR T.b->ax es->(cR T.b->Option R)->iI R X->Option R):Prop where
 c:T.c= []
 g:∀p∈ps,p<T.N/\p∉F
 e:ps.length=es.length
 f:∀x∈X,x.2.c= []
 a:eS P (bT.b (R:=R)) true ca (dv E bT.b ca Oa)
 b:eS P (bT.b (R:=R)) true cb (dv E bT.b cb Ob)
 h:∀d x again k,dv E bT.b ca Oa (yO T F ps es d x) (tH λ st=>dv E bT.b cb Ob st (wR E T F X again k))=body d x again k
theorem aiR(aB:al P E){es ps ca cb Oa Ob T F X body}
 (J:qp P E es ps ca cb Oa Ob T F X body) {w0} {wb} {D l} {own0} {a} {fn} {A S} {conc} {W} {d} {x} {vs}
 (h:iE P w0 wb D l own0 a fn ps.toArray ca cb .ready none A S conc (mk T d) W) (bo:∀d∈a.defers,∃D,d={target:= .collected D,args:= #[]}/\wb.heap[D]?=some (.deferred (some []))/\¬own0 D/\¬w0.B D/\w0.d<=D)
 (ao:fe P W (ae conc) es vs x) {K} {again} {ah:R} (aT:body d x again (kK K X)=some ah):
 YieldAt kq 5 P l vs.toArray W λ aQ N=>(∀b,b<W.heap.size->¬cZ conc b->b≠l->N.heap[b]?=W.heap[b]?)/\W.heap.size<=N.heap.size/\N.os=W.os/\N.tape=W.tape/\eW W N/\
  (
   (aQ= .returned (.bool true)/\∃H o,iE P w0 wb D l own0 a fn ps.toArray ca cb .ready none A S H (mk T o) N/\again o=some ah)\/
   (aQ= .returned (.bool false)/\∃H,∃y∈X,∃o,iE P w0 wb D l own0 a fn ps.toArray ca cb .done (some (Cl y.1.b)) A S H (mk y.2 o) N/\K y.1.b (mk y.2 o)=some ah)):=by
 have a7:=h.f;have bP:=h.m;have a4:=h.g;have bs:ps.length=vs.length:=J.e.trans ao.b.symm;have bD:=run_yield (P:=P) (args:=vs.toArray) a4 (by simp[bs]);refine⟨_,_,_,_,bD,?_⟩;dsimp only;have bn:=aaW ps vs a.tmps;have aY:¬cZ conc l:=λ⟨i,v,c,g1,O⟩=>by
  rcases h.c.z g1 O with⟨bj,_⟩| ⟨bj,_⟩<;>omega
 have⟨aG,bu,aW⟩:=qw d
 let aO:Act:={tmps:=a.tmps,defers:= []}
 let aw:Act:={aO with tmps:=vq a.tmps ps vs}
 let B:Nat->Prop:=λ b=>(b<wb.heap.size/\w0.B b)\/((wb.heap.size<=b/\b≠D/\b≠l)/\¬S b)
 let bK:bC:= ⟨W,B,cZ conc,[],a.tmps,w0.e,w0.d⟩
 let aL:bC:= ⟨W,B,cZ conc,[],aw.tmps,w0.e,w0.d⟩
 have ba:∀bc,sQ ⟨W,B,cZ conc,[],bc,w0.e,w0.d⟩:=λ bc=>{
  i:=h.c.h.i
  e:=h.c.h.e
  f:=λ _ V=>by cases V
  h:=gb
  g:=h.c.h.g}
 have aV:conc.B=B:=h.c.u;have bG:aD P bK ⟨conc.m,B,conc.b⟩ (mk T d) aO W:=h.c.G B rfl (λ k sl G=> ⟨G,xS d G,rfl⟩) (λ _=>rfl) rfl rfl (λ k G=>absurd G (by rw[aW,J.c];simp)) (eb _) (λ _ _ _=>rfl) (λ b _ j=>by rw[<-aV];exact j) rfl rfl (λ b j=>j) rfl (ba _);have L:ae (⟨conc.m,B,conc.b⟩:bf)=ae conc:=by
  funext b;unfold ae;rw[aV]
 have m1:=bG.J bu ps es (by rw[L];exact ao) J.e (λ p hp=> ⟨by rw[aG];exact(J.g p hp).1,by rw[aW,J.c];simp⟩);have bH:aD P aL ⟨conc.m,B,conc.b⟩ (yO T F ps es d x) aw W:=m1.G B aG.symm (λ k sl G=> ⟨G,abP ps es (λ k sl=>xS d) k sl G,rfl⟩) (λ _=>rfl) rfl rfl (λ k _=>rfl) (eb _) (λ _ _ _=>rfl) (λ b _ j=>j) rfl rfl (λ b j=>j) rfl (ba _);rw[<-J.h]at aT;have bd:∀(c:et)Q a w n m,c.wpIn (Fr (some l)) n P Q a w->c.wpIn (Fence.wide.inRound l) m P Q a w:=λ c Q a w n m bq=>aaz bq;rw[bn];refine roundIn_of_wpIn trivial (bd _ _ _ _ 7 5 ?_);have a8:∀s,s.f= []->oB P (bT.b (R:=R)) true (λ s' b=>b=ah/\lU s s'):=λ s _=>{
  d:=λ bU bV b j aE=> ⟨j.1,j.2.j aE⟩
  c:=λ M=>absurd rfl M
  g:=λ L=>by cases L
  f:=λ M=>absurd rfl M}
 refine fz (J.a (some l) rfl _ (a8 aL rfl) _ ah _ _ _ aL aT ⟨_,bH⟩ ⟨rfl,lU.t _⟩) ?_;rintro bg aP w1⟨Z,be,bL,⟨conc1,ab⟩,⟨rfl,aa⟩,aC⟩;cases bg with
 |normal=>
  simp[tH]at aC;have ad:=aa.j ab.C;have a9:∀b,b<W.heap.size->¬cZ conc b->w1.heap[b]?=W.heap[b]?:=ad.d;have bw:w1.heap[l]?=_:=(a9 _ (by omega) aY).trans a4;have bR:W.heap.size<=w1.heap.size:=ad.e;refine⟨_,run_beginRound bw rfl,bd _ _ _ _ 7 5 ?_⟩;generalize av:w1.putObj l _=w2;have aS:∀b,b≠l->w2.heap[b]?=w1.heap[b]?:=λ b j=>by rw[<-av];exact eV j
  have bQ:w2.heap.size=w1.heap.size:=by rw[<-av];simp[nY]
  have aH:w2.os=w1.os/\w2.tape=w1.tape/\eW w1 w2:=by rw[<-av];exact⟨rfl,rfl,rfl,λ _=>eb _⟩
  have bx:w2.heap[l]?=some (.loop {state:= .busy,pending:=none,fn,tmps:=a.tmps,params:=ps.toArray,assign:=ca,body:=cb,defers:=D}):=by
   rw[<-av];exact lb (by omega)
  have aA:conc1.B=B:=by
   rw[ab.u];funext b;exact propext (aa.B b)
  have bl:¬B l:=by
   rintro(⟨bJ,_⟩| ⟨bJ,_⟩)<;>omega
  let aM:bC:= ⟨w2,B,cZ conc1,[],Z.b,Z.e,Z.d⟩
  have bz:Z.b=aw.tmps:=aa.g;have bt:Z.d=w0.d:=aa.p;have bE:Z.e=w0.e:=aa.m;have bp:aP.defers= []:=ab.g.trans aa.q;have bM:∀b,w2.heap.size<=b->B b:=λ b j=> .inr ⟨by omega,λ a7=>by have:=(h.k b (h.o b a7)).2;omega⟩;have bI:aD P aM ⟨conc1.m,B,conc1.b⟩ bL aP w2:=by
   refine aD.H ab B ?_ (λ b bO j=>aS b λ e=>bl (by rw[<-e,<-aA];exact j)) (λ b _ j=>by rw[<-aA];exact j) rfl rfl (λ b j=>j) rfl bp rfl {
    i:=bM
    e:=λ b⟨i,v,c,g1,O⟩=>by
     have:=ab.z g1 O;rw[<-ab.u,aA]at this;exact this
    f:=λ _ V=>by cases V
    h:=gb
    g:=by
     have:w0.d<=W.heap.size:=h.c.h.g;show Z.d<=w2.heap.size;omega}
   omega
  refine fz (J.b (some l) rfl _ (a8 aM rfl) _ be _ _ _ aM aC ⟨_,bI⟩ ⟨rfl,lU.t _⟩) ?_;rintro bh bN w3⟨bb,ai,q,⟨aN,aF⟩,⟨rfl,am⟩,ar⟩;have Y:=am.j aF.C;have bS:w2.heap.size<=w3.heap.size:=Y.e;have aZ:∀b,cZ conc1 b->cZ conc b\/W.heap.size<=b:=λ b j=>(ad.M b j).imp id λ g=>g.1;have bv:∀b,cZ aN b->cZ conc b\/W.heap.size<=b:=λ b j=>by
   rcases Y.M b j with g|g
   exact aZ b g;have g':w2.heap.size<=b:=g.1;exact .inr (by omega)
  have aX:∀b,b<W.heap.size->¬cZ conc b->¬cZ conc1 b:=λ b j ac C=>by
   rcases aZ b C with g|g
   exact ac g;omega
  have aU:∀b,b<W.heap.size->¬cZ conc b->b≠l->w3.heap[b]?=W.heap[b]?:=λ b j ac M=>by
   have I:w3.heap[b]?=w2.heap[b]?:=Y.d b (by show b<w2.heap.size;omega) (aX b j ac);exact I.trans ((aS b M).trans (a9 b j ac))
  have a5:w3.heap[l]?=some (.loop {state:= .busy,pending:=none,fn,tmps:=a.tmps,params:=ps.toArray,assign:=ca,body:=cb,defers:=D}):=by
   have I:w3.heap[l]?=w2.heap[l]?:=Y.d _ (by show _<w2.heap.size;omega) (aX _ (by omega) aY);exact I.trans bx
  have aI:w3.os=W.os:=by have I:w3.os=w2.os:=Y.k;have ak:w1.os=W.os:=ad.k;rw[I,aH.1,ak]
  have aK:w3.tape=W.tape:=by have I:w3.tape=w2.tape:=Y.f;have ak:w1.tape=W.tape:=ad.f;rw[I,aH.2.1,ak]
  have an:eW W w3:=by have I:eW w2 w3:=Y.c;have ak:eW W w1:=ad.c;exact I.b (eW.b aH.2.2 ak)
  have bk:bb.B=B:=funext λ b=>propext (am.B b);have bA:bb.b=vq a.tmps ps vs:=am.g.trans bz;have bm:a.tmps.size=T.N:=h.c.n.trans aG;have aJ:∀ag af,q.c=F->q.N=T.N->∃aj,aj.m=aN.m/\iE P w0 wb D l own0 a fn ps.toArray ca cb ag af A S aj (oz F (jO q))
   (w3.putObj l (.loop {state:=ag,pending:=af,fn,tmps:=a.tmps,params:=ps.toArray,assign:=ca,body:=cb,defers:=D})):=λ ag af t u=>
   h.s (S7 aF) t (λ k G=>by rw[bA,SH ps vs _ λ hp=>(J.g k hp).2 G]) (by rw[bm,aF.n,u]) (λ k sl G _=>ahy G) bk (am.m.trans bE) (am.p.trans bt) aI aK an (by omega) aU bv bo rfl
  have a6:∀ag(af:Option et)b,b<W.heap.size->¬cZ conc b->b≠l->
   (w3.putObj l (.loop {state:=ag,pending:=af,fn,tmps:=a.tmps,params:=ps.toArray,assign:=ca,body:=cb,defers:=D})).heap[b]?=W.heap[b]?:=λ ag af b j ac M=>
   (eV M).trans (aU b j ac M)
  have a2:∀v,(w3.putObj l v).heap.size=w3.heap.size:=λ v=>by simp[nY]
  have out:∀ex ap,Cl ex=ap->(∀c,ex≠ .panic c)->pB E X (kK K X) ex (oz F (jO q))=some ai->q.c=F->q.N=T.N->
   ∃v w',(Instr.endRound l (some ap)).run P w3= .ok v w'/\((∀b,b<W.heap.size->¬cZ conc b->b≠l->w'.heap[b]?=W.heap[b]?)/\W.heap.size<=w'.heap.size/\w'.os=W.os/\w'.tape=W.tape/\eW W w'/\
   (
    (hL v= .returned (.bool true)/\∃H o,iE P w0 wb D l own0 a fn ps.toArray ca cb .ready none A S H (mk T o) w'/\again o=some ai)\/
    (hL v= .returned (.bool false)/\∃H,∃y∈X,∃o,iE P w0 wb D l own0 a fn ps.toArray ca cb .done (some (Cl y.1.b)) A S H (mk y.2 o) w'/\K y.1.b (mk y.2 o)=some ai))):=by
   intro ex ap br _ aE t u;refine⟨_,_,run_endRound (some ap) a5,a6 _ _,by rw[a2];omega,aI,aK,(⟨an.d,an.e⟩),.inr ⟨rfl,?_⟩⟩;have⟨aj,_,U⟩:=aJ .done (some ap) t u;have⟨x,ao,o,H,L,g1,O,bi⟩:=IW aB U.c X aE;have⟨ay,az⟩:=U.q g1 O;refine⟨ay,x,ao,o,?_,by rw[<-L];exact bi⟩;rw[<-L,br];exact az
  have aq:∀{z:Option R},(bif ot q.c F&&ea q.N T.N then z else none)=some ai->q.c=F/\q.N=T.N/\z=some ai:=by
   intro z r;cases C:(ot q.c F&&ea q.N T.N)with
   |false=>rw[C]at r;cases r
   |true=>
    rw[C]at r;simp only[b2]at C;exact⟨EW C.1,cU C.2,r⟩
  cases bh with
  |normal=>
   have⟨t,u,r⟩:=aq (z:=(ky E T (oz F (jO q))).bind again) ar;refine⟨_,_,run_endRound none a5,a6 _ _,by rw[a2];omega,aI,aK,(⟨an.d,an.e⟩),.inl ⟨rfl,?_⟩⟩;have⟨aj,_,U⟩:=aJ .ready none t u;cases V:ky E T (oz F (jO q))with
   |none=>rw[V]at r;cases r
   |some o=>
    rw[V]at r;have⟨H,g1,O⟩:=GR aB U.c V;have⟨ay,az⟩:=U.q g1 λ b⟨i,v,c,k1,bF⟩=>O i v c b k1 bF;exact⟨ay,o,az,r⟩
  |ret=>
   have⟨t,u,r⟩:=aq (z:=pB E X (kK K X) .ret (oz F (jO q))) ar;exact out .ret .ret rfl (λ c C=>by cases C) r t u
  |exit i=>
   have⟨t,u,r⟩:=aq (z:=pB E X (kK K X) (.exit i) (oz F (jO q))) ar;exact out (.exit i) (.exit i) rfl (λ c C=>by cases C) r t u
  |_=>
   have⟨t,u,r⟩:=aq ar;have⟨aj,_,U⟩:=aJ .ready none t u;have⟨x,ao,o,H,L,_⟩:=IW aB U.c X r;cases bB:x.1<;>simp[bB,dN.b]at L
 |_=>cases aC
end
section
variable[Dr]
variable{P:ei}{E:aq}{R:Type}
variable {ca cb:et} {H:bT R} {g:fl} {Oa Ob:List (Ev R)} {T:cf} {F:List Nat} {X:List (dN×cf)} {w0:bC} {a:kg}
theorem iE.t{r D l u fn ps A S conc st xa W I pe} (h0:aD P w0 u xa a r) (h:iE P w0 r D l (cZ u) a fn ps ca cb I pe A S conc st W) (H:∀d sl,Map.av st.a d=some sl->sl.L= []) (L:st.c= []) (o):∃F,cT P F st {a with defers:= [{target:= .collected D,args:= #[]}]++a.defers} (W.putObj l o)/\jz w0 F:=by
 have E:=h.f;have Q:=h.m;have w:∀b,b≠l->(W.putObj l o).heap[b]?=W.heap[b]?:=λ b k=>eV k;have U:(W.putObj l o).heap.size=W.heap.size:=by simp
 have K:conc.B=λ b=>(b<r.heap.size/\w0.B b)\/((r.heap.size<=b/\b≠D/\b≠l)/\¬S b):=h.c.u;have G:∀b,cZ conc b->(b<r.heap.size/\w0.B b)\/((r.heap.size<=b/\b≠D/\b≠l)/\¬S b):=λ b⟨i,v,c,x,y⟩=>by have:=h.c.z x y;omega
 have J:∀b,cZ u b->w0.w.heap.size<=b\/w0.M b:=λ b⟨i,v,c,x,y⟩=>(h0.f i v c b x y).1;have t:=h0.e;have N:=h0.h.g;have T:=t.d;refine⟨⟨W.putObj l o,λ b=>(b<r.heap.size/\w0.B b)\/((r.heap.size<=b/\b≠D/\b≠l)/\¬S b),cZ conc,[{target:= .collected D,args:= #[]}]++a.defers,w0.b,w0.e,w0.d⟩,⟨_,h.c.G _ rfl (λ d sl n=> ⟨n,H d sl n,rfl⟩) (λ _=>rfl) rfl rfl (λ d n=>absurd n (by grind)) (by omega) (λ b C k=>w b λ e=>?_) (λ b _ k=>by grind) rfl rfl (λ b k=>k) rfl ?_⟩,?_⟩
 grind
 exact{
  i:=λ b k=> .inr ⟨by
   grind,λ E=>by
   have:=(h.k b (h.o b E)).2
   grind⟩
  e:=G
  f:=λ d n=>by
   rcases kn.1 n with n|n;simp only[fR]at n;subst n;refine⟨_,rfl,(w _ (by omega)).trans h.n,λ k=>?_,by grind⟩;omega;obtain⟨s,e,h1,B⟩:=h0.h.f d (by rw[<-h0.g];omega);have C:=(ej.1 h1).1;have z:¬w0.M s:=λ g=>B.1 (h0.h.e s g);have n0:¬cZ u s:=λ k=>by
    grind
   refine⟨s,e,(w _ (by omega)).trans ((h.h s (by omega) n0).trans ((t.e s C z).trans h1)),λ k=>?_,B.2⟩
   grind
  h:=by
   rw[List.singleton_append,hh];refine⟨λ O=>?_,by rw[h0.g];exact h0.h.h⟩;obtain⟨s,e,h1,_⟩:=h0.h.f _ (by rw[<-h0.g];omega)
   grind
  g:=by
   grind}
 exact{
  j:=h.p.trans t.i
  g:=h.i.trans t.g
  c:= ⟨(eW.b h.d t.f).d,(eW.b h.d t.f).e⟩
  d:=by
   grind
  e:=λ b k z=>by
   have n0:¬cZ u b:=λ R=>by
    grind
   exact(w b (by omega)).trans ((h.h b (by omega) n0).trans (t.e b k z))
  M:=λ b k=>by
   rcases h.j b k with g|g
   all_goals grind
  q:=λ b k h1=> .inl ⟨by omega,h1⟩
  p:=λ b k h1=>by
   grind
  h:=rfl
  m:=rfl}
theorem M5(aO:al P E)(aP:H.c= []){es ps body} (Q:qp P E es ps ca cb Oa Ob T F X body) {Y} (hI:oB P H false Y) {K} {M} {w l} {conc} {d} {xs} (h:la body (kK K X) (λ d=>K .normal (mk T d)) xs d=some M) (I:aD P w0 conc (mk T d) a w) (aU:Y w0 M) {fid} {aa} (bj:a.eval g= .func (.func fid) #[] aa) (bi:lE P fid) (a3:w.heap.size<=l.heap.size) (aY:∀b,b<w.heap.size->l.heap[b]?=w.heap[b]?) (Z:l.os=w.os/\l.tape=w.tape/\eW w l) {A0} (aM:∀b,A0 b->w.heap.size<=b/\b<l.heap.size) (a0:∀s,s.heap.size=l.heap.size+2->(∀b,b<l.heap.size->s.heap[b]?=l.heap[b]?)->ET P (λ W o aF x=>∃vs,aF=vs.toArray/\fe P W o es vs x) fid aa A0 s (λ b=>ae conc b/\b<w.heap.size) xs):(Code.rangeFunc g ps.toArray ca cb).wpIn (Fr none) 7 P (λ e a' w'=>(∃V N st',cT P V st' a' w'/\Y V N/\K e st'=some N)/\a'.tmps=a.tmps) a l:=by
 have⟨bm,be,ay⟩:=hI.g rfl aP;let done:cR T.b->Option R:=λ d=>K .normal (mk T d);refine wpIn_rangeFunc λ fn _=>?_;have an:=run_enterLoop_outer (P:=P) (w:=l) fn a.tmps ps.toArray ca cb;generalize U:(l.alloc (.deferred (some []))).alloc (.loop {state:= .ready,pending:=none,fn,tmps:=a.tmps,params:=ps.toArray,assign:=ca,body:=cb,defers:=l.heap.size})=s at an;refine⟨_,_,_,{target:= .fn (.func fid) aa,args:= #[.func (.yield (l.heap.size+1)) #[] #[]]},s,fid,#[.func (.yield (l.heap.size+1)) #[] #[]]++aa,s,
  an,?_,λ _ _=>trivial,?_,λ _=>by decide,?_⟩
 show(hZ _ _).run P _=_;simp_all[rangeCall,nV,hZ]
 grind[invoke,Hk];have a2:s.heap.size=l.heap.size+2:=by rw[<-U];simp
 have aw:∀b,b<l.heap.size->s.heap[b]?=l.heap[b]?:=λ b q=>by
  rw[<-U];show((l.heap.push _).push _)[b]?=_
  grind
 have aX:∀b,b<w.heap.size->s.heap[b]?=w.heap[b]?:=λ b q=>(aw b (by omega)).trans (aY b q);have aN:s.heap[l.heap.size]?=some (.deferred (some [])):=by
  rw[<-U];show((l.heap.push _).push _)[l.heap.size]?=_
  grind
 have aR:s.heap[l.heap.size+1]?=some (.loop {state:= .ready,pending:=none,fn,tmps:=a.tmps,params:=ps.toArray,assign:=ca,body:=cb,defers:=l.heap.size}):=by
  rw[<-U];show((l.heap.push _).push _)[l.heap.size+1]?=_
  grind
 have af:s.os=w.os/\s.tape=w.tape/\eW w s:=by rw[<-U];exact⟨Z.1,Z.2.1,Z.2.2.d,Z.2.2.e⟩
 have aS:conc.B=w0.B:=I.u;have⟨_,_,bk⟩:=qw d;have aq:∀r,∀k sl,Map.av (mk T r).a k=some sl->sl.L= []:=λ r k sl C=>xS r C;have az:∀b,cZ conc b->b<w.heap.size/\w0.B b:=λ b⟨i,v,c,t,z⟩=> ⟨(I.f i v c b t z).2,I.z t z⟩;have ac:∀dd∈a.defers,∃D,dd={target:= .collected D,args:= #[]}/\w.heap[D]?=some (.deferred (some []))/\¬cZ conc D/\¬w0.B D/\w0.d<=D:=λ dd am=>by
  have⟨D,aJ,aj,O⟩:=I.y.h.f dd am;exact⟨D,aJ,aj,λ q=>O.1 (I.y.h.e D q),O⟩
 have ab:∃conc1,iE P w0 w l.heap.size (l.heap.size+1) (cZ conc) a fn ps.toArray ca cb .ready none A0 A0 conc1 (mk T d) s:=by
  refine⟨_,{
   c:=I.y.G _ rfl (by grind) (λ _=>rfl) rfl rfl (by grind) (by omega) (by grind) (by grind) rfl rfl (λ b q=>q) rfl {
    i:=λ b q=> .inr ⟨by grind,λ g=>by
     grind⟩
    e:=λ b q=> .inl (az b q)
    f:=λ dd am=>by
     grind
    h:=I.y.h.h
    g:=by
     have aj:=I.h.g;have O:=I.e.d
     grind}
   m:= ⟨a3,by omega,by omega⟩
   g:=aR
   n:=aN
   p:=af.1
   i:=af.2.1
   d:=af.2.2
   f:=by omega
   h:=λ b q _=>aX b q
   j:=λ b q=> .inl q
   e:=λ b q g=>by
    have:=aM b g;have:=(az b q).1;omega
   o:=λ _ h=>h
   k:=λ b g=>by grind}⟩
 have⟨conc1,ab⟩:=ab
 let a6:Nat->Prop:=λ b=>ae conc b/\b<w.heap.size
 let J:Nat->(Nat->Prop)->(Nat->Prop)->ef->Prop:=λ k A S W=>∃u r,iE P w0 w l.heap.size (l.heap.size+1) (cZ conc) a fn ps.toArray ca cb .ready none A S u (mk T r) W/\la body (kK K X) done (xs.drop k) r=some M
 let aG:(Nat->Prop)->(Nat->Prop)->ef->Prop:=λ A S W=>∃u,∃y∈X,∃r,iE P w0 w l.heap.size (l.heap.size+1) (cZ conc) a fn ps.toArray ca cb .done (some (Cl y.1.b)) A S u (mk y.2 r) W/\K y.1.b (mk y.2 r)=some M
 have aT:=a0 s a2 aw (l.heap.size+1) J aG
  (λ k A S W A' aH L⟨u,r,q,G⟩ag=>by
   have⟨aI,_,O⟩:=q.r ⟨(qw r).2.1,aq r⟩ ((qw r).2.2.trans Q.c) ag ac
   grind)
  (λ A S W A' aH L⟨u,y,ah,r,q,G⟩ag=>by
   have⟨aI,_,O⟩:=q.r ⟨(qw r).2.1,λ k sl C=>xS r C⟩ ((qw r).2.2.trans (Q.f y ah)) ag ac
   grind)
  (λ k x A S W aF⟨u,r,q,G⟩C⟨cs,aK,aZ⟩=>by
   subst aK;have aV:=(hA.1 C).1;rw[hB aV]at G;have a5:xs[k]=x:=(hA.1 C).2;rw[a5]at G;have ak:u.B=λ b=>(b<w.heap.size/\w0.B b)\/((w.heap.size<=b/\b≠l.heap.size/\b≠l.heap.size+1)/\¬S b):=q.c.u;have a1:cM W (λ b=>(a6 b/\b<s.heap.size)\/(A b/\¬S b)) (ae u):=λ b B ad=>by
    have av:¬cZ u b->∀id ver c,u id=some (ver,c,true)->¬dB c b:=λ aW i v c t z=>aW ⟨i,v,c,t,z⟩;obtain⟨⟨t,z⟩,_⟩| ⟨t,z⟩:=B
    refine⟨by rw[ak];exact .inl ⟨z,by rw[<-aS];exact t.1⟩,av λ B=>?_⟩;rcases q.j b B with⟨i,v,c,k1,ai⟩|k1
    exact t.2 i v c k1 ai;omega;exact⟨by rw[ak];exact .inr ⟨(q.k b t).1,z⟩,av λ B=>q.e b B t⟩
   have⟨dP,bn,bg,bh,bc,bd⟩:=aiR aO Q (again:=λ d=>la body (kK K X) done (xs.drop (k+1)) d) q ac (iL.b.CJ ⟨eb _,λ _ _ _=>rfl⟩ a1 es aZ) G;refine⟨_,_,_,_,bc,bd.mono ?_⟩;rintro aL L⟨aB,a7,a8,a9,ba,bb⟩;refine⟨{h:=a8,g:=a9,f:=ba,d:=a7,e:=λ b ad B=>?_},bb⟩;obtain⟨⟨t,z⟩,_⟩|t:=B
   refine aB b ad (λ B=>?_) (by omega);rcases q.j b B with⟨i,v,c,k1,ai⟩|k1
   exact t.2 i v c k1 ai;omega;exact aB b ad (λ B=>q.e b B t) (by have:=(q.k b t).1;omega))
  ⟨conc1,d,ab,h⟩
 refine QE (aT.mono ?_);have fin:∀{A S:Nat->Prop}{u:bf}{st':au}{L:ef}{aE:hq}{aA:Option et}(q:iE P w0 w l.heap.size (l.heap.size+1) (cZ conc) a fn ps.toArray ca cb aE aA A S u st' L)(ex:hz)(ar:∀d sl,Map.av st'.a d=some sl->sl.L= [])(ap:st'.c= [])(C:K ex st'=some M)(o:Obj),
  (∃V N aC,cT P V aC {a with defers:= [{target:= .collected l.heap.size,args:= #[]}]++a.defers} (L.putObj (l.heap.size+1) o)/\Y V N/\K ex aC=some N)/\({a with defers:= [{target:= .collected l.heap.size,args:= #[]}]++a.defers}:kg).tmps=a.tmps:=by
  intro A S u st' L aE aA q ex ar ap C o;have⟨bl,t,z⟩:=iE.t I q ar ap o;exact⟨⟨_,_,_,t,(ay _ _).2 ⟨by grind,((ay _ _).1 aU).2.f z⟩,C⟩,rfl⟩
 rintro aL L⟨⟨v,rfl⟩,aQ⟩;obtain⟨A,S,u,r,q,G⟩| ⟨A,S,u,y,ah,r,q,G⟩:=aQ
 refine⟨none,_,run_endLoop q.g (by simp),?_⟩;rw[mv]at G;exact fin q _ (aq _) ((qw _).2.2.trans Q.c) G _;refine⟨some _,_,run_endLoop q.g (by simp),?_⟩;have:=fin q y.1.b (λ k sl C=>xS r C) ((qw r).2.2.trans (Q.f y ah)) G;cases a4:y.1<;>rw[a4]at this<;>first|exact wpIn_exit (this _)|exact wpIn_ret (this _)
def T1(e e2:Ty):aU->RM (List (e.b×e2.b))| .aE u d=> .nS (gN (t:=u) (t':= .dX e e2) d)|_=> .aa
abbrev GP(T:cf)(F:List Nat)(p q:Nat)(e e2:Ty)(d:cR T.b)(x:e.b×e2.b):=yO T F [p,q] [e,e2] d x
def qX(E:aq)(e e2:Ty)(g:fl)(T:cf)(X:List (dN×cf))(body:cR T.b->e.b×e2.b->(cR T.b->Option R)->iI R X->Option R):Ev R:=λ st K=>(ky E T st).bind λ d=>((c9 [] g).aB (T1 e e2)).jT (mk T d) λ xs=>la body (kK K X) (λ d=>K .normal (mk T d)) xs d
theorem Pv(s:al P E)(G:H.c= []){e c p q}{body:cR T.b->e.b×c.b->(cR T.b->Option R)->iI R X->Option R} (I:qp P E [e,c] [p,q] ca cb Oa Ob T F X body) (r) (t:r.isSome=false) (i) (hI:oB P H false i) (K) (n) (st) (a) (w) (w0) (h:qX E e c g T X body st K=some n) (f:cT P w0 st a w) (U:i w0 n):Code.wpIn (Fr r) 7 P (.rangeFunc g #[p,q] ca cb) (λ e a' w'=>(∃u o st',cT P u st' a' w'/\i u o/\K e st'=some o)/\a'.tmps=a.tmps) a w:=by
 have t:r=none:=by simp_all
 subst t;unfold qX at h;have⟨d,N,h⟩:=eQ.1 h;have⟨conc,f⟩:=Aa s f N;rw[RM.sH]at h;have⟨xs,Y,h⟩:=eQ.1 h;have⟨x,Z,m⟩:=RM.aI Y;have ah:=dQ f (cG _) Z;have Q:∃vs,a.eval g=(Ty.dX e c).d vs/\aw P (.dX e c) w (ae conc) vs xs:=by
  cases x<;>simp[T1]at m<;>try(cases m;done)
  obtain⟨rfl,rfl⟩:=kC (RM.Ae m);trivial
 obtain⟨vs,O,fid,ai,rfl,M,V⟩:=Q;refine M5 (es:= [e,c]) (ps:= [p,q]) (T:=T) (X:=X) (body:=body) (xs:=xs) s G I hI h f U O M (eb _) (λ _ _=>rfl) ⟨rfl,rfl,rfl,λ _=>eb _⟩ (A0:=λ _=>False) (λ _ h=>h.elim) λ v ag D=>?_;have:=V v (λ b=>ae conc b/\b<w.heap.size) ⟨by omega,λ b _ j=>D b j⟩ λ b L j=> ⟨L,j⟩;intro l J ad k1 aa ab ac;exact this l J _ k1 aa (λ k x A S W aj y z⟨cs,af,B,c,C⟩=>ab k x A S W _ y z ⟨_,B,_,_,rfl,c,_,rfl,C⟩) ac
theorem ahE(b:al P E)(c:H.c= []){e e2 p q}{body:cR T.b->e.b×e2.b->(cR T.b->Option R)->iI R X->Option R} (f:qp P E [e,e2] [p,q] ca cb Oa Ob T F X body):eS P H false (.rangeFunc g #[p,q] ca cb) (qX E e e2 g T X body):=λ r k l d K m st a w w0 h j i=>fz (Pv b c f r k _ d K _ _ a w _ h j i) λ _ _ _ h=>h.1
end
section
variable[Dr]
variable{P:ei}{E:aq}{w0:bC}{w:ef}{conc:bf}{st:au}{a:kg}
variable {ok:Nat->Prop} {n:Nat} {fn:oh} {α:Type} {vs:List eg} {f:hN} {v:eg} {cs:List eg} {w1:ef} {N:Nat} {bs:List Nat} {ts:List Ty} {c:et} {r:ax ts}
theorem aaG{T:Nat}{u}(h:(Instr.loadAt T v).run P w= .ok u w):(do loadVar T (<-asAddr v):Sem eg).run P w= .ok u w:=by cases v with
 |pointer p=>cases p with|none=>trivial|some q=>exact h
 |_=>trivial
def vY(a:kg):oj->Sem eg| .tmp t=>pure (a.tmps.getD t l9)| .cell c t=>do loadVar t (<-asAddr (a.tmps.getD c l9))
theorem EK(k:al P E)(h:aD P w0 conc st a w):{p:List oj}->{l:List bQ}->(po E p).af st=some l->∃vs,(p.mapM (vY a)).run P w= .ok vs w/\bU (di P w conc (ae conc)) l vs/\vs.length=p.length
 | [],l,d=>by cases d;exact⟨[],by simp,trivial,rfl⟩| .tmp t::r,l,d=>by
  have⟨s,f,g⟩:=RM.aI d;have⟨m,i,j⟩:=RM.aI g;cases j;have:=jJ h (cG _) f;have⟨vs,q,e,v⟩:=EK k h i;refine⟨a.eval (.tmp t)::vs,?_,⟨this,e⟩,by simp[v]⟩;have o:a.eval (.tmp t)=a.tmps.getD t undef:=by simp[nV]
  simp[kR,vY,o,q]| .cell c T::r,l,d=>by simp[po]at d;cases n:E.b T with|none=>rw[n]at d;cases d|some t=>
   rw[n]at d;dsimp only at d;have⟨b,A,d⟩:=RM.aI d;have⟨s,f,g⟩:=RM.aI d;have⟨m,i,j⟩:=RM.aI g;cases j;have B:=dQ h (cG _) A;have⟨u,y,z⟩:=Rr k h n f B;have x:=aaG y;have⟨vs,q,e,v⟩:=EK k h i;refine⟨u::vs,?_,⟨z,e⟩,by grind⟩;have o:a.eval (.tmp c)=a.tmps.getD c undef:=by rfl
   rw[o]at x;have:(vY a (.cell c T)).run P w= .ok u w:=x;simp_all
theorem JP(h:(fn.results.toList.mapM (vY a)).run P w= .ok vs w):(n4 fn a.tmps).run P w= .ok (if vs.length=1 then vs.headD l9 else .tuple vs.toArray) w:=by
 unfold n4;have e:∀g,(∀r,g r=vY a r)->fn.results.mapM g=Functor.map List.toArray (fn.results.toList.mapM (vY a)):=by intro g b;rw[Array.mapM_eq_mapM_toList,(funext b)]
 rw[e _ (λ r=>by rfl)];simp only[map_eq_pure_bind,bind_assoc,pure_bind];rw[en,h]
 match vs with| []=>rfl| [v]=>rfl|v::u::r=>simp
theorem CC:(l:List aU)->(n d:Nat)->{sl:fX}->Map.av (yA n l) d=some sl->∃i x,d=n+i/\l[i]?=some x/\sl= ⟨[],true,.v x⟩
 | [],n,d,sl,h=>by cases h|x::r,n,d,sl,h=>by
  simp[yA,Map.av,gF]at h;by_cases b:n=d
  simp_all;simp[b]at h;obtain⟨i,y,c,e,a⟩:=CC r (n+1) d h;exact⟨i+1,y,by omega,by trivial,a⟩
theorem CS:(ts:List Ty)->(x:ax ts)->(mh ts x).length=ts.length| [],_=>rfl| [t],x=>rfl|t::u::ts,(x,y)=>by simp[mh,CS (u::ts) y]
theorem GA:(ts:List Ty)->{vs:List eg}->{x:ax ts}->oO P w ok ts vs x->bU (bN P w conc ok) (pA (mh ts x)) vs| [],vs,x,h=>by cases h;trivial| [t],vs,x,⟨v,a,b⟩=>by subst a;trivial|t::u::ts,vs,x,⟨v,r,a,b,h3⟩=>by subst a;exact⟨b,GA _ h3⟩
theorem Ix:∀l,(pA l).length=l.length| []=>rfl|a::l=>by cases a<;>simp[pA,Ix l]
theorem Kr(ok)(w)(c)(l):sQ ⟨w,ft ok w,λ _=>False,[],c,l,w.heap.size⟩ where
 i:=λ b a=> .inr a
 e:=λ b a=>a.elim
 f:=(λ _ h=>(by cases h))
 h:=gb
 g:=eb _
theorem L8{ins caps x y}(M:ins.length+caps.length<=N)(I:fe P w ok ins vs x)(J:oO P w ok caps cs y)(K):cT P ⟨w,ft ok w,λ _=>False,[],K,0,w.heap.size⟩ (uN N ins caps x y) {tmps:=(vs++cs).toArray++kk (N- (vs++cs).toArray.size) l9,defers:= []} w:=by
 let conc:bf:= ⟨λ _=>none,ft ok w,0⟩;have B:∀b,ok b->ae conc b:=λ b c=> ⟨.inl c,(λ _ _ _ h=>(by cases h))⟩;have z:bU (bN P w conc (ae conc)) (mh ins x) vs:=(HA (conc:=conc) ins I).e λ a b h=>bN.b ⟨eb _,λ _ _ _=>rfl⟩ (λ b c _=>B b c) (fU.b _) a h;have A:bU (bN P w conc (ae conc)) (pA (mh caps y)) cs:=(GA (conc:=conc) caps J).e λ a b h=>bN.b ⟨eb _,λ _ _ _=>rfl⟩ (λ b c _=>B b c) (fU.b _) a h;have F:=z.d A;have G:=z.b;have H:=A.b;rw[CS]at G;rw[Ix,CS]at H;refine⟨conc,{g:=rfl,n:=?_,m:=?_,k:=?_,q:=(λ id ver o h=>(by cases h)),r:=λ _ _=>rfl,t:=(λ _ _ _ _ _ _ _ h=>(by cases h)),f:=(λ _ _ _ _ h=>(by cases h)),e:= ⟨rfl,rfl,⟨rfl,by grind⟩,eb _,λ _ _ _=>rfl⟩,u:=rfl,x:=rfl,h:=Kr _ w _ 0,l:=(λ _ h=>(by cases h))}⟩
 grind[uN]
 intro d sl j p hp;obtain⟨i,a,_,_,e⟩:=CC _ _ _ j
 grind
 intro d sl j;obtain⟨i,a,s,C,D⟩:=CC _ _ _ j;rw[Nat.zero_add]at s;subst s;obtain⟨v,L,E⟩:=bU.h d a F C;refine⟨v,?_,?_⟩
 grind
 rw[D];exact⟨λ _=> ⟨rfl,E⟩,absurd (cG _)⟩
def AX(N:Nat)(caps:List Ty)(y:ax caps):au:={N,d:= [],a:=(0,⟨[],true,.v .ku⟩)::yA 1 (pA (mh caps y)),b:= [],c:= []}
theorem abf{caps y}(l)(I:1+caps.length<=N)(F:oO P w ok caps cs y)(G):cT P ⟨w,ft ok w,λ _=>False,[],G,l,w.heap.size⟩ (AX N caps y) {tmps:=(#[kH (.yield l) #[] #[]]++cs.toArray)++kk (N- (#[kH (.yield l) #[] #[]]++cs.toArray).size) l9,defers:= []} w:=by
 let conc:bf:= ⟨λ _=>none,ft ok w,l⟩;have E:∀b,ok b->ae conc b:=λ b c=> ⟨.inl c,(λ _ _ _ h=>(by cases h))⟩;have p:bU (bN P w conc (ae conc)) (pA (mh caps y)) cs:=(GA (conc:=conc) caps F).e λ a b h=>bN.b ⟨eb _,λ _ _ _=>rfl⟩ (λ b c _=>E b c) (fU.b _) a h;have D:=p.b;rw[Ix,CS]at D;have C:∀d sl,Map.av (AX N caps y).a d=some sl->(d=0/\sl= ⟨[],true,.v .ku⟩)\/∃i a,d=1+i/\(pA (mh caps y))[i]?=some a/\sl= ⟨[],true,.v a⟩:=by grind[AX,Map.av,gF,CC]
 refine⟨conc,{g:=rfl,n:=?_,m:=?_,k:=?_,q:=(λ id ver o h=>(by cases h)),r:=λ _ _=>rfl,t:=(λ _ _ _ _ _ _ _ h=>(by cases h)),f:=(λ _ _ _ _ h=>(by cases h)),e:= ⟨rfl,rfl,⟨rfl,by grind⟩,eb _,λ _ _ _=>rfl⟩,u:=rfl,x:=rfl,h:=Kr _ w _ l,l:=(λ _ h=>(by cases h))}⟩
 grind[AX]
 grind
 intro d sl B;rcases C d sl B with⟨j,e⟩| ⟨i,a,j,s,z⟩
 subst j e;refine⟨.func (.yield l) _ _,?_,⟨λ _=> ⟨rfl,rfl⟩,absurd (cG _)⟩⟩
 grind
 obtain⟨v,H,A⟩:=bU.h i a p s;refine⟨v,?_,?_⟩
 grind[hA,Array.getElem?_append_left,Array.getElem?_append_right]
 rw[z];exact⟨λ _=> ⟨rfl,A⟩,absurd (cG _)⟩
theorem Su:(ts:List Ty)->{vs:List eg}->{x:ax ts}->fe P w ok ts vs x->vs.length=ts.length| [],vs,x,h=>by cases h;rfl| [t],vs,x,⟨cs,a,b⟩=>by grind|t::u::ts,vs,x,⟨cs,r,a,b,h3⟩=>by subst a;simp[Su (u::ts) h3]
theorem IZ{ok'}(c:cM w ok ok'):(ts:List Ty)->{vs:List eg}->{x:ax ts}->fe P w ok ts vs x->fe P w ok' ts vs x| [],vs,x,h=>h| [t],vs,x,⟨cs,a,b⟩=> ⟨cs,a,b.c c⟩|t::u::ts,vs,x,⟨cs,r,a,b,h3⟩=> ⟨cs,r,a,b.c c,IZ c (u::ts) h3⟩
theorem Vr:(ts:List Ty)->{vs:List eg}->{x:ax ts}->fe P w ok ts vs x->iL P w ok ts (if vs.length=1 then vs.headD l9 else .tuple vs.toArray) x| [],vs,x,h=>by cases h;rfl| [t],vs,x,⟨cs,a,b⟩=>by subst a;exact⟨_,rfl,b⟩|t::u::ts,vs,x,h=>by have c:=Su _ h;simp[j3]at c;rw[if_neg (by omega)];exact⟨_,rfl,h⟩
theorem kP.b{n ok ok'}(j:cM w ok ok')(t){vs d bs}(h:kP P n w ok t vs d bs):kP P n w ok' t vs d bs:=by induction t generalizing vs bs with
 |aH e=>
  obtain h| ⟨b,off,cap,cs,T,c,f,g,m,o,p,q,r⟩:=h
  exact .inl h;exact .inr ⟨b,_,_,_,T,c,f,g,m,o,p,q,λ i x v=>(r i x v).c j⟩|aF a b s u=>have⟨k,l,c,f,g⟩:=h;exact⟨k,l,c,s f,u g⟩|_=>exact⟨h.1,h.2.c j⟩
theorem kP.d{ok'}(k:cM w ok ok')(s:∀b,n<=b->ok' b)(t){d}(h:kP P n w ok t vs d bs):aw P t w ok' vs d:=by induction t generalizing vs bs with
 |aH e=>
  obtain⟨rfl,rfl,_⟩| ⟨b,off,cap,cs,T,f,g,c,l,j,x,m,o⟩:=h
  exact aw.h;exact⟨_,_,f,j,.inr ⟨b,_,_,T,_,rfl,s b c,l,eH (mb (l7 _ j) _) m,λ i y r=>(o i y r).c k⟩⟩|aF a b p q=>have⟨u,v,f,g,c⟩:=h;exact⟨p g,q c⟩|_=>exact h.2.c k
def rX(conc:bf)(id:Nat):=(conc id).bind λ p=>oi p.2.1
theorem H6{t}(o:∀w ok vs d bs,kP P n w ok t vs d bs↔bs= []/\aw P t w ok vs d){x r us q} (a:(zV t x r).af st=some q) (i:t.a=1) (hp:t.c=false) (b:bU (bN P w conc (ae conc)) (x::r) us):∃vs g bs,us=vs++g/\bU (bN P w conc (ae conc)) q.2 g/\vs.length=t.a/\kP P n w (ae conc) t vs q.1.1 bs/\bs=q.1.2.filterMap (rX conc)/\∀id∈q.1.2,∃cv c,conc id=some (cv,c,true):=by
 unfold zV at a;split at a
 split at a;rename_i y j;cases a;obtain⟨e,m⟩:=kC j;subst e
 match us,b with
 |v::us,b=>
  obtain⟨k,l,h⟩:=b.1;have f:=h.d;rw[i]at f
  match k,f with
  | [z],_=>
   have:v=z:=by grind[Ty.d]
   subst this;exact⟨[v],_,_,rfl,b.2,by omega,by grind,rfl,by grind⟩
 trivial;trivial
theorem FZ(h:aD P w0 conc st a w)(j:∀b,cZ conc b->n<=b):(t:Ty)->{l:List aU}->{us:List eg}->{q:(t.b×List Nat)×List aU}->(vt t l).af st=some q->bU (bN P w conc (ae conc)) l us->∃vs u bs,us=vs++u/\bU (bN P w conc (ae conc)) q.2 u/\vs.length=t.a/\kP P n w (ae conc) t vs q.1.1 bs/\bs=q.1.2.filterMap (rX conc)/\∀id∈q.1.2,∃cv c,conc id=some (cv,c,true)
 | .aH e,.dj id ver::r,v::us,q,d,f=>by
  simp[vt,RM.af]at d;split at d
  ·rename_i cv S l G;have⟨i,g⟩:=dE d;have:=cU i;subst this;split at g
   ·rename_i x m;cases g;have⟨F,m⟩:=kC m;cases F;subst m;have⟨c,ad,k1,o⟩:=pW h G;have⟨R,c',af,m1,m2,ac,J⟩:=f.1;rw[k1]at m1;cases m1;have H:=J rfl;subst H;obtain⟨rfl,o⟩:=o;obtain⟨p,s⟩| ⟨b,off,cap,cs,T,p,s,K,L,M,N⟩:=o
    ·refine⟨[v],_,[],rfl,f.2,rfl,.inl (by grind),?_,?_⟩;all_goals grind[rX,oi,fR]
    ·refine⟨[v],_,_,rfl,f.2,rfl,.inr ⟨b,_,_,_,T,by rw[p],rfl,j b ⟨_,_,v,k1,by rw[p];rfl⟩,s,K,L,M,N⟩,?_,?_⟩;all_goals grind[rX,oi,fR]
   trivial
  trivial| .aH e,.js::r,v::us,q,d,f=>by cases d;have I:v= .slice none 0 0:=f.1;subst I;exact⟨[_],_,_,rfl,f.2,rfl,.inl (by grind),rfl,by grind⟩| .aF x y,l,us,q,d,f=>by simp[vt]at d;have⟨ag,i,d⟩:=RM.aI d;have⟨p2,g,d⟩:=RM.aI d;cases d;have⟨O,ah,z,U,B,C,V,W,X⟩:=FZ h j x i f;have⟨Q,ai,A,Y,D,E,Z,aa,ab⟩:=FZ h j y g B;refine⟨O++Q,_,_,by grind,D,by simp[Ty.a,C,E],⟨z,A,rfl,?_,?_⟩,by grind,?_⟩;all_goals grind| .ay k,x::r,us,q,d,f=>H6 (λ _ _ _ _ _=>j1) d rfl rfl f| .aO,x::r,us,q,d,f=>H6 (λ _ _ _ _ _=>j1) d rfl rfl f| .aJ,x::r,us,q,d,f=>H6 (λ _ _ _ _ _=>j1) d rfl rfl f| .aH e,.dj id ver::r,[],q,d,f=>f.elim| .aH e,.js::r,[],q,d,f=>f.elim| .aH e,.aE _ _::_,_,_,d,_| .aH e,.dx _ _ _::_,_,_,d,_| .aH e,.gB _ _::_,_,_,d,_| .aH e,.rD _ _ _ _::_,_,_,d,_| .aH e,.rN _::_,_,_,d,_| .aH e,.nX::_,_,_,d,_| .aH e,.ku::_,_,_,d,_=>by trivial| .ay _,[],_,_,d,_| .aO,[],_,_,d,_| .aJ,[],_,_,d,_| .aH _,[],_,_,d,_=>by trivial| .dP _ _,l,_,_,d,_| .dX _ _,l,_,_,d,_| .cO _ _,l,_,_,d,_| .ec _,l,_,_,d,_=>by trivial
theorem Mx:{l:List Nat}->DZ l=true->l.Nodup| [],_=>gb|i::r,h=>by simp[DZ,b2,fb,mm]at h;refine hh.2 ⟨λ a=>h.1 i a (by simp),Mx h.2⟩
theorem Mu(h:aD P w0 conc st a w):{l:List Nat}->l.Nodup->(∀id∈l,∃cv c,conc id=some (cv,c,true))->(l.filterMap (rX conc)).Nodup
 | [],_,_=>gb|i::r,hn,ho=>by
  rw[hh]at hn;have o:=Mu h hn.2 λ id k=>ho id (gw _ k);rw[List.filterMap_cons];split
  omega;rename_i b d;refine hh.2 ⟨λ n=>?_,o⟩;obtain⟨j,m,e⟩:=ma.1 n;obtain⟨cv,c,f⟩:=ho i fH;obtain⟨p,c',g⟩:=ho j (gw _ m);simp only[rX,f,eo]at d;simp only[rX,g,eo]at e;have:=h.t i j _ _ _ _ b f g (HE d) (HE e)
  grind
theorem abl{n ok}(h:aD P w0 conc st a w)(A:∀b,cZ conc b->n<=b)(M:∀b,n<=b->ok b)(N:∀b,conc.B b->ok b):(o:List Ty)->{l:List bQ}->{vs:List eg}->{r:ax o}->(zH o l).af st=some r->bU (di P w conc (ae conc)) l vs->∃v,vs= [v]/\iL P w ok o v r/\kz P n w conc.B o v r:=by
 intro o l vs r f d;unfold zH at f;split at f
 rename_i e id ver
 match vs,d with
 | [v],d=>
  simp only[RM.af]at f;split at f;rename_i cv aj l Y;obtain⟨u,k⟩:=dE f;have:=cU u;subst this;split at k;rename_i x B;cases k;obtain⟨U,B⟩:=kC B;obtain⟨c,al,k1,s⟩:=pW h Y;obtain⟨ai,c',am,m1,m2,ak,af⟩:=d.1;rw[k1]at m1;cases m1;have ac:=af rfl;subst ac;cases U;subst B;obtain⟨rfl,s⟩:=s;refine⟨v,rfl,?_,?_⟩;refine⟨[v],rfl,?_⟩;rcases s with⟨g,j⟩| ⟨b,off,cap,cs,T,g,j,t,Q,C,D⟩
  refine⟨none,0,?_,?_,.inl j⟩;rw[g,j];rfl;rw[j];exact eb _;refine⟨some ⟨b,off,none⟩,cap,by rw[g],t,.inr ⟨b,off,cs,T,_,rfl,?_,j,?_,λ i y z=>?_⟩⟩;exact M b (A b ⟨id,cv,v,k1,by rw[g];rfl⟩);exact eH (mb (l7 _ t) _) C;exact(D i y z).c λ b m _=>N b m.1;rcases s with q| ⟨b,off,cap,cs,T,g,j,t,Q,C,D⟩;exact .inl q;refine .inr ⟨b,off,cap,cs,T,g,A b ⟨id,cv,v,k1,by rw[g];rfl⟩,j,t,Q,C,λ i y z=>(D i y z).c λ ah I _=> ⟨I.1,λ e=>?_⟩⟩;subst e;exact I.2 id _ v k1 (by rw[g];rfl);trivial;trivial
 | [],d=>trivial
 |_::_::_,d=>exact d.2.elim
 match vs,d with
 | [v],d=>
  cases f;have ad:v= .slice none 0 0:=d.1;subst ad;exact⟨_,rfl,⟨_,rfl,aw.h⟩,.inl ⟨rfl,rfl⟩⟩
 | [],d=>exact d.elim
 |_::_::_,d=>exact d.2.elim
 rename_i x y l
 match vs,d with
 | [v],d=>
  obtain⟨q,u,k⟩:=RM.aI f;obtain⟨us,Z,aa,ab⟩:=d.1;obtain⟨cs,ag,bs,E,p,R,F,G,H⟩:=FZ h A _ u ab;split at k;rename_i X;obtain⟨W,S⟩:=dE k;cases S;rw[X]at p
  match ag,p with
  | [],_=>
   rw[nb]at E;subst E;have O:v=(Ty.aF x y).d us:=by rw[Z];simp[Ty.d,Ty.c]
   refine⟨v,rfl,⟨us,O,F.d (λ b m _=>N b m.1) M⟩,us,bs,O,aa,?_,R,F.b λ b m _=> ⟨m.1,λ L=>?_⟩⟩;rw[G];exact Mu h (Mx W) H;rw[G]at L;obtain⟨id,V,J⟩:=ma.1 L;obtain⟨cv,c,K⟩:=H id V;simp only[rX,K,eo]at J;exact m.2 id cv c K (HE J)
  |_::_,p=>exact p.elim
  cases k
 | [],d=>exact d.elim
 |_::_::_,d=>exact d.2.elim
 cases f
theorem kz.b{ok'}(k:cM w ok ok')(h:kz P n w ok ts v r):kz P n w ok' ts v r:=by
 unfold kz at h⊢;split at h
 rcases h with h| ⟨b,off,cap,cs,T,c,d,e,f,g,m,o⟩;exact .inl h;exact .inr ⟨b,_,_,_,T,c,d,e,f,g,m,λ i x p=>(o i x p).c λ l a j=> ⟨k _ a.1 j,a.2⟩⟩;obtain⟨vs,bs,c,d,e,f,g⟩:=h;exact⟨_,_,c,d,e,f,g.b λ l a j=> ⟨k _ a.1 j,a.2⟩⟩;omega
theorem agJ{ok'}(a:cM w ok ok')(h:iL P w ok ts v r):iL P w ok' ts v r:=iL.b ⟨eb _,λ _ _ _=>rfl⟩ a _ h
theorem aD.O{s}(h:aD P s conc st a w)(r)(b:sQ {s with f:=r}):aD P {s with f:=r} conc st {a with defers:=r} w:={g:=rfl,n:=h.n,m:=h.m,k:=h.k,q:=h.q,r:=h.r,t:=h.t,f:=h.f,e:= ⟨h.e.i,h.e.g,h.e.f,h.e.d,h.e.e⟩,u:=h.u,x:=h.x,h:=b,l:=h.l}
theorem aeH{n s}(A:jz n s)(Q:n.d=n.w.heap.size)(h:aD P s conc st a w){d r}(E:a.defers=d::r):∃D,d={target:= .collected D,args:= #[]}/\(Instr.takeDeferred D).run P w= .ok [] (w.putObj D (.deferred none))/\∃s',jz n s'/\cT P s' st {a with defers:=r} (w.putObj D (.deferred none)):=by
 have G:s.f=d::r:=h.g.symm.trans E;have⟨D,e,z,u,N⟩:=h.h.f d (by grind);have H:=(ej.1 z).1;have C:w.heap[D]?=some (.deferred (some [])):=(h.e.e D H λ g=>u (h.h.e D g)).trans z;have x:=h.h.h;rw[G,hh]at x;have y:∀b,b≠D->(w.putObj D (.deferred none)).heap[b]?=w.heap[b]?:=λ b l=>eV l;have R:(w.putObj D (.deferred none)).heap.size=w.heap.size:=by simp
 have O:=h.e.d;refine⟨D,e,run_takeDeferred C,⟨w.putObj D (.deferred none),s.B,cZ conc,r,s.b,s.e,s.d⟩,?_,?_⟩
 have k:=A.f h.C.h;exact{
  j:=k.j
  g:=k.g
  c:= ⟨k.c.d,k.c.e⟩
  d:=by
   have:=k.d;show n.w.heap.size<=(w.putObj D _).heap.size;have u:n.w.heap.size<=w.heap.size:=this;omega
  e:=λ b l J=>(y b λ g=>by
   have:=A.h;omega).trans (k.e b l J)
  M:=k.M
  q:=k.q
  p:=k.p
  h:=k.h
  m:=k.m}
 have K:aD P {s with f:=r} conc st {a with defers:=r} w:=h.O r {
  i:=h.h.i
  e:=h.h.e
  f:=λ t F=>h.h.f t (by grind)
  h:=x.2
  g:=h.h.g}
 refine⟨_,aD.H K _ (by omega) (λ b _ l=>y b λ g=>u (by rw[<-g,<-h.u];omega)) (λ b _ l=>by rw[<-h.u];omega) rfl rfl (λ b l=>l) rfl rfl rfl {
  i:=λ b l=>h.h.i b (by
   grind)
  e:=λ b⟨i,v,c,g1,B⟩=>h.z g1 B
  f:=λ t F=>by
   obtain⟨o,e',k1,k2,L⟩:=h.h.f t (by grind);have I:=(ej.1 k1).1;refine⟨o,e',(y o λ g=>?_).trans ((h.e.e o I λ g=>k2 (h.h.e o g)).trans k1),k2,L⟩
   grind
  h:=x.2
  g:=by
   grind}⟩
theorem Gp(p:al P E){fn f fresh ex j ok w1 O n}:∀B{s:bC}{a:kg}{w:ef},a.defers=B->jz ⟨w1,ft ok w1,λ _=>False,[],O,0,w1.heap.size⟩ s->cT P s st a w->xj E fresh fn.results.toList f ex st=some j->LeavesInM kq n P fn a.tmps (λ e w'=>∃v,e= .returned v/\cm w1 w'/\iL P w' (ft ok w1) f v j/\(fresh=true->kz P w1.heap.size w' (ft ok w1) f v j)) B .returning w
 |d::r,s,a,w,C,q,⟨conc,i⟩,h=>by have⟨D,e,N,s',K,L⟩:=aeH q rfl i C;subst e;exact⟨by simp,.inl ⟨D,_,rfl,N,Gp p r (a:={a with defers:=r}) rfl K L h⟩⟩| [],s,a,w,C,q,⟨conc,i⟩,h=>by
  have m:=q.f i.C.h;have F:cm w1 w:= ⟨m.j,m.g,m.c,m.d,λ b c=>m.e b c id⟩;have A:cM w conc.B (ft ok w1):=λ b c _=>by
   rw[i.u]at c;by_cases o:b<w1.heap.size
   exact q.p b o c;exact .inr (by omega)
  have M:∀b,cZ conc b->w1.heap.size<=b:=λ b c=>by
   rcases m.M b c with g|g
   exact g.elim;exact g
  have key:(bif fresh then((po E fn.results.toList).aB λ l=>zH f l).jT st some else((po E fn.results.toList).aB λ l=>rl E f l).jT st λ x=>some x.1)=some j->∃v,(n4 fn a.tmps).run P w= .ok v w/\∃v',hL v= .returned v'/\cm w1 w/\iL P w (ft ok w1) f v' j/\(fresh=true->kz P w1.heap.size w (ft ok w1) f v' j):=by intro h;cases fresh with
   |true=>simp[cond_true]at h;rw[RM.sH]at h;cases k:((po E fn.results.toList).aB λ l=>zH f l).af st with|none=>rw[k]at h;cases h|some x=>
     rw[k]at h;cases h;have⟨l,y,z⟩:=RM.aI k;have⟨vs,t,u,G⟩:=EK p i y;have⟨v,H,I,J⟩:=abl (ok:=λ b=>conc.B b\/w1.heap.size<=b) i M (λ b c=> .inr c) (λ b c=> .inl c) f z u;refine⟨_,JP t,v,?_,F,agJ (λ b c o=>?_) I,λ _=>J.b A⟩
     rw[H];rfl;rcases c with c|c;exact A b c o;exact .inr c
   |false=>simp[cond_false]at h;rw[RM.sH]at h;cases k:((po E fn.results.toList).aB λ l=>rl E f l).af st with|none=>grind|some x=>rw[k]at h;cases h;have⟨l,y,z⟩:=RM.aI k;have⟨vs,t,u,G⟩:=EK p i y;have hp:=(DF p i f z u (aV x.2) λ _ h=>h).2;have hp':fe P w (ft ok w1) f vs x.1:=IZ (λ b c o=>A b c.1 o) f hp;exact⟨_,JP t,_,rfl,F,Vr _ hp',by grind⟩
  cases ex<;>simp[xj]at h<;>first|exact key h|cases h
def oI(E:aq)(fn:oh)(ins caps a:List Ty)(fresh:Bool)(O:List (Ev (ax a)))(x:ax ins)(y:ax caps):=match fn.body with|some c=>bif j2 (ins.length+caps.length) fn.ntmps then dv E bT.b c O (uN fn.ntmps ins caps x y) (xj E fresh fn.results.toList a)else none|none=>none
theorem TO(m:al P E)(p:P.funcs[f]?=some fn)(C:(fn.name== "runtime.NumGoroutine")=false)(A:fn.body=some c) {ins caps a} {g} {fresh} {k} (B:eS P (bT.b (R:=ax a)) false c k) (F:j2 (ins.length+caps.length) fn.ntmps=true) (heq:∀x y,k (uN fn.ntmps ins caps x y) (xj E fresh fn.results.toList a)=g x y):jf P f ⟨ins,caps,a,g,fresh⟩:=by
 refine⟨⟨_,p,C,by grind⟩,?_⟩;intro w ok vs cs x y r t u j;dsimp only at t u j;rw[<-heq]at j;let v:bC:= ⟨w,ft ok w,λ _=>False,[],#[],0,w.heap.size⟩;have z:oB P (bT.b (R:=ax a)) false (λ s b=>b=r/\jz v s):={
  d:=λ s s' b o i=> ⟨o.1,o.2.f i.h⟩
  c:=λ h=>absurd rfl h
  g:=λ _ _=> ⟨v,r,λ _ _=>j1⟩
  f:=λ h=>absurd rfl h};refine callsIn_wide.1 (callsIn_of_wp_marks (n:=7) p A trivial (fz (B _ rfl _ z _ _ _ _ _ _ j (L8 (by simp_all) t u _) ⟨rfl,jz.k _⟩) ?_));rintro e a' w'⟨s',D,st',q,⟨rfl,i⟩,l⟩;cases e with|normal=>exact Gp m _ rfl i q l|ret=>exact Gp (ex:= .ret) m _ rfl i q l|_=>trivial
theorem acR(d:al P E)(j:P.follows .mixedOrders=true){f:hN}{fn}(e:P.funcs[f]?=some fn)(h:(fn.name== "runtime.NumGoroutine")=false) {ins caps a} {g} {fresh} {O} (i:∀c,fn.body=some c->nN P (bT.b (R:=ax a)) false c O) (heq:∀x y,oI E fn ins caps a fresh O x y=g x y) (k:fn.body.isSome=true):jf P f ⟨ins,caps,a,g,fresh⟩:=by have⟨c,b⟩:=hD.1 k;unfold oI at heq;simp[b]at heq;cases l:j2 (ins.length+caps.length) fn.ntmps with|true=>exact TO d e h b (ji d j c O (i c b)) l λ x y=>by grind|false=>refine⟨⟨fn,e,h,by grind⟩,λ w ok vs cs x y r n o m=>?_⟩;grind
def Cb:hz->au->Option (List α)| .normal,_=>some []| .ret,_=>some []|_,_=>none
def jP(tys:List Ty):bT (List (ax tys)):= ⟨tys,λ x A B=>tG x A B⟩
def Bb(E:aq)(fn:oh)(tys caps:List Ty)(O:List (Ev (List (ax tys))))(y:ax caps):=match fn.body with|some c=>bif fn.results.toList.isEmpty&&j2 (1+caps.length) fn.ntmps then dv E (jP tys) c O (AX fn.ntmps caps y) Cb else none|none=>none
theorem adT{b x}{y:α}(h:(bif b then x else none)=some y):b=true/\x=some y:=by grind
theorem ahK{α x A B}{a:List α}(h:tG x A B=some a):∃ys,A=some ys/\B=some []/\a=x::ys:=by unfold tG at h;cases A with|none=>cases h|some ys=>cases B with|none=>cases h|some b=>grind
def xX(l:Nat)(w1:ef)(ok:Nat->Prop)(xs:List α)(J:Nat->(Nat->Prop)->(Nat->Prop)->ef->Prop)(c:(Nat->Prop)->(Nat->Prop)->ef->Prop)(s:bC)(a:List α):=s.f= []/\s.e=l/\w1.heap.size<=s.w.heap.size/\∃A,(∀b,A b->b<s.w.heap.size)/\(∀b,s.M b->A b)/\(∀b,b<s.w.heap.size->s.B b->ok b\/A b)/\((∃k,k<=xs.length/\xs.drop k=a/\J k A s.M s.w)\/(a= []/\c A s.M s.w))
theorem xX.b{l xs J p} (E:∀k A S W A' n o,J k A S W->wm A S W A' n o->J k A' n o) (F:∀A S W A' n o,p A S W->wm A S W A' n o->p A' n o) {s s'} {q:List α} (h:xX l w1 ok xs J p s q) (c:lU s s'):xX l w1 ok xs J p s' q:=by
 have⟨r,t,B,A,C,u,v,D⟩:=h;have z:=c.e;have y:wm A s.M s.w (λ b=>A b\/(s.w.heap.size<=b/\b<s'.w.heap.size)) s'.M s'.w:={
  l:=c.k
  g:=c.f
  e:=c.c
  f:=z
  d:=c.d
  m:=λ b a=> .inl a
  j:=λ b a=>a.imp id λ g=>g.1
  i:=λ b a=>by grind
  k:=λ b a=>(c.M b a).imp id λ g=>g.1
  h:=λ b a=>(c.M b a).imp (u b) id};refine⟨c.q.trans r,c.m.trans t,by omega,_,λ b a=>?_,y.h,λ b a w=>?_,?_⟩
 grind
 by_cases x:b<s.w.heap.size;exact(v b x ((c.B b).1 w)).imp id .inl;omega;grind
theorem Q2{tys}(ae:tys≠[]){AR}(M:∀W o m x,fe P W o tys m x->AR W o m.toArray x) (aa:P.funcs[f]?=some fn) (U:fn.body=some c) (ak:fn.results.toList= []) {E} (Z:eS P (jP tys) false c E) {A0} {xs} {xa} (L:∀b,A0 b->b<w1.heap.size) (Y:∀l,cT P ⟨w1,λ b=>(ok b\/A0 b)\/w1.heap.size<=b,A0,[],#[],l,w1.heap.size⟩ xa {tmps:=(#[kH (.yield l) #[] #[]]++cs.toArray)++kk (fn.ntmps- (#[kH (.yield l) #[] #[]]++cs.toArray).size) l9,defers:= []} w1) (af:E xa Cb=some xs):ET P AR f cs.toArray A0 w1 ok xs:=by
 intro l J r G H Q K;have O:oB P (jP tys) false (xX l w1 (λ b=>ok b/\b<w1.heap.size) xs J r):={
  d:=λ s s' C h ad=>h.b G H ad
  c:=λ _ s C h=>h.1
  g:=λ _ h=>absurd h ae
  f:=λ _ s C x A B m q aj X T=>by
   obtain⟨ys,rfl,rfl,rfl⟩:=ahK X;have⟨h1,h2,h3,A,h4,h5,h6,w⟩:=q;obtain⟨k,q1,q2,z⟩| ⟨q1,_⟩:=w
   have hlt:k<xs.length:=by
    grind
   rw[hB hlt]at q2;have q2:=List.cons.inj q2;have ac:xs[k]?=some x:=by rw[fx hlt];exact congrArg _ q2.1
   have N:AR s.w (λ b=>(ok b/\b<w1.heap.size)\/(A b/\¬s.M b)) m.toArray x:=M _ _ _ _ (IZ (λ b i hlt=>(h6 b hlt i.1).imp id λ g=> ⟨g,i.2⟩) tys T);obtain⟨dP,tm1,as1,bd1,y1,ag⟩:=Q k x A s.M s.w m.toArray z ac N;rw[h2];refine⟨_,_,_,_,y1,ag.mono ?_⟩;rintro e t⟨k1,j⟩;have y:=k1.d;have hA':∀b,A b->b<t.heap.size:=λ b i=>ev (h4 b i) y;have hB':∀b,b<t.heap.size->(s.g t).B b->(ok b/\b<w1.heap.size)\/A b:=λ b i p=>by
    rcases p with⟨ah,ai⟩|g
    all_goals grind
   refine⟨⟨k1.h,k1.g,k1.f,k1.d,λ b i p=>k1.e b i (h6 b i p)⟩,?_⟩;rcases j with⟨rfl,j⟩| ⟨rfl,j⟩
   exact⟨_,rfl,_,rfl,h1,h2,eH h3 y,A,hA',h5,hB',.inl ⟨_,hlt,q2.2,j⟩⟩;exact⟨_,rfl,_,rfl,h1,h2,eH h3 y,A,hA',h5,hB',.inr ⟨rfl,j⟩⟩;trivial};refine callsIn_wide.1 (callsIn_of_wp (n:=7) aa U trivial (fz (Z none rfl _ O _ _ _ _ _ _ af (Y l) ⟨rfl,rfl,eb _,A0,L,(λ _ h=>h),λ b i p=>?_,.inl ⟨0,gE _,rfl,K⟩⟩) ?_))
 grind;rintro e a' w'⟨s',D,st',⟨conc,I⟩,q,F⟩;have V:a'.defers= []:=I.g.trans q.1;have ab:xX l w1 (λ b=>ok b/\b<w1.heap.size) xs J r (s'.c conc a' w') D:=q.b G H I.C;have key:D= []->a'.defers= []/\∃v,(n4 fn a'.tmps).run P w'= .ok v w'/\((∃u,hL v= .returned u)/\((∃A S,J xs.length A S w')\/∃A S,r A S w')):=by
  intro R;subst R;refine⟨V,_,JP (a:=a') (vs:= []) (by simp_all),⟨_,rfl⟩,?_⟩;have⟨h1,h2,h3,A,h4,h5,h6,w⟩:=ab;obtain⟨k,q1,q2,z⟩| ⟨_,q2⟩:=w
  have:k=xs.length:=by
   grind[List.drop_eq_nil_iff]
  subst this;exact .inl ⟨_,_,z⟩;exact .inr ⟨_,_,q2⟩
 cases e with|normal=>exact key (by cases F;rfl)|ret=>exact key (by cases F;rfl)|_=>trivial
theorem aap(n:al P E)(s:P.follows .mixedOrders=true)(k:P.funcs[f]?=some fn)(v:(fn.name== "runtime.NumGoroutine")=false){a b caps}{g:ax caps->Option (List (a.b×b.b))} {O} (p:∀c,fn.body=some c->nN P (jP [a,b]) false c O) (heq:∀y,Bb E fn [a,b] caps O y=g y) (t:fn.body.isSome=true):yk P f ⟨caps,.dX a b,g⟩:=by
 have⟨c,j⟩:=hD.1 t;refine⟨rfl,λ w ok cs y xs m i=>?_⟩;dsimp only at m i;refine⟨f,cs.toArray,rfl,⟨fn,k,v,by grind⟩,λ w' ok' u z=>?_⟩;have d:=(heq y).trans i;unfold Bb at d;rw[j]at d;have⟨q,d⟩:=adT d;simp[b2]at q;refine Q2 (tys:= [a,b]) (A0:=λ _=>False) (by simp) (λ W o G x i=>?_) k j (by grind) (ji n s c O (p c j)) (λ _ h=>h.elim) (λ l=>by
   have e:ft ok' w'=λ b=>(ok' b\/False)\/w'.heap.size<=b:=by grind[ft]
   rw[<-e];exact abf l (by simp_all) (m.b u z _) _) d;have⟨us,r,A,B,F,C,D⟩:=i;grind
end
section
variable[Dr]
variable{P:ei}{w:ef}
variable {ok:Nat->Prop} {xs:Array eg} {t:Ty} {l:List eg} {T T':Nat} {e:Ty} {K:Nat} {k:Ty} {d:Nat}
def vg(P:ei)(T:Nat)(t:Ty):=bif t.c then(match P.underlying T with|some (.struct _)=>true|some (.array _ _)=>true|_=>false)&& (match P.info? T with|some i=>ea i.size t.a|none=>false) else P.plainKey T
theorem Dc{off a b}:(aS l off (a+b)).take a=aS l off a:=by grind[aS,Nat.min_eq_left]
theorem DG{off a b}:(aS l off (a+b)).drop a=aS l (off+a) b:=by grind[aS,List.drop_take,k3]
theorem nW{T t}(h:vg P T t=true){ok xs off d}(k:aw P t w ok (aS xs.toList off t.a) d):(ng T xs off).run P w= .ok (t.d (aS xs.toList off t.a)) w:=by
 unfold vg at h;cases hp:t.c
 rw[hp]at h;simp only[cond_false]at h;have c:=k.d;have a:=uI hp;rw[a]at c⊢
 match f:aS xs.toList off 1,c with
 | [v],_=>
  have g:(aS xs.toList off 1)[0]?=some v:=by rw[f];rfl
  obtain⟨_,e⟩:=Ct g;rw[lH,Array.getElem?_toList]at e;have:t.d [v]=v:=by unfold Ty.d;rw[hp];rfl
  rw[this];exact run_part_plain w h e
 rw[hp]at h;simp only[cond_true,b2]at h;obtain⟨a,b⟩:=h;cases j:P.info? T with
 |none=>grind
 |some i=>
  rw[j]at b;have m:=cU b;have n:(nZ T).run P w= .ok t.a w:=by simp_all[nZ,typeInfo]
  have l:(isAgg T).run P w= .ok true w:=by
   unfold isAgg;split at a
   all_goals simp_all[en,ez]
  have:t.d (aS xs.toList off t.a)= .agg (xs.extract off (off+t.a)):=by
   unfold Ty.d;rw[hp];simp only[if_true]
   congr 1
   grind[Array.ext',Array.toList_extract,aS]
  simp_all[ng]
def BC(P:ei)(dd T:Nat)(t:Ty):=∀(w:ef)ok vs us x y,aw P t w ok vs x->aw P t w ok us y->(hF dd T (t.d vs) (t.d us)).run P w= .ok (t.f x y) w
def EN(P:ei)(dd T:Nat)(t:Ty):=∀(w:ef)ok vs x b,aw P t w ok vs x->(ep b dd T (t.d vs)).run P w= .ok () w
def ns(rec:Nat->Ty->Bool)(P:ei):List iA->Nat->Ty->Bool| [f],off,t=>f.name != "_" &&ea f.offset off&&vg P f.type t&&rec f.type t|f::g::r,off,.aF a b=>f.name != "_" &&ea f.offset off&&vg P f.type a&&rec f.type a&&ns rec P (g::r) (off+a.a) b|_,_,_=>false
def mY(P:ei):Nat->Nat->Ty->Bool|0,_,_=>false|d+1,T,t=>match P.underlying T with
  |some (.int k)=>fu (t= .ay k)|some .bool=>fu (t= .aO)|some .string=>fu (t= .aJ)|some (.struct fs)=>t.c&&!P.stoodInHeld T&&ns (mY P d) P fs.toList 0 t|some (.array n T')=>match t with
   | .aF e _=>fu (t=Ty.e e n)&&vg P T' e&&mY P d T' e&& (match P.info? T' with|some i=>ea i.size e.a|none=>false)|_=>false
  |_=>false
theorem No(x y):((⟨⟨x⟩⟩:ByteArray)== ⟨⟨y⟩⟩)=(x==y):=by grind[beq_toListBytes,ByteArray.toList_eq]
section
variable{dd:Nat}
theorem PR{rec}(m:∀T t,rec T t=true->BC P dd T t)(w){ys}:∀fs off t{x y:t.b},ns rec P fs off t=true->aw P t w ok (aS xs.toList off t.a) x->aw P t w ok (aS ys.toList off t.a) y->(ml dd xs ys fs).run P w= .ok (t.f x y) w
 | [],_,_,_,_,h,_,_=>by trivial| [f],off,t,x,y,h,d,i=>by simp only[ns,b2,bne_iff_ne,ne_eq]at h;have⟨⟨⟨k,c⟩,hp⟩,l⟩:=h;have c:=cU c;rw[<-c]at d i;simp[ml,k,ne_eq,not_false_eq_true,if_true,en,nW hp d,nW hp i,ee,m _ _ l w ok _ _ x y d i];cases t.f x y<;>simp|f::g::r,off,.aF a b,(x,x'),(y,y'),h,d,i=>by simp only[ns,b2,bne_iff_ne,ne_eq]at h;have⟨⟨⟨⟨k,c⟩,hp⟩,l⟩,p⟩:=h;have c:=cU c;have⟨e,n⟩:=d;have⟨j,o⟩:=i;simp[Ty.a]at e n j o;rw[Dc]at e j;rw[DG]at n o;rw[<-c]at e j;have q:=PR m w (g::r) (off+a.a) b p n o;rw[ml];simp[k,ne_eq,not_false_eq_true,if_true,en,nW hp e,nW hp j,ee,m _ _ l w ok _ _ x y e j,Ty.f];cases a.f x y;all_goals trivial|_::_::_,_,.ay _,_,_,h,_,_|_::_::_,_,.aO,_,_,h,_,_|_::_::_,_,.aJ,_,_,h,_,_|_::_::_,_,.aH _,_,_,h,_,_|_::_::_,_,.dP _ _,_,_,h,_,_|_::_::_,_,.dX _ _,_,_,h,_,_|_::_::_,_,.cO _ _,_,_,h,_,_|_::_::_,_,.ec _,_,_,h,_,_=>by trivial
theorem Q4{rec}(l:∀T t,rec T t=true->EN P dd T t)(i)(w):∀fs off t{x:t.b},ns rec P fs off t=true->aw P t w ok (aS xs.toList off t.a) x->(forIn (m:=Sem) fs hy λ f _=>if f.name≠ "_" then(do ep i dd f.type (<-ng f.type xs f.offset);pure (jc hy))else pure (jc hy)).run P w= .ok hy w
 | [],_,_,_,h,_=>by rfl| [f],off,t,x,h,d=>by simp only[ns,b2,bne_iff_ne,ne_eq]at h;have⟨⟨⟨j,c⟩,hp⟩,k⟩:=h;have c:=cU c;rw[<-c]at d;simp[hQ,j,ne_eq,not_false_eq_true,if_true,en,nW hp d,ee,l _ _ k w ok _ x i d,hP,nz]|f::g::r,off,.aF a b,(x,x'),h,d=>by simp only[ns,b2,bne_iff_ne,ne_eq]at h;have⟨⟨⟨⟨j,c⟩,hp⟩,k⟩,o⟩:=h;have c:=cU c;have⟨e,n⟩:=d;simp[Ty.a]at e n;rw[Dc]at e;rw[DG]at n;rw[<-c]at e;have p:=Q4 l i w (g::r) (off+a.a) b o n;rw[hQ];simp only[j,ne_eq,not_false_eq_true,if_true,en,nW hp e,ee,l _ _ k w ok _ x i e,hP];omega|_::_::_,_,.ay _,_,h,_|_::_::_,_,.aO,_,h,_|_::_::_,_,.aJ,_,h,_|_::_::_,_,.aH _,_,h,_|_::_::_,_,.dP _ _,_,h,_|_::_::_,_,.dX _ _,_,h,_|_::_::_,_,.cO _ _,_,h,_|_::_::_,_,.ec _,_,h,_=>by trivial
theorem MY(e):∀n,(Ty.e e (n+1)).a=(n+1)*e.a|0=>by simp[Ty.e]|n+1=>by simp[Ty.e,Ty.a,MY e n];grind
theorem Qa(hp:vg P T' e=true)(h:BC P dd T' e)(w){ys}:∀k i{x y:(Ty.e e (k+1)).b},aw P (Ty.e e (k+1)) w ok (aS xs.toList (i*e.a) (Ty.e e (k+1)).a) x->aw P (Ty.e e (k+1)) w ok (aS ys.toList (i*e.a) (Ty.e e (k+1)).a) y->(mx dd T' e.a xs ys (oH i (k+1))).run P w= .ok ((Ty.e e (k+1)).f x y) w|0,i,x,y,a,b=>by have a:aw P e w ok (aS xs.toList (i*e.a) e.a) x:=a;have b:aw P e w ok (aS ys.toList (i*e.a) e.a) y:=b;simp[hJ,mA,mx,en,nW hp a,nW hp b,ee,h w ok _ _ x y a b];show _=ov (e.f x y) w;cases e.f x y<;>simp|k+1,i,(x,l),(y,m),a,b=>by have⟨c,d⟩:=a;have⟨f,g⟩:=b;simp[Ty.e,Ty.a]at c d f g;rw[Dc]at c f;rw[DG]at d g;rw[<-lL]at d g;have j:=Qa hp h w k (i+1) d g;rw[hJ,mx];simp[en,nW hp c,nW hp f,ee,h w ok _ _ x y c f];show _=ov (e.f x y&& (Ty.e e _).f _ _) w;cases e.f x y;all_goals trivial
theorem QV(hp:vg P T' e=true)(f:EN P dd T' e)(g:∀w,(nZ T').run P w= .ok e.a w)(b)(w):∀k i{x:(Ty.e e (k+1)).b},aw P (Ty.e e (k+1)) w ok (aS xs.toList (i*e.a) (Ty.e e (k+1)).a) x->(forIn (m:=Sem) (oH i (k+1)) hy λ i _=>do ep b dd T' (<-ng T' xs (i* (<-nZ T')));pure (jc hy)).run P w= .ok hy w
 |0,i,x,a=>by have a:aw P e w ok (aS xs.toList (i*e.a) e.a) x:=a;simp[hJ,mA,hQ,en,g,nW hp a,ee,f w ok _ x b a,hP,nz]|k+1,i,(x,j),a=>by have⟨c,d⟩:=a;simp[Ty.e,Ty.a]at c d;rw[Dc]at c;rw[DG]at d;rw[<-lL]at d;have h:=QV hp f g b w k (i+1) d;rw[hJ,hQ];simp only[en,g,nW hp c,ee,f w ok _ x b c,hP];omega
end
theorem vZ(vs:Array eg)(t){x}(h:aw P t w ok vs.toList x):aS vs.toList 0 t.a=vs.toList:=by unfold aS;rw[kV,hM];have:=h.d;omega
theorem qQ(hp:t.c=true)(vs):t.d vs= .agg vs.toArray:=by grind[Ty.d]
theorem GU{a b n}(h:Ty.aF a b=Ty.e a n):1<=n:=by cases n with|zero=>have:=congrArg (λ t:Ty=>SizeOf.sizeOf t) h;grind[Ty.e]|succ n=>omega
theorem Aw:∀d T t,mY P d T t=true->∀m,BC P (m+d) T t/\EN P (m+d) T t
 |0,_,_,h,_=>by simp[mY]at h|d+1,T,t,h,m=>by
  unfold mY at h;split at h
  rename_i k g;have c:=of_decide_eq_true h;subst c;refine⟨λ w ok vs us x y a f=>?_,λ w ok vs x b a=>?_⟩;simp only[aw]at a f;subst a;subst f;show(hF (m+d+1) T (.int k x) (.int k y)).run P w= .ok (x==y) w;simp[hF,ez g];simp only[aw]at a;subst a;show(ep b (m+d+1) T (.int k x)).run P w=_;simp only[ep,en,ez g,ee];rfl;rename_i g;have c:=of_decide_eq_true h;subst c;refine⟨λ w ok vs us x y a f=>?_,λ w ok vs x b a=>?_⟩;simp only[aw]at a f;subst a;subst f;show(hF (m+d+1) T (.bool x) (.bool y)).run P w= .ok (x==y) w;simp[hF,ez g];simp only[aw]at a;subst a;show(ep b (m+d+1) T (.bool x)).run P w=_;simp only[ep,en,ez g,ee];rfl;rename_i g;have c:=of_decide_eq_true h;subst c;refine⟨λ w ok vs us x y a f=>?_,λ w ok vs x b a=>?_⟩;simp only[aw]at a f;subst a;subst f;show(hF (m+d+1) T (.string ⟨⟨x⟩⟩) (.string ⟨⟨y⟩⟩)).run P w= .ok (x==y) w;simp_all[hF,en,ez,ee,No,hP];simp_all[aw,ep,en,ez,ee];rename_i fs g;simp only[b2,fb]at h;obtain⟨⟨hp,z⟩,o⟩:=h;have u:P.fieldsOf T=fs:=by grind[Program.fieldsOf]
  refine⟨λ w ok vs us x y a f=>?_,λ w ok vs x b a=>?_⟩;rw[qQ hp,qQ hp,show m+ (d+1)=(m+d)+1 from rfl,run_equalIn_struct w _ T _ _ (by grind) z,u];refine PR (ok:=ok) (λ T t c=>(Aw d T t c m).1) w _ 0 t o ?_ ?_;rw[vZ (ok:=ok) (x:=x) vs.toArray t a];omega;rw[vZ (ok:=ok) (x:=y) us.toArray t f];exact f;rw[qQ hp,show m+ (d+1)=(m+d)+1 from rfl,ep];simp only[en,ez g,ee];rw[<-Array.forIn_toList];have:=Q4 (ok:=ok) (dd:=m+d) (xs:=vs.toArray) (λ T t c=>(Aw d T t c m).2) b w fs.toList 0 t o (by rw[vZ (ok:=ok) (x:=x) vs.toArray t a];exact a);rw[this];rfl;rename_i n T' g;split at h;rename_i e r;simp only[b2]at h;obtain⟨⟨⟨c,p⟩,v⟩,l⟩:=h;have c:=of_decide_eq_true c;have C:1<=n:=GU c;obtain⟨k,rfl⟩:∃k,n=k+1:= ⟨n- 1,by omega⟩;cases j:P.info? T' with
  |none=>rw[j]at l;cases l
  |some i=>
   rw[j]at l;have q:=cU l;have s:P.cellsOf T'=e.a:=by simp[Program.cellsOf,j,q]
   obtain⟨A,B⟩:=Aw d T' e v m;refine⟨λ w ok vs us x y a f=>?_,λ w ok vs x b a=>?_⟩;rw[qQ rfl,qQ rfl,show m+ (d+1)=(m+d)+1 from rfl,run_equalIn_array w (m+d) _ _ g j,s,l4];revert x y;rw[c];intro x y a f;refine Qa (ok:=ok) p A w k 0 ?_ ?_;rw[hR,vZ (ok:=ok) (x:=x) vs.toArray _ a];exact a;rw[hR,vZ (ok:=ok) (x:=y) us.toArray _ f];exact f;rw[qQ rfl,show m+ (d+1)=(m+d)+1 from rfl,ep];simp only[en,ez g,ee];simp only[nH,nB,Nat.sub_zero,Nat.add_one_sub_one,Nat.div_one];revert x;rw[c];intro x a;have:=QV (ok:=ok) (dd:=m+d) (xs:=vs.toArray) p B (λ w=>by simp[nZ,typeInfo,j,q]) b w k 0 (by rw[hR,vZ (ok:=ok) (x:=x) vs.toArray _ a];exact a);rw[this];rfl
  cases h;cases h
theorem Ea:∀d T t,mY P d T t=true->t.i=true
 |0,_,_,h=>by trivial|d+1,T,t,h=>by
  have arr:∀e n,e.i=true->(Ty.e e (n+1)).i=true:=by
   intro e n l
   induction n with|zero=>trivial|succ n i=>grind[Ty.e,Ty.i,Bool.and_self]
  have j:∀fs off t,ns (mY P d) P fs off t=true->t.i=true:=by
   intro fs
   induction fs with|nil=>grind[ns]|cons f fs i=>intro off t h;cases fs with
    |nil=>simp[ns,b2]at h;exact Ea d _ t h.2|cons g r=>
     cases t<;>simp[ns,b2,fV]at h<;>try(exact h.elim)
     rename_i a b;simp[Ty.i,b2];exact⟨Ea d f.type a h.1.2,i _ b h.2⟩
  unfold mY at h;split at h
  rw[of_decide_eq_true h];rfl;rw[of_decide_eq_true h];rfl;rw[of_decide_eq_true h];rfl;simp only[b2]at h;exact j _ _ _ h.2;rename_i n T' o;split at h;rename_i e r;simp only[b2]at h;have c:=of_decide_eq_true h.1.1.1;have m:=GU c;obtain⟨k,rfl⟩:∃k,n=k+1:= ⟨n- 1,by omega⟩;rw[c];exact arr e k (Ea d T' e h.1.2);cases h;cases h
theorem ae3(t:Ty)(h:t.i=true)(x y):t.f x y=t.f y x:=by induction t with
 |aF a b c d=>grind[Ty.i,Ty.f]|ay=>exact k5|aO=>exact k5|aJ=>exact k5|_=>cases h
theorem Py(a:BC P 10000 K k)(b:k.i=true)(w){ks x}(c:aw P k w ok ks x):∀ys es j,es.length=ys.length->(∀(i:Nat)y e,ys[i]?=some y->es[i]?=some e->∃us,e.key=k.d us/\aw P k w ok us y)->(mn K (k.d ks) es j).run P w= .ok (nF k x ys es j) w
 | [],[],j,_,_=>by rfl| [],_::_,_,h,_=>by trivial|_::_,[],_,h,_=>by rfl|y::ys,e::es,j,h,hr=>by
  have⟨us,d,g⟩:=hr 0 y e rfl rfl;have o:=Py a b w c ys es (j+1) (by grind) (λ i z f n m=>hr (i+1) z f (by trivial) (by trivial));have l:(Op.equal K (k.d ks) e.key).run P w= .ok (k.f y x) w:=by rw[d,ae3 k b];exact a w _ _ _ x y c g
  simp[mn,en,l,ee,nF];cases k.f y x;all_goals trivial
theorem aaX{K k d}(G:d<=10000)(h:mY P d K k=true):Ad P K k:=by
 have⟨q,s⟩:=Aw d K k h (10000- d);rw[show 10000- d+d=10000 by omega]at q s;have n:=Ea d K k h;refine⟨n,h2' s,λ w ok ks x ys es o g l=>?_⟩;have A:=Py q n w o ys es 0 g l;have F:∀D ys es(j:Nat)r,es.length=ys.length->(∀(i:Nat)y e,ys[i]?=some y->es[i]?=some e->∃us,e.key=k.d us/\aw P k w ok us y)->hU D (k.d ks) es j=some r->r=nF k x ys es j:=by
  intro D ys
  induction ys with
  |nil=>
   intro es j r g _ c
   match es,g with| [],_=>simp[hU]at c;simp[nF,c]
  |cons y ys E=>
   intro es j r g l c
   match es,g with
   |e::es,g=>
    have⟨us,v,p⟩:=l 0 y e rfl rfl;have C:∀b,hY D (k.d ks) e.key=some b->b=k.f y x:=by
     intro b a;rw[v]at a;cases k<;>try(cases n;done)
     case aF=>rw[qQ rfl,qQ rfl]at a;unfold hY at a;split at a<;>rename_i m _<;>first|cases m|cases a
     all_goals
      simp[aw]at o p;subst o;subst p;simp[Ty.d,Ty.c,fV,if_false,List.headD_cons]at a;unfold hY at a;split at a<;>first| (rename_i m _;cases m;done)| (cases a;done)|skip;rename_i m u;cases m;cases u
      first
      |simp[Option.some.injEq]at a
       rw[<-a,No];exact k5
      |simp at a
       rw[<-a];exact k5
    unfold hU at c;cases a:hY D (k.d ks) e.key with|none=>rw[a]at c;cases c|some b=>
     rw[a]at c;have B:=C b a;unfold nF;rw[<-B];cases b
     exact E _ _ r (by grind) (λ i z f H c=>l (i+1) z f (by grind) (by simpa using c)) c;cases c;rfl
 cases t:P.underlying K with
 |none=>
  have:mY P d K k=false:=by cases d with|zero=>rfl|succ d=>simp[mY,t]
  rw[this]at h;cases h|some D=>simp[Instr.findKey,en,ez t,ee];cases c:hU D (k.d ks) es 0 with|none=>exact A|some r=>rw[F D ys es 0 r g l c];rfl
where
 h2' {K:Nat} {k:Ty} (h:EN P 10000 K k) (w:ef) (ok:Nat->Prop) (ks:List eg) (x:k.b) (b:Bool) (l:aw P k w ok ks x):(ep b 10000 K (k.d ks)).run P w= .ok () w:=h w ok ks x b l
theorem aer(t){x y r}(h:pI t x y=some r):r=t.f x y:=by induction t generalizing r with
 |aF a b e f=>
  simp[pI]at h;split at h
  rename_i c d;cases h;rw[e c,f d];rfl;trivial|ay|aO|aJ=>cases h;rfl|_=>cases h
def zP(P:ei)(T:Nat)(t:Ty):=∀w ok vs a d b r,aw P t w ok vs d->aw P t w ok a b->pI t d b=some r->∀x y,(do eqGuard .eql T x y (t.d vs) (t.d a);Go.binOp .eql T (t.d vs) (t.d a)).run P w= .ok (.bool r) w/\(do eqGuard .neq T x y (t.d vs) (t.d a);Go.binOp .neq T (t.d vs) (t.d a)).run P w= .ok (.bool (!r)) w
theorem JF(j:d<=10000)(h:mY P d T t=true)(hp:t.c=true)(k:P.eqGuardType P.depth T=false):zP P T t:=by have⟨c,_⟩:=Aw d T t h (10000- d);rw[show 10000- d+d=10000 by omega]at c;intro w ok vs i x y r f g e a b;have e:=aer t e;have run:=c w ok vs i x y f g;grind[qQ,en,run_eqGuard_agg,ee,run_eql_struct,run_neq_struct]
end
section
variable[Dr]
variable{P:ei}
variable {T:Nat} {te:eZ} {t:Ty} {f:Nat}
def EZ:eg->eg->Bool| .bool a,.bool b=>a==b| .int k n,.int j m=>fu (k=j)&&fu (n=m)| .string a,.string b=>fu (a.data.toList=b.data.toList)| .slice none a b,.slice none c d=>ea a c&&ea b d| .nilFunc,.nilFunc=>true| .map none,.map none=>true| .pointer none,.pointer none=>true|_,_=>false
theorem Tm{a b}(h:EZ a b=true):a=b:=by
 unfold EZ at h;split at h
 grind
 grind
 rename_i a b;have:a.data.toList=b.data.toList:=of_decide_eq_true h;obtain⟨⟨a⟩⟩:=a;simp_all;simp_all;all_goals trivial
def Ba:List eg->List eg->Bool| [],[]=>true|a::l,b::m=>EZ a b&&Ba l m|_,_=>false
theorem Ms:{l m:List eg}->Ba l m=true->l=m| [],[],_=>rfl|a::l,b::m,h=>by simp[Ba,b2]at h;rw[Tm h.1,Ms h.2]| [],_::_,h=>by cases h|_::_,[],h=>by cases h
def IK:eg->eg->Bool| .agg a,.agg b=>Ba a.toList b.toList|a,b=>EZ a b
theorem Xu{a b}(h:IK a b=true):a=b:=by unfold IK at h;grind[Ms,Array.toList_inj,Tm]
def tz(P:ei)(T:Nat)(t:Ty):Bool:=match P.info? T with|some i=>ea i.size t.a&&j2 i.bytes 32768&& (match i.zero with|some z=>IK z (t.d (dM t))|none=>false)&&mH 0 t.a|none=>false
theorem zf(h:tz P T t=true):jy P T t:=by
 unfold tz at h;split at h
 rename_i i b;simp only[b2]at h;obtain⟨⟨⟨a,c⟩,d⟩,e⟩:=h;refine⟨i,b,cU a,by simp_all,?_,by simp_all⟩
 grind[Xu];trivial
def Dn(P:ei)(te:eZ):Nat->List iA->Bool|_,[]=>true|i,f::r=>(match jm te.b i te.a with|some o=>ea o f.offset|none=>false)&& (match P.info? f.type with|some a=>!ea a.size 0|none=>false)&&Dn P te (i+1) r
theorem Nl{te}:(l:List iA)->(i:Nat)->Dn P te i l=true->∀k f,l[k]?=some f->jm te.b (i+k) te.a=some f.offset/\∃b,P.info? f.type=some b/\b.size≠0
 | [],i,h,k,f,a=>by simp at a|g::r,i,h,k,f,a=>by simp[Dn,b2]at h;cases k with|zero=>
   simp[lf,Option.some.injEq]at a;subst a;have⟨⟨c,d⟩,_⟩:=h;refine⟨?_,?_⟩
   split at c;rename_i o m;rw[lH,m,cU c];cases c;split at d;rename_i b j;refine⟨b,j,λ e=>?_⟩;simp_all;trivial|succ k=>have:=Nl r (i+1) h.2 k f (by simpa using a);rw[show i+1+k=i+ (k+1)from by omega]at this;exact this
def C3(P:ei):List iA->List (Nat×Nat)->Bool| [],[]=>true|f::r,(o,n)::q=>(match P.info? f.type with|some i=>ea f.offset o&&ea i.size n|none=>false)&&C3 P r q|_,_=>false
theorem Pf:(l:List iA)->(q:List (Nat×Nat))->C3 P l q=true->l.mapM (λ f=>(P.info? f.type).map λ i=>(f.offset,i.size))=some q
 | [],[],_=>rfl|f::r,(o,n)::q,h=>by
  simp[C3,b2]at h;have⟨a,b⟩:=h;split at a
  rename_i i c;simp only[b2]at a;rw[kR,c,Pf r q b];simp_all;trivial| [],_::_,h=>by cases h|_::_,[],h=>by trivial
def G1(P:ei)(T:Nat):Ty->Bool
 | .aH (.ay .u8)=>match P.underlying T with
  |some (.slice a)=>match P.underlying a with|some (.int .u8)=>true|_=>false
  |_=>false
 |_=>true
theorem aio(h:G1 P T t=true)(b:t= .aH (.ay .u8)):∃a,P.underlying T=some (.slice a)/\P.underlying a=some (.int .u8):=by grind[G1]
def Lp(P:ei)(K:Nat)(k:Ty):=mY P 40 K k
theorem aar{K}(h:Lp P K t=true):Ad P K t:=aaX (by decide) h
def BI(P:ei)(te:eZ):Nat->List iA->Bool|_,[]=>true|i,f::r=>(match uH te.b i te.a,pP P f.type,P.info? f.type with|some u,some b,some a=>(bif b then u.c else !u.c)&&ea a.size u.a|_,_,_=>false)&&BI P te (i+1) r
theorem Px{te}:(l:List iA)->(i:Nat)->BI P te i l=true->∀k f u,l[k]?=some f->uH te.b (i+k) te.a=some u->pP P f.type=some u.c/\∃e,P.info? f.type=some e/\e.size=u.a
 | [],i,h,k,f,u,c,d=>by simp at c|g::r,i,h,k,f,u,c,d=>by simp[BI,b2]at h;cases k with
  |zero=>
   simp[lf,Option.some.injEq]at c;subst c;have a:=h.1;rw[lH]at d;rw[d]at a;split at a
   rename_i o b e j m n;cases j;simp only[b2]at a;refine⟨?_,e,n,cU a.2⟩;rw[m];have a:=a.1;cases b<;>simp at a<;>simp[a]
   cases a|succ k=>exact Px r _ h.2 k f u (by simpa using c) (by rw[show i+1+k=i+ (k+1)from by omega];exact d)
def GK(P:ei)(T:Nat)(te:eZ):Bool:=match P.underlying T with|some (.struct fs)=>BI P te 0 fs.toList|_=>true
theorem ah1(h:GK P T te=true):∀fs,P.underlying T=some (.struct fs)->∀i f u,fs[i]?=some f->uH te.b i te.a=some u->pP P f.type=some u.c/\∃a,P.info? f.type=some a/\a.size=u.a:=by intro fs b i f u c d;unfold GK at h;rw[b]at h;exact Px _ 0 h i f u (by grind) (by grind)
def Hr(P:ei)(T:Nat)(te:eZ):=!te.c||match P.underlying T,mM te.a with|some (.array n a),some (_,m)=>!ea n m||pP P a==some false|_,_=>true
theorem SP(k):∀n,1<=n->mM (Ty.e (.ay k) n)=some (k,n)|0,h=>by omega|1,_=>rfl|n+2,_=>by simp[Ty.e,mM,SP k (n+1) (by omega),if_true]
theorem U8(h:Hr P T te=true)(hp:te.c=true->te.a.c=true):te.c=true->∀n a,P.underlying T=some (.array n a)->∀k,te.a=Ty.e (.ay k) n->pP P a=some false:=by
 intro b n a e k c;have d:1<=n:=by cases n with|zero=>have:=hp b;rw[c]at this;trivial|succ n=>omega
 grind[Hr,SP,nL,ea,Nat.beq_refl]
def Ja(P:ei)(b a:Nat)(e:Ty):=ea a 1||match P.underlying b,mM e with|some (.array n c),some (k,m)=>ea n a&&ea m a&&fu (e=Ty.e (.ay k) a)&&tz P c (.ay k)|_,_=>false
theorem aiF{b a e}(h:Ja P b a e=true):a≠1->∃c k,P.underlying b=some (.array a c)/\e=Ty.e (.ay k) a/\jy P c (.ay k):=by grind[Ja,ea,absurd,Nat.eq_of_beq_eq_true,zf]
def Fe(P:ei)(T:Nat)(te:eZ):=tz P T te.a&&G1 P T te.a&&GK P T te&& (!te.c||te.a.c)&&Hr P T te&&match P.underlying T,te.a with|some (.int k),.ay k'=>fu (k=k')|some .bool,.aO=>true|some .string,.aJ=>true|some (.slice a),.aH e=>tz P a e|some (.array n a),.aF e _=>te.c&&fu (te.a=Ty.e e n)&&ea te.b n&&tz P a e|some (.struct fs),.aF _ _=>!te.c&&ea fs.size te.b&&Dn P te 0 fs.toList&&C3 P fs.toList (oX te.b te.a)|some (.func _ _ _),.dP _ _=>true|some (.func _ _ _),.dX _ _=>true|some (.map K V),.cO k v=>Lp P K k&&tz P V v|some (.pointer a),.ec e=>Ja P a te.b e|_,_=>false
theorem acx(h:Fe P T te=true):je P T te:=by
 unfold Fe at h;simp[b2]at h;have⟨⟨⟨⟨⟨v,m⟩,j⟩,l⟩,k⟩,c⟩:=h;have j:=ah1 j;have l:te.c=true->te.a.c=true:=λ h=>by grind
 have k:=U8 k l;have q:=zf v;have m:=aio m;have no:∀{d:o0},P.underlying T=some d->(∀fs,d≠ .struct fs)->∀fs,P.underlying T=some (.struct fs)->(∀i f,fs[i]?=some f->jm te.b i te.a=some f.offset/\∃s,P.info? f.type=some s/\s.size≠0)/\fs.toList.mapM (λ f=>(P.info? f.type).map λ i=>(f.offset,i.size))=some (oX te.b te.a):=by grind
 have fin:∀{d:o0},P.underlying T=some d->(∀fs,d≠ .struct fs)->_->je P T te:=λ w y x=> ⟨q,x,no w y,l,j,k,m⟩;split at c;case h_5 n z e r g o=>grind[cU,zf]
 case h_6 fs a b g o=>
  simp[b2,fb]at c;have⟨⟨⟨A,B⟩,t⟩,u⟩:=c;refine⟨q,by simp_all,λ fs' p=>?_,l,j,k,m⟩;rw[g]at p;cases p;refine⟨λ i f C=>?_,Pf _ _ u⟩;have:=Nl fs.toList 0 t i f (by grind);grind
 all_goals first| (cases c;done)|skip;all_goals
  rename_i g o;refine fin g (λ _ e=>(by cases e)) ?_;rw[o];first|exact(of_decide_eq_true c)▸g|exact g|exact⟨_,_,_,g⟩|exact⟨_,g,zf c⟩|exact⟨_,g,aiF c⟩| (simp[b2]at c;exact⟨_,_,g,aar c.1,zf c.2⟩)
def ae5(P:ei)(G:List (Nat×eZ)):=G.all λ p=>Fe P p.1 p.2
theorem IN{G}(h:ae5 P G=true):al P ⟨G,[],[],[],[]⟩ where
 g:=λ T te a=>acx (eL.1 h _ (Map.ll a))
 h:=(λ f c h=>(by cases h))
 j:=(λ f c h=>(by cases h))
 i:=(λ f c h=>(by cases h))
@[reducible] def aq.n(E:aq)(l:List Nat):aq:= ⟨E.G,E.C,E.Q,E.I,l⟩
@[reducible] def aq.a(E:aq)(f:Nat)(c:fc):aq:= ⟨E.G,(f,c)::E.C,E.Q,E.I,[]⟩
@[reducible] def aq.d(E:aq)(f:Nat)(c:vT):aq:= ⟨E.G,E.C,E.Q,(f,c)::E.I,[]⟩
theorem IV{E}(h:al P E)(l):al P (E.n l):= ⟨h.g,h.h,h.j,h.i⟩
theorem FV{α l g}{c d:α}(h:Map.av ((f,c)::l) g=some d):(f=g/\c=d)\/Map.av l g=some d:=by grind[Map.av,gF]
theorem mN{E}(h:al P E){c}(b:jf P f c):al P (E.a f c):= ⟨h.g,λ g d a=>(FV a).elim (by grind) (h.h g d),h.j,h.i⟩
theorem aaH{E}(h:al P E){c}(b:yk P f c):al P (E.d f c):= ⟨h.g,h.h,λ g d a=>(FV a).elim (by grind) (h.j g d),h.i⟩
theorem GI{E}(h:al P E)(c:zP P T t):al P ⟨E.G,E.C,(T,t)::E.Q,E.I,[]⟩:= ⟨h.g,h.h,h.j,λ U u d=>(FV d).elim (λ⟨a,b⟩=>a▸b▸c) (h.i U u)⟩
end
section
variable[Dr]
variable{P:ei}{E:aq}{R:Type}{H:bT R}{i:Bool}
variable {w:et} {O:List (Ev R)} {T:cf} {X:List (dN×cf)} {f:hN} {fn:oh}
def bd(f:oh):=match f.body with|some c=>c|none=> .skip
def gq:et->List et| .seq a b=>gq a++gq b| .cond _ a b=>gq a++gq b| .block _ c=>gq c| .loop c=> [.loop c]| .rangeFunc g ps a b=> [.rangeFunc g ps a b]|_=> []
def rA:List et->Nat->et| [],_=> .skip|c::_,0=>c|_::r,n+1=>rA r n
def lp(c:et)(i:Nat):=rA (gq c) i
def iw:et->et| .loop c=>c|_=> .skip
def Cf:et->Bool| .loop _=>true|_=>false
def vp:et->fl| .rangeFunc g _ _ _=>g|_=> .func 0
def vv:et->et| .rangeFunc _ _ a _=>a|_=> .skip
def wQ:et->et| .rangeFunc _ _ _ b=>b|_=> .skip
def G8(p q:Nat):et->Bool
 | .rangeFunc _ ps _ _=>match ps.toList with| [x,y]=>ea x p&&ea y q|_=>false
 |_=>false
theorem Nk{p q}(h:G8 p q w=true):w= .rangeFunc (vp w) #[p,q] (vv w) (wQ w):=by
 cases w<;>try(cases h;done)
 rename_i g ps a b;simp[G8]at h;split at h
 rename_i x y e;simp only[b2]at h;have c:=cU h.1;have d:=cU h.2;subst c d;have:ps= #[x,y]:=by grind
 subst this;rfl;trivial
theorem aa0(h:Cf w=true):w= .loop (iw w):=by cases w<;>first|rfl|cases h
def kO(P:ei)(H:bT R)(i:Bool)(l:List et):Nat->List (Ev R)->Prop|_,[]=>True|n,f::r=>eS P H i (rA l n) f/\kO P H i l (n+1) r
theorem rv:(c:et)->(gq c).length=gP c| .seq a b=>by simp[gq,gP,rv a,rv b]| .cond _ a b=>by simp[gq,gP,rv a,rv b]| .block _ c=>by simp[gq,gP,rv c]| .loop c=>rfl| .skip=>rfl| .region .. =>rfl| .exit _=>rfl| .ret=>rfl| .rangeFunc _ _ _ _=>rfl| .scope _=>rfl| .label _=>rfl| .goto _=>rfl| .refuse _=>rfl
theorem kO.a{l}:{O:List (Ev R)}->{n:Nat}->kO P H i l n O->∀k f,O[k]?=some f->eS P H i (rA l (n+k)) f| [],n,h,k,f,a=>by trivial|g::r,n,⟨h1,h2⟩,0,f,a=>by grind|g::r,n,⟨h1,h2⟩,k+1,f,a=>by have:=kO.a h2 k f (by trivial);grind
theorem OL{l m}:{i:Nat}->i<l.length->rA (l++m) i=rA l i:=by induction l with|nil=>simp|cons c l a=>intro i h;cases i with|zero=>rfl|succ i=>exact a (by grind)
theorem QS{l m}(i):rA (l++m) (l.length+i)=rA m i:=by induction l with|nil=>simp|cons c l a=>rw[j3,show l.length+1+i=(l.length+i)+1 from by omega];trivial
theorem xt:(c:et)->(O:List (Ev R))->(∀k f,k<gP c->O[k]?=some f->eS P H i (rA (gq c) k) f)->nN P H i c O
 | .seq a b,O,h=>by
  refine⟨xt a _ λ i f e d=>?_,xt b _ λ i f e d=>?_⟩
  rw[hG e]at d;have:=h i f (by simp[gP];omega) d
  grind[gq,OL,rv]
  rw[ih]at d;have:=h _ f (by simp[gP];omega) d
  grind[gq,rv,QS]| .cond _ a b,O,h=>by
  refine⟨xt a _ λ i f e d=>?_,xt b _ λ i f e d=>?_⟩
  rw[hG e]at d;have:=h i f (by simp[gP];omega) d
  grind[gq,OL,rv]
  rw[ih]at d;have:=h _ f (by simp[gP];omega) d
  grind[gq,rv,QS]| .block _ c,O,h=>xt c O h| .loop c,O,h=>λ f d=>by subst d;exact h 0 f (by simp[gP]) rfl| .skip,_,_=>trivial| .region ..,_,_=>trivial| .exit _,_,_=>trivial| .ret,_,_=>trivial| .rangeFunc g ps x y,O,h=>λ f d=>by subst d;exact h 0 f (by simp[gP]) rfl| .scope _,_,_=>trivial| .label _,_,_=>trivial| .goto _,_,_=>trivial| .refuse _,_,_=>trivial
theorem my{c}(h:kO P H i (gq c) 0 O):nN P H i c O:=xt c O λ i f _ a=>by simpa using h.a i f a
theorem rk{n}(a:al P E)(b:P.follows .mixedOrders=true)(f:Cf w=true){body} (e:kO P H i (gq (iw w)) 0 O) (c:∀d again k,dv E H (iw w) O (mk T d) (mL E T X again k)=body d again k):eS P H i w (mG n E T X body):=by rw[aa0 f];exact ab5 a (ji a b _ O (my e)) c
theorem RZ(a:al P E)(b:P.follows .mixedOrders=true){e e2 p q Oa Ob F body} (j:G8 p q w=true) (c:(T.c.isEmpty&&mH p T.N&&mH q T.N&&!yi F p&&!yi F q&&X.all λ x=>x.2.c.isEmpty)=true) (h:kO P (bT.b (R:=R)) true (gq (vv w)) 0 Oa) (i:kO P (bT.b (R:=R)) true (gq (wQ w)) 0 Ob) (heq:∀d x again k,dv E bT.b (vv w) Oa (GP T F p q e e2 d x) (tH λ st=>dv E bT.b (wQ w) Ob st (wR E T F X again k))=body d x again k):eS P (bT.b (R:=R)) false w (qX E e e2 (vp w) T X body):=by rw[Nk j];simp only[b2,fb,List.isEmpty_iff,yi,MM,eL,Nat.blt_eq]at c;have⟨⟨⟨⟨⟨f,l⟩,m⟩,n⟩,o⟩,g⟩:=c;exact ahE a rfl ⟨f,λ r s=>by grind,rfl,g,ji a b _ _ (my h),ji a b _ _ (my i),heq⟩
theorem xz(b:al P E)(d:P.follows .mixedOrders=true)(h:P.funcs[f]?=some fn)(i:(fn.name== "runtime.NumGoroutine")=false)(e:fn.body.isSome=true) {ins caps a} {g} {fresh} {O} (j:kO P (bT.b (R:=ax a)) false (gq (bd fn)) 0 O) (heq:∀x y,oI E fn ins caps a fresh O x y=g x y):jf P f ⟨ins,caps,a,g,fresh⟩:=acR b d h i (λ c k=>my (by grind[bd])) heq e
theorem XD(d:al P E)(e:P.follows .mixedOrders=true)(i:P.funcs[f]?=some fn)(j:(fn.name== "runtime.NumGoroutine")=false)(h:fn.body.isSome=true) {a b} {caps} {g:ax caps->Option (List (a.b×b.b))} {O} (k:kO P (jP [a,b]) false (gq (bd fn)) 0 O) (heq:∀y,Bb E fn [a,b] caps O y=g y):yk P f ⟨caps,.dX a b,g⟩:=aap d e i j (λ c l=>my (by grind[bd])) heq h
end
section
variable[Dr]
variable {α:Type} {n:Nat}
theorem nu{x}(h1: -9223372036854775808<=x)(h2:x<=9223372036854775807):hg .i64 x=x:=by grind[hg,np,mo]
theorem Ue(x):hg .i64 x<=9223372036854775807:=by grind[hg,np,mo]
theorem oR(l:List α)(i:Nat):aG l (i:Int)=l[i]?:=by rfl
theorem aff(l:List α)(i j)(h:i<=j)(a:j<=l.length):iB l (i:Int) (j:Int)=some ((l.take j).drop i):=by grind[iB]
theorem xV(l:List α)(j)(a:j<=l.length):iB l 0 (j:Int)=some (l.take j):=by have:=aff l 0 j (gE _) a;trivial
theorem zG(h:n<=4294967296):jk n=some ():=by grind[jk,iZ]
theorem yR(m)(d:α):bI false m d=some d:=rfl
section
variable{D Ks R:Type}{body:D->(D->Option R)->Ks->Option R}{ks:Ks}
theorem agN(I:D->Option R->Prop)(b:D->Nat) (h:∀d r,I d r->∀again,(∀a r',I a r'->b a<b d->again a=r')->body d again ks=r):∀n d r,I d r->b d<n->cq body n d ks=r:=by
 intro n
 induction n with|zero=>omega|succ n f=>intro d r c e;exact h d r c _ (by grind)
theorem abv{A:Type}(l:List α)(F:Nat->A->D)(G:Nat->A->List α->Option R)(b:Nat->A->Prop)(e:l.length<=n1) (g:∀i a x r,i<l.length->l[i]?=some x->l.drop i=x::r->aG l (i:Int)=some x->fu ((i:Int)< (l.length:Int))=true->hg .i64 ((i:Int)+1)=((i+1:Nat):Int)->b i a->∀again,(∀c,b (i+1) c->again (F (i+1) c)=G (i+1) c r)->body (F i a) again ks=G i a (x::r)) (d:∀a,fu ((l.length:Int)< (l.length:Int))=false->b l.length a->∀again,body (F l.length a) again ks=G l.length a []) (a) (h0:b 0 a) (f:l.length<n):cq body n (F 0 a) ks=G 0 a l:=by
 have key:∀m i a,i<=l.length->b i a->l.length- i<m->cq body m (F i a) ks=G i a (l.drop i):=by
  intro m
  induction m with|zero=>omega|succ m h=>
   grind[cq,mv,hB,fx,oR,nu,n1]
 grind
theorem iy(l:List α)(F:Nat->D)(G:Nat->List α->Option R)(a:l.length<=n1) (d:∀i x r,i<l.length->l[i]?=some x->l.drop i=x::r->aG l (i:Int)=some x->fu ((i:Int)< (l.length:Int))=true->hg .i64 ((i:Int)+1)=((i+1:Nat):Int)->∀again,again (F (i+1))=G (i+1) r->body (F i) again ks=G i (x::r)) (c:fu ((l.length:Int)< (l.length:Int))=false->∀again,body (F l.length) again ks=G l.length []) (b:l.length<n):cq body n (F 0) ks=G 0 l:=abv (A:=Unit) l (λ i _=>F i) (λ i _ r=>G i r) (λ _ _=>True) a (by simp_all) (by grind) () trivial b
end
end
section
variable[Dr]
variable{P:ei}
variable {α β:Type} {f:α->Option β}
def Ty.k:(t:Ty)->t.b->Prop| .ay k,n=>k.min<=n/\(n:Int)<=k.max| .aO,_=>True| .aJ,l=>oL (α:=UInt8) l<=n1| .aH e,l=>oL l<=n1/\∀x∈(l:List e.b),e.k x| .aF a b,(x,y)=>a.k x/\b.k y| .dP _ _,_=>True| .dX _ _,_=>True| .cO _ _,_=>True| .ec _,_=>True
mutual
def pw(P:ei):Nat->Nat->Ty->Bool
 |0,_,_=>false
 |n+1,T,t=>match P.underlying T,t with
  |some (.int k),.ay k'=>fu (k=k')
  |some .bool,.aO=>true
  |some .string,.aJ=>true
  |some (.slice c),.aH e=>ea (P.cellsOf c) e.a&&mH 0 e.a&&pw P n c e
  |some (.struct fs),.aF a b=>ea (P.cellsOf T) (Ty.aF a b).a&&rY P n fs.toList 0 (.aF a b)
  |some (.array m c),.aF a b=>ea (P.cellsOf T) (Ty.aF a b).a&&fu (Ty.aF a b=Ty.e a m)&&ea (P.cellsOf c) a.a&&pw P n c a
  |_,_=>false
def rY(P:ei):Nat->List iA->Nat->Ty->Bool
 |0,_,_,_=>false
 |n+1,[f],off,t=>ea f.offset off&&ea (P.cellsOf f.type) t.a&&pw P n f.type t
 |n+1,f::g::r,off,.aF a b=>ea f.offset off&&ea (P.cellsOf f.type) a.a&&pw P n f.type a&&rY P n (g::r) (off+a.a) b
 |_+1,_,_,_=>false
end
theorem ya{α β:Type}{f x}{l:List α}{ys:List β}(h:(x::l).mapM f=some ys):∃y r,f x=some y/\l.mapM f=some r/\ys=y::r:=by rw[kR]at h;cases a:f x with|none=>rw[a]at h;cases h|some y=>cases b:l.mapM f with|none=>grind|some r=>grind
theorem Dm{α β:Type}{f}:{l:List α}->{ys:List β}->l.mapM f=some ys->∀(i:Nat)x,l[i]?=some x->∃y,f x=some y
 | [],ys,h,i,x,b=>by simp at b|a::l,ys,h,i,x,b=>by have⟨y,r,c,d,e⟩:=ya h;cases i with|zero=>simp at b;subst b;exact⟨y,c⟩|succ i=>exact Dm d i x (by grind)
theorem NM:{l:List α}->{ys:List β}->l.mapM f=some ys->ys.length=l.length| [],ys,h=>by grind|a::l,ys,h=>by have⟨y,r,d,b,c⟩:=ya h;subst c;simp[NM b]
theorem KP:{l:List α}->{ys:List β}->l.mapM f=some ys->∀(i:Nat)x y,l[i]?=some x->ys[i]?=some y->f x=some y
 | [],ys,h,i,x,y,c,d=>by trivial|a::l,ys,h,i,x,y,c,d=>by have⟨j,r,e,b,g⟩:=ya h;cases i with|zero=>grind|succ i=>exact KP b i x y (by grind) (by grind)
theorem Yo{n}{Q:Nat->α->Prop}(h:∀i,i<n->∃x,Q i x):∃l:List α,l.length=n/\∀(i:Nat)x,l[i]?=some x->Q i x:=by induction n with|zero=>simp|succ n a=>have⟨l,b,c⟩:=a λ i d=>h i (by omega);have⟨x,e⟩:=h n (by omega);refine⟨l++ [x],by grind,λ i y f=>?_⟩;grind
theorem OI{W ok a}:(m:Nat)->(cs:List eg)->0<m->cs.length=m*a.a->(∀i,i<m->∃y,aw P a W ok ((cs.drop (i*a.a)).take a.a) y/\a.k y)->∃x,aw P (Ty.e a m) W ok cs x/\(Ty.e a m).k x
 |0,cs,h,_,_=>absurd h (Nat.lt_irrefl 0)|1,cs,_,f,h=>by have⟨y,b,c⟩:=h 0 (by omega);rw[hR,kV,hM (by omega)]at b;exact⟨y,b,c⟩|m+2,cs,_,f,h=>by
  have⟨y,b,c⟩:=h 0 (by omega);rw[hR,kV]at b;have e:(m+2)*a.a=(m+1)*a.a+a.a:=by grind
  obtain⟨x,k1,g⟩:=OI (a:=a) (m+1) (cs.drop a.a) (by omega) (by grind) λ i k=>by have⟨z,j,d⟩:=h (i+1) (by omega);refine⟨z,?_,d⟩;rw[k3,show a.a+i*a.a=(i+1)*a.a from by grind];omega
  exact⟨(y,x),⟨b,k1⟩,c,g⟩
section
variable{H:Type}{enc:lB×eg->H}{W:ef}{spare:Nat->Bool}{held:Bool}
mutual
theorem xi:(n:Nat)->(T:Nat)->(t:Ty)->pw P n T t=true->∀(r:Nat)(cs:List eg)(d:n5 H)(ps:List nv),gf enc P W 0 spare held r T cs=some (d,ps)->
 ∃x:t.b,aw P t W (λ b=>b<W.heap.size) cs x/\t.k x
 |0,T,t,h,r,cs,d,ps,c=>by trivial
 |n+1,T,t,h,0,cs,d,ps,c=>by trivial
 |n+1,T,t,h,r+1,cs,d,ps,c=>by
  unfold pw at h;unfold gf at c;split at h
  ·rename_i k k' u;have al:k=k':=of_decide_eq_true h;subst al;rw[u]at c
   match cs,c with
   | [.int _ m],c=>
    simp only at c;split at c
    ·rename_i S;obtain⟨rfl,ar⟩:=S;refine⟨m,rfl,?_⟩;simpa[Lit.wf,Ty.k]using ar
    ·cases c
  ·rename_i u;rw[u]at c
   match cs,c with
   | [.bool b],c=>exact⟨b,rfl,trivial⟩
  ·rename_i u;rw[u]at c
   match cs,c with
   | [.string s],c=>
    simp only at c;split at c
    ·rename_i ap;obtain⟨⟨s⟩⟩:=s;exact⟨s,rfl,ap⟩
    ·cases c
  ·rename_i q e u;simp only[b2]at h;obtain⟨⟨F,G⟩,R⟩:=h;have M:=cU F;have ao:0<e.a:=Nat.le_of_ble_eq_true G;rw[u]at c
   match cs,c with
   | [.slice none 0 0],c=>exact⟨([]:List e.b),⟨none,0,rfl,eb _,.inl rfl⟩,⟨gE _,λ _ h=>(by cases h)⟩⟩
   | [.slice (some a) len cap],c=>
    simp only at c;split at c
    ·rename_i S;obtain⟨_,am,aA⟩:=S;cases B:(kL len).mapM (λ i=>(W.cells? 0 (a.add (i*P.cellsOf q)) (P.cellsOf q)).bind (gf enc P W 0 spare held r q))with
     |none=>rw[B]at c;cases c
     |some az=>
      clear c;have ad:∀i,i<len->∃g y,W.cells? 0 (a.add (i*e.a)) e.a=some g/\aw P e W (λ b=>b<W.heap.size) g y/\e.k y:=by
       intro i p;obtain⟨z,E⟩:=Dm B i i (by simp[p]);rw[M]at E;cases ab:W.cells? 0 (a.add (i*e.a)) e.a with
       |none=>rw[ab]at E;cases E
       |some g=>
        rw[ab]at E;obtain⟨y,au,av⟩:=xi n q e R r g z.1 z.2 E;exact⟨g,y,rfl,au,av⟩
      by_cases V:len=0
      ·subst V;exact⟨([]:List e.b),⟨some a,cap,rfl,gE _,.inl rfl⟩,⟨gE _,λ _ h=>(by cases h)⟩⟩
      ·
       have aa:∀i,i<len->∀j,j<e.a->∃v,W.cell? ((a.add (i*e.a)).add j)=some v:=by
        intro i p j J;obtain⟨g,y,w,_⟩:=ad i p;unfold n2 at w;rw[if_pos (gE _)]at w;exact Dm w j j (by simp[J])
       obtain⟨b,off,sp⟩:=a;obtain⟨v0,D⟩:=aa 0 (by omega) 0 ao;have ah:(Addr.mk b off sp).add (0*e.a)= ⟨b,off,sp⟩:=by simp[o1]
       rw[ah,show(Addr.mk b off sp).add 0= ⟨b,off,sp⟩from rfl]at D;unfold lV at D;cases I:W.heap[b]? with
       |none=>simp only[I]at D;cases D
       |some o=>
        cases o with
        |cells C U fr=>
         simp only[I]at D;cases sp with
         |some s=>simp at D
         |none=>
          have Z:∀i j,(((Addr.mk b off none).add (i*e.a)).add j)= ⟨b,off+i*e.a+j,none⟩:=by
           intro i j;unfold o1;by_cases F:i*e.a=0<;>by_cases G:j=0<;>simp[F,G]
          have ae:∀i,i<len->∀j,j<e.a->∃v,C[off+i*e.a+j]?=some v:=by
           intro i p j J;obtain⟨v,K⟩:=aa i p j J;rw[Z]at K;unfold lV at K;simp only[I]at K;exact⟨v,by simpa using K⟩
          have aj:∀i,i<len->∀g,W.cells? 0 ((Addr.mk b off none).add (i*e.a)) e.a=some g->g=aS C.toList (off+i*e.a) e.a:=by
           intro i p g w;unfold n2 at w;rw[if_pos (gE _)]at w;have N:=NM w;rw[List.length_range]at N;apply List.ext_getElem?;intro j;by_cases J:j<e.a
           ·obtain⟨v,K⟩:=ae i p j J;have ac:g[j]?=some g[j]:=fx (by omega);have L:=KP w j j _ (by simp[J]) ac;rw[Z]at L;unfold lV at L;simp only[I]at L;simp only[Option.isSome_none,fV,if_false]at L;rw[ac,<-L];unfold aS;rw[hG J,ih];simp
           ·rw[l1 (by omega),l1 (by unfold aS;simp;omega)]
          obtain⟨l,O,af⟩:=Yo (Q:=λ i y=>aw P e W (λ b=>b<W.heap.size) (aS C.toList (off+i*e.a) e.a) y/\e.k y) λ i p=>by
           obtain⟨g,y,w,ag,ax⟩:=ad i p;rw[aj i p g w]at ag;exact⟨y,ag,ax⟩
          refine⟨l,⟨some ⟨b,off,none⟩,cap,by rw[O],by rw[O];exact am,.inr ⟨b,off,C,U,fr,rfl,(ej.1 I).1,I,?_,λ i x Y=>(af i x Y).1⟩⟩,⟨by rw[O];omega,λ x Y=>?_⟩⟩
          ·obtain⟨v,K⟩:=ae (len- 1) (by omega) (e.a- 1) (by omega);have:=(ej.1 K).1;rw[O];have ay:len*e.a=(len- 1)*e.a+e.a:=by
            conv=>lhs;rw[show len=(len- 1)+1 from by omega]
            rw[lL]
           omega
          ·obtain⟨i,p,rfl⟩:=List.getElem_of_mem Y;exact(af i l[i] (fx p)).2
        |_=>simp only[I]at D;cases D
    ·cases c
  ·rename_i fs x y u;simp only[b2]at h;obtain⟨F,G⟩:=h;have M:=cU F;rw[u]at c;have A:(if cs.length=P.cellsOf T then(fs.toList.mapM λ f=>gf enc P W 0 spare held r f.type ((cs.drop f.offset).take (P.cellsOf f.type))).map λ xs=>((oV (xs.map (·.1)):n5 H),xs.flatMap (·.2))else none)=some (d,ps):=by
    match cs,c with
    | [],c=>exact c
    | [_],c=>exact c
    |_::_::_,c=>exact c
   split at A
   ·rename_i N;cases B:fs.toList.mapM λ f=>gf enc P W 0 spare held r f.type ((cs.drop f.offset).take (P.cellsOf f.type))with
    |none=>rw[B]at A;cases A
    |some xs=>
     have:=MP n fs.toList 0 (.aF x y) G r cs (by rw[N,M];simp) xs B;simpa using this
   ·cases A
  ·rename_i m q x y u;simp only[b2]at h;obtain⟨⟨⟨F,G⟩,R⟩,ai⟩:=h;have M:=cU F;have X:Ty.aF x y=Ty.e x m:=of_decide_eq_true G;have ak:=cU R;rw[u]at c;have A:(if cs.length=P.cellsOf T then((kL m).mapM λ i=>gf enc P W 0 spare held r q ((cs.drop (i*P.cellsOf q)).take (P.cellsOf q))).map λ xs=>((oV (xs.map (·.1)):n5 H),xs.flatMap (·.2))else none)=some (d,ps):=by
    match cs,c with
    | [],c=>exact c
    | [_],c=>exact c
    |_::_::_,c=>exact c
   split at A
   ·rename_i N;cases B:(kL m).mapM λ i=>gf enc P W 0 spare held r q ((cs.drop (i*P.cellsOf q)).take (P.cellsOf q))with
    |none=>rw[B]at A;cases A
    |some xs=>
     have an:=GU X;have aq:(Ty.e x m).a=m*x.a:=by
      obtain⟨k,rfl⟩:∃k,m=k+1:= ⟨m- 1,by omega⟩;exact MY x k
     have V:cs.length=m*x.a:=by rw[N,M,X,aq]
     rw[X];refine OI m cs an V λ i p=>?_;obtain⟨z,E⟩:=Dm B i i (by simp[p]);rw[ak]at E;exact xi n q x ai r _ z.1 z.2 E
   ·cases A
  ·cases h
theorem MP:(n:Nat)->(l:List iA)->(off:Nat)->(t:Ty)->rY P n l off t=true->∀(c:Nat)(cs:List eg),cs.length=off+t.a->∀xs:List (n5 H×List nv),
 (l.mapM λ f=>gf enc P W 0 spare held c f.type ((cs.drop f.offset).take (P.cellsOf f.type)))=some xs->∃x:t.b,aw P t W (λ b=>b<W.heap.size) (cs.drop off) x/\t.k x
 |0,l,off,t,h,c,cs,i,xs,e=>by simp[rY]at h
 |n+1,[],off,t,h,c,cs,i,xs,e=>by cases t<;>simp[rY]at h
 |n+1,[f],off,t,h,c,cs,i,xs,e=>by
  rw[rY]at h;simp only[b2]at h;obtain⟨⟨m,o⟩,p⟩:=h;have j:=cU m;have k:=cU o;obtain⟨y,r,d,_,_⟩:=ya e;rw[j,k,hM (by simp;omega)]at d;exact xi n f.type t p c _ y.1 y.2 d
 |n+1,f::g::r,off,t,h,c,cs,i,xs,e=>by
  cases t with
  |aF a b=>
   rw[rY]at h;simp only[b2]at h;obtain⟨⟨⟨m,o⟩,p⟩,s⟩:=h;have j:=cU m;have k:=cU o;obtain⟨y,r',d,q,_⟩:=ya e;rw[j,k]at d;obtain⟨z,k1,u⟩:=xi n f.type a p c _ y.1 y.2 d;obtain⟨A,v,w⟩:=MP n (g::r) (off+a.a) b s c cs (by rw[i];simp[Ty.a];omega) r' q;refine⟨(z,A),⟨k1,?_⟩,u,w⟩;rw[k3];exact v
  |_=>simp[rY]at h
end
end
end
section
variable{P:ei}[Dr]
def Fh:(a:List Ty)->ax a->Prop| [],_=>True| [t],x=>t.k x|t::u::a,(x,y)=>t.k x/\Fh (u::a) y
def qU(P:ei)(n:Nat):List Nat->List Ty->Bool| [],[]=>true|T::Ts,t::ts=>pw P n T t&&qU P n Ts ts|_,_=>false
theorem SN{n T t}(h:pw P n T t=true){w r e v}(d:lk P w r e T v):v=t.d v.cells.toList:=by cases n with|zero=>simp[pw]at h|succ n=>
  unfold pw at h;split at h
  rename_i k k' b;obtain⟨m,rfl⟩:=okWide_int b d;rfl;rename_i b;obtain⟨m,rfl⟩:=okWide_bool b d;rfl;rename_i b;obtain⟨m,rfl⟩:=okWide_string b d;rfl;rename_i b;obtain⟨a,l,c,rfl⟩:=okWide_slice b d;rfl;rename_i b;obtain⟨cs,rfl,_⟩:=okWide_struct b d;simp[Ty.d,Ty.c,n9];rename_i b;unfold lk at d;rw[b]at d;obtain⟨cs,rfl,_⟩:=d;simp[Ty.d,Ty.c,n9];cases h
section
variable{H:Type}{enc:lB×eg->H}{W:ef}{spare:Nat->Bool}{held:Bool}
theorem L4(n):(Ts:List Nat)->(e:List Ty)->qU P n Ts e=true->∀vs g ps f,(∀(j:Nat)T v,Ts[j]?=some T->vs[j]?=some v->lk P W .any f T v)->k6 enc P W 0 spare held Ts vs g ps->∃x,fe P W (λ b=>b<W.heap.size) e vs x/\Fh e x
 | [],[],_,vs,g,ps,f,_,h=>by obtain⟨rfl,_⟩:=ny h;exact⟨(),rfl,trivial⟩| [T],[t],a,vs,g,ps,f,i,h=>by obtain⟨v,o,d,r,p,q,rfl,rfl,rfl,c,l⟩:=mr h;obtain⟨rfl,_⟩:=ny l;simp[qU,Bool.and_true]at a;have⟨k,c⟩:=c;have⟨x,k1,m⟩:=xi n T t a k _ d p c;exact⟨x,⟨_,by rw[<-SN a (i 0 T v rfl rfl)],k1⟩,m⟩|T::U::Ts,t::u::e,a,vs,g,ps,f,i,h=>by obtain⟨v,o,d,r,p,q,rfl,rfl,rfl,c,l⟩:=mr h;rw[qU]at a;simp[b2]at a;have⟨s,A⟩:=a;have⟨k,c⟩:=c;have⟨x,k1,m⟩:=xi n T t s k _ d p c;have⟨y,C,D⟩:=L4 n (U::Ts) (u::e) A o r q f (λ j w v' z B=>i (j+1) w v' (by simpa using z) (by simpa using B)) l;exact⟨(x,y),⟨v.cells.toList,o,by rw[<-SN s (i 0 T v rfl rfl)],k1,C⟩,m,D⟩| [],_::_,a,_,_,_,_,_,_=>by simp[qU]at a|_::_,[],a,_,_,_,_,_,_=>by simp[qU]at a| [_],_::_::_,a,_,_,_,_,_,_=>by simp[qU]at a|_::_::_,[_],a,_,_,_,_,_,_=>by simp[qU]at a
theorem Sq{e}(g:laidOutB P=true)(f:Below W.heap.size W e):(Ts:List Nat)->(∀T∈Ts,P.readableRec T=true/\T<P.types.size)->∀vs a ps,k6 enc P W 0 (λ _=>true) true Ts vs a ps->(∀x∈ps,x.block<W.heap.size)->k6 enc P e 0 (λ b=>fu (b<W.heap.size)) true Ts vs a ps
 | [],_,vs,a,ps,h,_=>by obtain⟨rfl,rfl,rfl⟩:=ny h;rfl|T::Ts,hT,vs,a,ps,h,hlt=>by obtain⟨v,r,d,j,p,q,rfl,rfl,rfl,n,o⟩:=mr h;have⟨k,l⟩:=hT T (fH ..);refine⟨p,q,Below.trod g k l n f (λ x c=>hlt x (gl _ c)),?_,rfl⟩;exact Sq g f Ts (λ i m=>hT i (gw _ m)) r j q o (λ x c=>hlt x (hS _ c))
end
end
section
variable{P:ei}[Dr]
end
section
variable[Dr]
variable{P:ei}{E:aq}{R:Type}
variable {o:k9} {f t1 t2 p:Nat} {T:cf} {a:kg} {Q:hz->kg->ef->Prop} {F:List Nat} {X:List (dN×cf)} {K:kg->ef->Prop} {H:bT R} {e:Ty}
theorem BZ{r n i ops b w}(f:ops[i]?=some o)(e:o.guard=none)(d:∀c,o.op≠ .defer c) (h:o.wp P a w (kp (Fr r) n P ops Q b) Q):kp (Fr r) n P ops Q (i::b) a w:=by grind[fv,lA,kp,H7]
theorem QW{w w' v}(b:(k4 a.eval o).run P w= .ok (.value v) w')(h:K (a.put o.dst v) w'):o.wp P a w K Q:=by unfold Oper.wp;rw[b];exact h
theorem MW{w w' args}{R:eg->ef->Prop}(d:(k4 a.eval o).run P w= .ok (.enter f args) w') (c:Calls P f args w' λ e b=>∃v,e= .returned v/\R v b) (h:∀v b,R v b->K (a.put o.dst v) b):o.wp P a w K Q:=by unfold Oper.wp;rw[d];refine Calls.mono c ?_;grind
theorem Rk(c:lE P f){args b}(d:o.op= .call {callee:= .value (.func f),args,argTypes:=b})(a:kg)(w):(k4 a.eval o).run P w= .ok (.enter f (args.map a.eval)) w:=by unfold k4;rw[d];have h:(callFunc f (args.map a.eval++ #[])).run P w=_:=Hk c _;rw[Array.append_empty]at h;show(callFunc f (#[]++args.map _++ #[])).run P w=_;grind
def QR(P:ei)(e:Ty)(w:ef)(xs:List e.b)(v:eg)(a:ef):=∃(g:Nat)(d:Array eg)(A0:Nat->Prop),v= .func (.func g) #[] d/\lE P g/\w.heap.size<=a.heap.size/\(∀b,b<w.heap.size->a.heap[b]?=w.heap[b]?)/\(a.os=w.os/\a.tape=w.tape/\eW w a)/\(∀b,A0 b->w.heap.size<=b/\b<a.heap.size)/\∀c,c.heap.size=a.heap.size+2->(∀b,b<a.heap.size->c.heap[b]?=a.heap[b]?)->∀ok,(∀b,ok b->b<w.heap.size)->ET P (λ W o f x=>∃vs,f=vs.toArray/\fe P W o [e] vs x) g d A0 c ok xs
def Ej(P:ei)(f:Nat)(e:Ty)(b:List UInt8->List UInt8->Option (List e.b)):=lE P f/\∀w s t xs,b s t=some xs->Calls P f #[.string ⟨⟨s⟩⟩,.string ⟨⟨t⟩⟩] w λ a c=>∃v,a= .returned v/\QR P e w xs v c
def Pr:aU->RM (List UInt8)| .aE u d=> .nS (gN (t:=u) (t':= .aJ) d)|_=> .aa
def CV(i:Nat)(K:hz->au->Option R):hz->au->Option R| .exit j,st=>bif ea j i then K .normal st else K (.exit j) st|e,st=>K e st
def Eu(E:aq)(e:Ty)(x:fl)(a:List UInt8->Option (List e.b))(T:cf)(X:List (dN×cf))(body:cR T.b->e.b->(cR T.b->Option R)->iI R X->Option R)(i:Nat):Ev R:=λ st K=>((c9 [] x).aB Pr).jT st λ s=>(a s).bind λ xs=>(ky E T st).bind λ d=>la body (kK (CV i K) X) (λ d=>CV i K .normal (mk T d)) xs d
theorem VU(C:al P E)(ad:H.c= []){S}(J:Ej P f e S){sep x aA aB au av V W Z ar i}
 {A B} {Oa Ob} {body:cR T.b->e.b->(cR T.b->Option R)->iI R X->Option R}
 (G:qp P E [e] [p] A B Oa Ob T F X body) (aG:t1≠t2) (h1:t1<T.N) (h2:t2<T.N) (ag:∀d k sl,Map.av (mk T d).a k=some sl->k≠t1/\k≠t2):
 eS P H false (.seq (.region ar #[⟨some t1,.move x,aA,au,V,none⟩,⟨some t2,.call {callee:= .value (.func f),args:= #[.tmp t1,.const (.string ⟨⟨sep⟩⟩)],argTypes:=Z},aB,av,W,none⟩] false) (.block i (.rangeFunc (.tmp t2) #[p] A B)))
  (Eu E e x (λ s=>S s sep) T X body i):=by
 intro r L U D K Y st a w w0 h l ah;have L:r=none:=by simp_all
 subst L;unfold Eu at h;rw[RM.sH]at h;have⟨s,N,h⟩:=eQ.1 h;have⟨xs,aq,h⟩:=eQ.1 h;have⟨d,I,h⟩:=eQ.1 h;have⟨aa,z⟩:=l;have⟨u,O,n⟩:=RM.aI N;have M:=dQ z (cG _) O;have aE:a.eval x= .string ⟨⟨s⟩⟩:=by
  cases u<;>simp[Pr]at n<;>try(cases n;done)
  obtain⟨rfl,rfl⟩:=kC (RM.Ae n);have⟨vs,ac,t⟩:=M;have t:vs= [.string ⟨⟨s⟩⟩]:=t;rw[ac,t];rfl
 have⟨conc,l⟩:=Aa C ⟨aa,z⟩ I;clear I z N O n M;have⟨an,aF,ao⟩:=qw d;have aI:a.tmps.size=T.N:=l.n.trans an
 let m:Act:=a.put (some t1) (.string ⟨⟨s⟩⟩)
 have ap:∀o:k9,o.op= .move x->(k4 a.eval o).run P w= .ok (.value (.string ⟨⟨s⟩⟩)) w:=λ o aH=>by
  simp_all[k4]
 refine nc (wpIn_region ?_);show kp _ 7 P _ _ [0,1] a w;refine BZ rfl rfl (by grind) (QW (v:= .string _) (w':=w) (ap _ rfl) ?_);show kp _ 7 P _ _ _ m w;refine BZ rfl rfl (by grind) (MW (Rk J.1 rfl _ w) (R:=QR P e w xs) ?_ ?_)
 have ab:(#[Operand.tmp t1,.const (.string ⟨⟨sep⟩⟩)]:Array fl).map m.eval= #[.string ⟨⟨s⟩⟩,.string ⟨⟨sep⟩⟩]:=by
  have:m.eval (.tmp t1)= .string ⟨⟨s⟩⟩:=by
   show(a.tmps.setIfInBounds _ _).getD _ _=_;simp_all
  simp only[List.map_toArray,k7,List.map_nil,this];rfl
 rw[ab];exact J.2 w s _ _ aq
 rintro v aN⟨g,Q,A0,rfl,ae,aw,ax,ay,az,aL⟩
 let q:Act:=m.put (some t2) (.func (.func g) #[] Q)
 show(Code.block i _).wpIn _ 7 P _ q _;have af:q.eval (.tmp t2)= .func (.func g) #[] Q:=by
  show((a.tmps.setIfInBounds _ _).setIfInBounds _ _).getD _ _=_;simp_all
 have am:aD P (w0.c conc a w) ⟨conc.m,conc.B,conc.b⟩ (mk T d) q w:=l.y.G conc.B rfl (λ k sl c=> ⟨c,xS d c,by
  have⟨aJ,aK⟩:=ag d k sl c;show((a.tmps.setIfInBounds _ _).setIfInBounds _ _)[k]?=_
  grind⟩) (λ _=>rfl) (by grind[Act.put]) rfl (λ k c=>absurd c (by rw[ao,G.c];simp)) (eb _) (λ _ _ _=>rfl) (λ b _ y=>y) rfl l.y.u.symm (λ b y=>y) rfl l.y.h
 have aj:U (w0.c conc a w) Y:=D.d _ _ _ ah l.C;refine(wpIn_block (fz (M5 C ad G D (K:=CV i K) h am aj af ae aw ax ay (A0:=A0) az (by grind)) ?_));rintro ex a' w'⟨⟨aM,aC,st',ak,ai,c⟩,_⟩;cases ex with
 |exit j=>
  grind[CV,gF,decide_true,lv,decide_false]
 |_=>exact⟨_,_,_,ak,ai,c⟩
def CD(k t1 t2 f i p:Nat)(sep:List UInt8):et->Bool
 | .seq (.region _ ops false) (.block j (.rangeFunc (.tmp u) ps _ _))=>match ops.toList,ps.toList with
  | [⟨some d1,.move (.tmp x),_,_,_,none⟩,⟨some d2,.call {callee:= .value (.func g),args,.. },_,_,_,none⟩],[q]=>match args.toList with| [.tmp y,.const (.string b)]=>ea x k&&ea d1 t1&&ea d2 t2&&ea g f&&ea j i&&ea u t2&&ea q p&&ea y t1&& (b.data.toList==sep)|_=>false
  |_,_=>false
 |_=>false
def D8:et->et| .seq _ (.block _ (.rangeFunc _ _ a _))=>a|_=> .skip
def Dt:et->et| .seq _ (.block _ (.rangeFunc _ _ _ b))=>b|_=> .skip
theorem Hi{α:Type}{xs:Array α}{l}(h:xs.toList=l):xs= ⟨l⟩:=by grind
theorem Xl{k i sep c}(h:CD k t1 t2 f i p sep c=true):∃m r n a e s o d,c= .seq (.region m #[⟨some t1,.move (.tmp k),r,n,a,none⟩,⟨some t2,.call {callee:= .value (.func f),args:= #[.tmp t1,.const (.string ⟨⟨sep⟩⟩)],argTypes:=e},s,o,d,none⟩] false) (.block i (.rangeFunc (.tmp t2) #[p] (D8 c) (Dt c))):=by
 unfold CD at h;split at h
 rename_i m ops j u ps D E;split at h;rename_i d1 x r n a d2 g args e s o d q t v;split at h;rename_i y b w;simp only[b2,gF,decide_eq_true_eq,beq_iff_eq]at h;obtain⟨⟨⟨⟨⟨⟨⟨⟨rfl,rfl⟩,rfl⟩,rfl⟩,rfl⟩,rfl⟩,rfl⟩,rfl⟩,l⟩:=h;have z:=Hi t;have A:=Hi v;have B:=Hi w;obtain⟨⟨C⟩⟩:=b;simp only at l;subst l z A B;exact⟨_,_,_,_,_,_,_,_,rfl⟩;trivial;trivial;trivial
theorem ab1(l:al P E)(m:P.follows .mixedOrders=true){i j Oa Ob}{body:cR T.b->e.b->(cR T.b->Option R)->iI R X->Option R} (r:T.c= []) (u:p<T.N) (t:p∉F) (s:(X.all λ x=>x.2.c.isEmpty)=true) (n:kO P (bT.b (R:=R)) true (gq i) 0 Oa) (o:kO P (bT.b (R:=R)) true (gq j) 0 Ob) (heq:∀d x again k,dv E bT.b i Oa (yO T F [p] [e] d x) (tH λ st=>dv E bT.b j Ob st (wR E T F X again k))=body d x again k):qp P E [e] [p] i j Oa Ob T F X body where
 c:=r
 g:=λ q v=>by grind
 e:=rfl
 f:=λ x w=>by grind
 a:=ji l m i Oa (my n)
 b:=ji l m j Ob (my o)
 h:=heq
def xP(E:aq)(H:bT R)(c:Ev R):Nat->et->Ev R
 |0,.seq _ b=>λ st K=>c st λ| .normal,st=>dv E H b [] st K|e,st=>K e st
 |k+1,.seq a b=>λ st K=>dv E H a [] st λ| .normal,st=>xP E H c k b st K|e,st=>K e st
 |_,_=>λ _ _=>none
def pE:Nat->et->et|0,.seq a _=>a|k+1,.seq _ b=>pE k b|_,c=>c
def Hx:Nat->et->Bool|0,.seq _ _=>true|k+1,.seq _ b=>Hx k b|_,_=>false
theorem Re(l:al P E)(m:P.follows .mixedOrders=true){i s}:(k:Nat)->(c:et)->eS P H i (pE k c) s->Hx k c=true->eS P H i c (xP E H s k c)
 |0,.seq x y,p,q=>λ r j t d K u st a w w0 h o n=>by simp[xP]at h;refine nc (fz (p r j _ d _ _ _ _ _ _ h o n) ?_);rintro e a' w'⟨w1,v,st',g,f,b⟩;cases e with|normal=>exact ji l m y [] (my trivial) r j _ d _ _ _ _ _ _ b g f|_=>exact⟨_,_,_,g,f,b⟩
 |k+1,.seq x y,p,q=>λ r j t d K u st a w w0 h o n=>by have z:=Re l m k y p q;simp[xP]at h;refine nc (fz (ji l m x [] (my trivial) r j _ d _ _ _ _ _ _ h o n) ?_);rintro e a' w'⟨w1,v,st',g,f,b⟩;cases e with|normal=>exact z r j _ d _ _ _ _ _ _ b g f|_=>exact⟨_,_,_,g,f,b⟩
theorem KF:{l:List (Nat×ki)}->{r:List iK}->{m:List (Nat×fX)}->{r':List iK}->pY l r=some (m,r')->∀p∈m,∃q∈l,q.1=p.1
 | [],r,m,r',h=>by grind[pY,Option.some.injEq,Prod.mk.injEq]| (d,t)::l,r,m,r',h=>by
  simp[pY]at h;split at h
  split at h;rename_i m' e a;simp only[Option.some.injEq,Prod.mk.injEq]at h;obtain⟨rfl,_⟩:=h;intro p hp;rcases gg.1 hp with rfl|hp
  simp;obtain⟨q,b,c⟩:=KF a p hp
  grind
  trivial;trivial
theorem U7(h:(T.d.all λ q=>!(ea q.1 t1)&&!(ea q.1 t2))=true)(d)(k)(sl)(a:Map.av (mk T d).a k=some sl):k≠t1/\k≠t2:=by
 unfold mk at a;split at a
 rename_i s r b;split at a;obtain⟨q,c,e⟩:=KF b _ (Map.ll a)
 grind[eL,gF,fb,decide_eq_false_iff_not]
 trivial;trivial
theorem ZQ(b:al P E)(q:P.follows .mixedOrders=true){f:hN}{fn}(v:P.funcs[f]?=some fn)(A:(fn.name== "runtime.NumGoroutine")=false)(r:fn.body.isSome=true) {ins a} (z:j2 (ins.length+ ([]:List Ty).length) fn.ntmps=true) {n} {o:List UInt8->List UInt8->Option (List (List UInt8))} (C:Ej P n .aJ o) {k i m} {sep} (l:CD k t1 t2 n i p sep (pE m (bd fn))=true) (j:Hx m (bd fn)=true) {body:cR T.b->List UInt8->(cR T.b->Option (ax a))->iI (ax a) X->Option (ax a)} (B:t1≠t2) (h1:t1<T.N) (h2:t2<T.N) (h:qp P E [.aJ] [p] (D8 (pE m (bd fn))) (Dt (pE m (bd fn))) [] [] T F X body) (w:∀d k sl,Map.av (mk T d).a k=some sl->k≠t1/\k≠t2) {g} (heq:∀x y,xP E (bT.b (R:=ax a)) (Eu E .aJ (.tmp k) (λ s=>o s sep) T X body i) m (bd fn) (uN fn.ntmps ins [] x y) (xj E false fn.results.toList a)=g x y):jf P f ⟨ins,[],a,g,false⟩:=by
 have⟨c,u⟩:=hD.1 r;have t:bd fn=c:=by grind[bd]
 rw[t]at l j h heq;refine TO b v A u (Re b q m c ?_ j) z heq;have⟨I,L,J,D,H,M,K,G,e⟩:=Xl l;rw[e];exact VU b rfl C h B h1 h2 w
end
end Go.Abs
