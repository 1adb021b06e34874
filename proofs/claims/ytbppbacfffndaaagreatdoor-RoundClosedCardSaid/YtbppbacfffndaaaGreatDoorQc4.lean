/- Part of a proof that the statement holds. No conditions. -/
import Derived.LoopNIn
import Derived.RangeFuncSeq
import Derived.RangeFuncIn
import Derived.RangeFuncRecord
import Derived.ChangeKeysEq
import Derived.ProofKit
import Derived.ChangeSlices
import Derived.Test.YtbppbacfffndaaaGreatDoorQc3
set_option linter.all false
noncomputable section
open Bool renaming and_eq_true->b2,false_eq_true->fb,not_eq_true'->fv,not_true->lf
open Nat renaming beq->cr,le_refl->df,lt_of_lt_of_le->ep,le_trans->fu,zero_le->gE,zero_mul->hL,ble->hS,add_zero->mo,succ_mul->mr,le_of_ble_eq_true->nf,blt->oj,zero_add->p8
open Array renaming getElem?_eq_some_iff->dk,replicate->gb,getElem?_append_left->hq,length_toList->hQ,toList_filter->hR
open Go renaming World->dr,Value->eb,Program->ee,Code->ej,run_underlying->et,wpIn_mono->fl,Operand->fx,Exit->gw,LoopState->hh,FuncId->hB,Act->hM,leftOf->jA,execOp->j1,Field->j2,Oper->ko,wpOpsIn->kH,MapEntry->kL,undef->kR,yielded->kV,results->mb,TypeId->mm,Deferred->mn,callsIn_wide->nz,wpIn_seq->o0,part->o1,MemPlace->pc,callsIn_of_wp_marks->pn,Func->pN,sizeOf->pS,maxLen->pV,DataW->p5,ResultVar->p7,TypeDesc->qO
open Go.Result renaming andThen_ok->ea,ok->qc
open Go.Sem renaming run_bind->ef,run_pure->hG
open Option renaming bind_some->eg,bind_eq_some_iff->eQ,isSome_iff_exists->hy,map_eq_some_iff->lv
open Go.ChangeMaps renaming setBlock->ei
open Go.Instr renaming checkKey->en,findNow->hU,sameNow->hY,makeInterface->ng,findAsking->nB,yield->p1
open List renaming getElem?_eq_some_iff->eo,all_eq_true->ew,getElem?_eq_getElem->eL,nodup_nil->fR,nodup_cons->gf,mem_cons_self->gg,mem_singleton->gk,mem_cons->gl,drop_eq_getElem_cons->hv,getElem?_take_of_lt->hA,range'_succ->hD,take_of_length_le->hF,forIn_cons->hJ,mem_append_left->hN,mem_cons_of_mem->hP,range->iA,getElem?_drop->jc,append_assoc->kg,length_cons->kk,append_nil->kp,mem_append->kq,mapM_cons->k4,drop_zero->k5,drop_drop->k6,map_cons->lk,getElem?_cons_zero->lB,mem_map->l8,getElem?_eraseIdx->ma,mem_append_right->ml,getElem?_eq_none->mA,length_eraseIdx->mZ,getElem?_of_mem->nb,range_eq_range'->nc,mem_filterMap->np,any_eq_false->ny,filter_cons->nV,drop_length->n1,range'_zero->n3,forIn_nil->pt,range'->qi,length->qn
open Go.Region renaming wanted->eH
open Go.World renaming putObj_heap_other->eV,putObj_heap_same->lA,cell?->mx,putObj->pH,cells?->pX
open Go.DataW renaming trod->fz,TrodAll->lb,agg->qF
open Go.Ending renaming returned->gu
open Go.IntKind renaming wrap->hg,signed->nH,bits->o2
open PUnit renaming unit->ht
open Go.Op renaming equalIn->hz,eqFields->nv,eqItems->n2
open Go.Fence renaming wide->hZ
open Go.Deferred renaming ofValue->ih
open ForInStep renaming yield->j3
open Go.Value renaming func->k3,okWide->l7
open Go.Act renaming eval->k7
open BEq renaming comm->k8
open Go.Exit renaming inBlock->l9
open Go.ChangeShapes renaming trodAll_cons->nL,trodAll_nil->pk
open Std.Legacy.Range renaming size->pv,forIn_eq_forIn_range'->pz
open Go.stepG renaming exec->p6
open Go.Frame renaming atR->qq
open Go.Made renaming depth->qz
open Go.Addr renaming add->qW
namespace Go.Abs
open Go.ChangeShapes Go.RowKit Go.WideShapes
section
variable[Dr]
variable{F:List Nat}{v:eb}{s:bQ}{α:Type}{k i:Nat}{m:List (Nat×α)}
structure iK where
 t:Ty
 d:t.b
inductive lj where
 |aj (t:Ty)
 |pp (t:Ty)
 |iR (id:Nat)
 |cu (id off:Nat)
 |j6
 |TN (f:Nat)
 |sZ
 |akJ (f id:Nat)
inductive ki where|v (c:lj)|B6 (l:List lj)
inductive mS where
 |jH (e:Ty)
 |cp (t:Ty) (l:List lj)
 |tU (k v:Ty)
 |it (k v:Ty)
structure cf where
 N:Nat
 b:List Ty
 d:List (Nat×ki)
 e:List (Nat×mS)
 c:List Nat
structure Sc where
 d:List iK
 c:List (Nat×Option Nat)
 f:W
def Sc.b(x y:Sc):Sc:= ⟨x.d++y.d,x.c++y.c,x.f++y.f⟩
def Sc.e:Sc:= ⟨[],[],[]⟩
def wx(E:aq):lj->aU->RM Sc
 | .aj t,a=>(gX E t a).aB λ x=> .aA ⟨[⟨t,x.1⟩],[],x.2⟩
 | .pp t,a=>(qu E t a).aB λ x=> .aA ⟨[⟨t,x.1⟩],[],x.2⟩
 | .iR i,.dj id ver=> .dS id λ
  |some (cv,.c8 _ _)=>bif cr cv ver then .aA ⟨[],[(i,some id)],[]⟩else .aa
  |some (cv,.kB _ _ _)=>bif cr cv ver then .aA ⟨[],[(i,some id)],[]⟩else .aa
  |some (cv,.it _ _ _ _)=>bif cr cv ver then .aA ⟨[],[(i,some id)],[]⟩else .aa
  |_=> .aa
 | .iR i,.js=> .aA ⟨[],[(i,none)],[]⟩
 | .cu i off,.dx id ver b=> .dS id λ
  |some (cv,.eu _ _)=>bif cr cv ver&&cr off b then .aA ⟨[],[(i,some id)],[]⟩else .aa
  |_=> .aa
 | .j6,.js=> .aA .e
 | .TN f,.rN f'=>bif cr f f' then .aA .e else .aa
 | .sZ,.ku=> .aA .e
 | .akJ f i,.oH f' id ver=> .dS id λ
  |some (cv,.eu _ _)=>bif cr cv ver&&cr f f' then .aA ⟨[],[(i,some id)],[]⟩else .aa
  |_=> .aa
 |_,_=> .aa
def sW(E:aq):List lj->List aU->RM Sc| [],[]=> .aA .e|c::l,a::m=>(wx E c a).aB λ x=>(sW E l m).aB λ y=> .aA (x.b y)|_,_=> .aa
def Az(E:aq):ki->bQ->RM Sc| .v (.aj t),s=>(jd E t s).aB λ x=> .aA ⟨[⟨t,x.1⟩],[],x.2⟩| .v c,.v a=>wx E c a| .B6 l,.ju m=>sW E l m| .B6 l,.v (.aE t d)=>bif t.c then sW E l (tn t d)else .aa|_,_=> .aa
def xx(E:aq):List (Nat×ki)->RM Sc| []=> .aA .e| (d,t)::r=> .nh d λ|some ⟨[],_,s⟩=>(Az E t s).aB λ x=>(xx E r).aB λ y=> .aA (x.b y)|_=> .aa
def yg(E:aq)(a:List (Nat×Option Nat))(i:Nat):mS->RM Sc
 | .jH e=>match Map.av a i with
  |some none=> .aA ⟨[⟨.aH e,([]:List e.b)⟩],[],[]⟩
  |some (some id)=> .dS id λ
   |some (_,.c8 b l)=>bif decide (b=e)then .aA ⟨[⟨.aH b,l⟩],[],[]⟩else .aa
   |_=> .aa
  |none=> .aa
 | .cp t l=>match Map.av a i with
  |some (some id)=> .dS id λ
   |some (_,.eu u cells)=>bif decide (u=t)then sW E l cells else .aa
   |_=> .aa
  |_=> .aa
 | .tU k v=>match Map.av a i with
  |some (some id)=> .dS id λ
   |some (_,.kB k' v' l)=>bif decide (k'=k/\v'=v)then .aA ⟨[⟨.cO k' v',l⟩],[],[]⟩else .aa
   |_=> .aa
  |_=> .aa
 | .it k v=>match Map.av a i with
  |some (some id)=> .dS id λ
   |some (_,.it k' v' _ l)=>bif decide (k'=k/\v'=v)then .aA ⟨[⟨.cO k' v',l⟩],[],[]⟩else .aa
   |_=> .aa
  |_=> .aa
def xH(E:aq):List (Nat×Option Nat)->List (Nat×mS)->RM Sc|_,[]=> .aA .e|a,(i,t)::r=>(yg E a i t).aB λ x=>(xH E (a++x.c) r).aB λ y=> .aA (x.b y)
def Tb(E:aq)(T:cf):=(xx E T.d).aB λ x=>(xH E x.c T.e).aB λ y=> .aA (x.b y)
def Hz(p q:Nat×Option Nat):Bool:=bif cr p.1 q.1 then(match p.2,q.2 with|none,none=>true|some a,some b=>cr a b|_,_=>false)else(match p.2,q.2 with|some a,some b=>!cr a b|_,_=>true)
def Jw(T:cf)(S:Sc):=(S.c.all λ p=>S.c.all (Hz p))&& (S.c.all λ p=>match Map.av T.e p.1 with|some _=>true|none=>false)&&S.c.all λ p=>match p.2 with|some id=>!S.f.any λ q=>cr q.1 id|none=>true
@[reducible] def cR:List Ty->Type
 | []=>Unit
 |t::ts=>t.b×cR ts
def Ep:(a:List Ty)->List iK->Option (cR a)
 | [],[]=>some ()|t::a,d::ds=>match gN (t:=d.t) (t':=t) d.d,Ep a ds with|some x,some r=>some (x,r)|_,_=>none
 |_,_=>none
def CK:(a:List Ty)->cR a->List iK| [],_=> []|t::a,(x,r)=> ⟨t,x⟩::CK a r
def ot:List Nat->List Nat->Bool| [],[]=>true|a::l,b::m=>cr a b&&ot l m|_,_=>false
theorem EW:{l m:List Nat}->ot l m=true->l=m
 | [],[],_=>rfl|a::l,b::m,h=>by simp only[ot,b2]at h;rw[cU h.1,EW h.2]| [],_::_,h=>by cases h|_::_,[],h=>by cases h
def ky(E:aq)(T:cf)(st:au):=(Tb E T).jT st λ S=>bif Jw T S&&cr st.N T.N&&ot st.c T.c then Ep T.b S.d else none
def DT:lj->List iK->Option (aU×List iK)
 | .aj _,⟨t,d⟩::r=>some (.aE t d,r)
 | .pp _,⟨t,d⟩::r=>some (.gB t d,r)
 | .iR i,r=>some (.dj i 0,r)
 | .cu i off,r=>some (.dx i 0 off,r)
 | .j6,r=>some (.js,r)
 | .TN f,r=>some (.rN f,r)
 | .sZ,r=>some (.ku,r)
 | .akJ f i,r=>some (.oH f i 0,r)
 |_,[]=>none
def AP:List lj->List iK->Option (List aU×List iK)| [],r=>some ([],r)|c::l,r=>match DT c r with
 |some (a,r)=>match AP l r with|some (m,r)=>some (a::m,r)|none=>none
 |none=>none
def yv:ki->List iK->Option (bQ×List iK)
 | .v c,r=>match DT c r with|some (a,r)=>some (.v a,r)|none=>none
 | .B6 l,r=>match AP l r with|some (m,r)=>some (.ju m,r)|none=>none
def pY:List (Nat×ki)->List iK->Option (List (Nat×fX)×List iK)| [],r=>some ([],r)| (d,t)::l,r=>match yv t r with
 |some (s,r)=>match pY l r with|some (m,r)=>some ((d,⟨[],true,s⟩)::m,r)|none=>none
 |none=>none
def Ih:mS->List iK->Option (fJ×List iK)
 | .jH _,⟨.aH e,l⟩::r=>some (.c8 e l,r)
 | .cp t l,r=>match AP l r with
  |some (m,r)=>some (.eu t m,r)
  |none=>none
 | .tU _ _,⟨.cO k v,l⟩::r=>some (.kB k v l,r)
 | .it _ _,⟨.cO k v,l⟩::r=>some (.it k v none l,r)
 |_,_=>none
def Ci:List (Nat×mS)->List iK->Option (List (Nat×(Nat×fJ))×List iK)| [],r=>some ([],r)| (i,t)::l,r=>match Ih t r with
 |some (o,r)=>match Ci l r with|some (m,r)=>some ((i,(0,o))::m,r)|none=>none
 |none=>none
def mk(T:cf)(d:cR T.b):au:=match pY T.d (CK T.b d)with
 |some (s,r)=>match Ci T.e r with|some (h,_)=> ⟨T.N,[],s,h,T.c⟩|none=> ⟨T.N,[],[],[],T.c⟩
 |none=> ⟨T.N,[],[],[],T.c⟩
variable{P:ee}{E:aq}{w0:bC}{w:dr}{conc:bf}{st:au}{a:hM}
theorem LD:(a:List Ty)->{b:List iK}->{d:cR a}->Ep a b=some d->CK a d=b| [],[],d,h=>rfl| [],_::_,d,h=>by trivial|t::a,[],d,h=>by trivial|t::a,⟨u,y⟩::b,d,h=>by simp[Ep]at h;split at h;rename_i x r g f;cases h;have⟨e,c⟩:=kC g;subst e;subst c;simp[CK,LD a f];trivial
def yK(conc:bf)(b:List (Nat×Option Nat))(a:bf):=∀i s,(i,s)∈b->match s with|none=>a i=some (0,.slice none 0 0,true)|some id=>∃cv c,conc id=some (cv,c,true)/\a i=some (0,c,true)
structure lC(w:dr)(conc:bf)(S:Sc)(F:List Nat)(a:bf):Prop where
 f:∀id∈aV S.f,id∈F
 e:yK conc S.c a
 d:cM w (ae (bB conc F)) (ae a)
 g:a.b=conc.b
theorem lC.b{x y a}(h:lC w conc (x.b y) F a):lC w conc x F a:= ⟨λ id b=>h.f _ (by grind[Sc.b,jZ,hN]),λ i s b=>h.e i s (by grind[Sc.b,hN]),h.d,h.g⟩
theorem lC.c{x y:Sc}{a}(h:lC w conc (x.b y) F a):lC w conc y F a:= ⟨λ id b=>h.f _ (by grind[Sc.b,jZ,ml]),λ i s b=>h.e i s (by grind[Sc.b,ml]),h.d,h.g⟩
theorem aw.c{t d vs w ok ok'}(h:aw P t w ok vs d)(a:cM w ok ok'):aw P t w ok' vs d:=h.b t ⟨df _,λ _ _ _=>rfl⟩ a
theorem J3{S a}(h:lC w conc S F a):cM w (ae conc) (ae a):=(sX w _ F).b (df _) h.d
def Tu(P:ee)(w:dr)(conc:bf)(c:lj)(S:Sc)(v:eb):=∃y,(∀r,DT c (S.d++r)=some (y,r))/\∀F a,lC w conc S F a->bN P w a (ae a) y v
theorem KD(hE:al P E)(h:aD P w0 conc st a w){c:lj}{x:aU}{v:eb}{S:Sc}(e:(wx E c x).af st=some S)(l:bN P w conc (ae conc) x v):Tu P w conc c S v:=by
 have named:∀{i id cv:Nat}{o:fJ}{Q:eb->Prop}(y:aU),Map.av st.b id=some (cv,o)->(∀c z,fS P w conc (ae conc) c z o->z=true)->Nm conc id cv v Q->S= ⟨[],[(i,some id)],[]⟩->(∀r,DT c r=some (y,r))->
  (∀k,Nm k i 0 v Q->bN P w k (ae k) y v)->Tu P w conc c S v:=by
  intro i id cv o Q y n O l M N U;subst M;obtain⟨c2,z,k1,C,D⟩:=sR h n l;have:=O _ _ C;subst this;refine⟨y,N,λ F k g=>U k ?_⟩;obtain⟨J,c3,u,p2⟩:=g.e i (some id) (by simp);rw[k1]at u;cases u;obtain⟨_,_,_,_,_,G,_⟩:=l;exact⟨0,c2,true,p2,df _,G,λ _=>D⟩
 unfold wx at e;split at e
 obtain⟨d,A,B⟩:=RM.aI e;cases B;obtain⟨us,q,s⟩:=Ca hE h A l;exact⟨_,λ r=>rfl,λ F k g=> ⟨us,q,(s F g.f).2.c g.d⟩⟩;obtain⟨d,A,B⟩:=RM.aI e;cases B;refine⟨_,λ r=>rfl,λ F k g=>?_⟩;obtain⟨b,off,cs,T,fr,j,m,H,K,L⟩:=(AQ hE h A l F g.f).2;exact⟨b,off,cs,T,fr,j,g.d b m (dk.1 H).1,H,K,L.c g.d⟩;rename_i i id ver;simp only[RM.af]at e;split at e
 iterate 3
  rename_i n;obtain⟨j,m⟩:=dE e;have:=cU j;subst this;exact named (.dj i 0) n (λ _ _ h=>h.1) l (by cases m;rfl) (λ _=>rfl) λ _ h=>h
 trivial;rename_i i;cases e;refine⟨_,λ r=>rfl,λ F k g=>?_⟩;have:=g.e i none (by simp);have R:v= .slice none 0 0:=l;subst R;exact⟨0,_,_,this,df _,rfl,λ _=>rfl⟩;simp only[RM.af]at e;split at e;rename_i n;obtain⟨j,m⟩:=dE e;simp only[b2]at j;have q:=cU j.1;have s:=cU j.2;subst q s;exact named _ n (λ _ _ h=>h.1) l (by cases m;rfl) (λ _=>rfl) λ _ h=>h;trivial;cases e;exact⟨_,λ r=>rfl,λ F k g=>l⟩;obtain⟨j,m⟩:=dE e;cases m;have:=cU j;subst this;exact⟨_,λ r=>rfl,λ F k g=>l⟩;cases e;exact⟨_,λ r=>rfl,λ F k g=>by
 show v=_;rw[g.g];trivial⟩
 rename_i f i f' id ver;simp only[RM.af]at e;split at e;rename_i cv t cells n;obtain⟨j,m⟩:=dE e;clear e;simp only[b2]at j;have q:=cU j.1;have s:=cU j.2;subst q s;cases m;obtain⟨p,hp,I⟩:=l;subst hp;obtain⟨c2,z,k1,C,D⟩:=sR h n I;obtain⟨rfl,_⟩:=C;refine⟨.oH f i 0,λ r=>rfl,λ F k g=>?_⟩;obtain⟨J,c3,u,p2⟩:=g.e i (some id) (by simp);rw[k1]at u;cases u;obtain⟨_,_,_,_,_,G,_⟩:=I;exact⟨p,rfl,0,c2,true,p2,df _,G,λ _=>D⟩;cases e
 trivial
theorem B7(hE:al P E)(h:aD P w0 conc st a w):{cs:List lj}->{xs:List aU}->{vs:List eb}->{S:Sc}->(sW E cs xs).af st=some S->bU (bN P w conc (ae conc)) xs vs->∃ys,(∀r,AP cs (S.d++r)=some (ys,r))/\∀F e,lC w conc S F e->bU (bN P w e (ae e)) ys vs
 | [],[],vs,S,b,d=>by cases b;cases vs with|nil=>exact⟨_,λ r=>rfl,λ _ _ _=>trivial⟩|cons _ _=>trivial
 | [],_::_,vs,S,b,d=>by trivial|_::_,[],vs,S,b,d=>by trivial|c::cs,x::xs,[],S,b,d=>d.elim|c::cs,x::xs,v::vs,S,b,d=>by rw[sW]at b;have⟨p,j,k⟩:=RM.aI b;have⟨q,l,m⟩:=RM.aI k;cases m;have⟨y,n,g⟩:=KD hE h j d.1;have⟨ys,o,i⟩:=B7 hE h l d.2;refine⟨y::ys,λ r=>?_,λ F e f=> ⟨g F e f.b,i F e f.c⟩⟩;grind[AP,Sc.b,kg]
theorem afZ(hE:al P E)(h:aD P w0 conc st a w){t S}(f:(Az E t s).af st=some S)(i:di P w conc (ae conc) s v):∃y,(∀r,yv t (S.d++r)=some (y,r))/\∀F c,lC w conc S F c->di P w c (ae c) y v:=by unfold Az at f;split at f;have⟨d,n,o⟩:=RM.aI f;cases o;have⟨us,b,g⟩:=nO hE h n i;exact⟨_,λ r=>rfl,λ F c e=> ⟨_,b,(g F e.f).2.c e.d⟩⟩;have⟨y,b,g⟩:=KD hE h f i;exact⟨.v y,λ r=>by grind[yv],g⟩;have⟨vs,k,b,g⟩:=i;have⟨ys,l,j⟩:=B7 hE h f g;exact⟨.ju _,λ r=>by grind[yv],λ F c e=> ⟨_,k,b,j F _ e⟩⟩;have⟨p,m⟩:=dE f;have⟨vs,k,b⟩:=i;have⟨ys,l,j⟩:=B7 hE h m (Al _ b);exact⟨.ju _,λ r=>by grind[yv],λ F c e=> ⟨_,by grind[Ty.d],b.f,j F _ e⟩⟩;trivial
theorem Mg(hE:al P E)(h:aD P w0 conc st a w):{l:List (Nat×ki)}->{S:Sc}->(xx E l).af st=some S->∃ys,(∀r,pY l (S.d++r)=some (ys,r))/\∀F c,lC w conc S F c->∀d sl,(d,sl)∈ys->sl.L= []/\sl.g=true/\∃v,a.tmps[d]?=some v/\di P w c (ae c) sl.s v| [],S,b=>by cases b;exact⟨_,λ r=>rfl,by grind⟩| (k,t)::l,S,b=>by simp[xx,RM.af]at b;split at b;rename_i g s u;have⟨D,n,o⟩:=RM.aI b;have⟨G,p,q⟩:=RM.aI o;cases q;have⟨v,x,z⟩:=h.k k _ u;have A:=(z.b (cG _)).2;have⟨y,B,j⟩:=afZ hE h n A;have⟨ys,C,m⟩:=Mg hE h p;refine⟨(k,⟨[],true,y⟩)::ys,λ r=>?_,λ F c i d sl f=>?_⟩;grind[pY,Sc.b,kg];rcases gl.1 f with e|f;cases e;exact⟨rfl,rfl,v,x,j F _ i.b⟩;exact m F _ i.c d _ f;trivial
theorem Map.ll{v}(h:Map.av m k=some v):(k,v)∈m:=by induction m with|nil=>cases h|cons p r a=>grind[Map.av,gF,gg,hP]
theorem Map.RE{α}{m:List (Nat×α)}{k}(h:Map.av m k=none):∀v,(k,v)∉m:=by induction m with|nil=>simp|cons p r a=>grind[Map.av,gF]
theorem Wy(hE:al P E)(h:aD P w0 conc st a w){W:List (Nat×Option Nat)}{t:mS}{S:Sc}(d:(yg E W i t).af st=some S):
 ∃o,(∀r,Ih t (S.d++r)=some (o,r))/\∀F f,lC w conc S F f->yK conc W f->∃c,f i=some (0,c,true)/\fS P w f (ae f) c true o:=by
 unfold yg at d;split at d
 rename_i e;split at d;rename_i q;cases d;refine⟨_,λ r=>rfl,λ F f g p=> ⟨_,p i _ (Map.ll q),rfl,by grind⟩⟩;rename_i id q;simp only[RM.af]at d;split at d;rename_i cv Y l A;obtain⟨J,z⟩:=dE d;cases z;refine⟨.c8 Y l,λ r=>rfl,λ F f g p=>?_⟩;obtain⟨I,c2,n,p2⟩:=p i (some id) (Map.ll q);obtain⟨c,L,k1,s⟩:=pW h A;rw[k1]at n;cases n;refine⟨_,p2,rfl,?_⟩;obtain⟨_,s| ⟨b,off,cap,cs,T,B,C,D,v,G,M⟩⟩:=s
 grind
 exact .inr ⟨b,_,_,_,T,B,C,D,v,G,λ j x H=>(M j x H).c (J3 g)⟩;trivial;trivial;rename_i t l;split at d;rename_i id q;simp only[RM.af]at d;split at d;rename_i cv u cells A;obtain⟨J,z⟩:=dE d;have aa:u=t:=by grind
 subst aa;obtain⟨c,L,k1,s⟩:=pW h A;obtain⟨rfl,b,cs,T,B,C,D,v,G⟩:=s;obtain⟨ys,ai,Z⟩:=B7 hE h z G;refine⟨.eu u ys,λ r=>by grind[Ih],λ F f g p=>?_⟩;obtain⟨I,c2,n,p2⟩:=p i (some id) (Map.ll q);rw[k1]at n;cases n;have V:=Z F f g;exact⟨_,p2,rfl,b,_,T,B,C,by rw[V.b,<-G.b];omega,v,V⟩;trivial;trivial;rename_i k u;split at d;rename_i id q;simp only[RM.af]at d;split at d;rename_i cv k' U l A;obtain⟨J,z⟩:=dE d;cases z;refine⟨.kB k' U l,λ r=>rfl,λ F f g p=>?_⟩;obtain⟨I,c2,n,p2⟩:=p i (some id) (Map.ll q);obtain⟨c,L,k1,s⟩:=pW h A;rw[k1]at n;cases n;refine⟨_,p2,rfl,?_⟩;obtain⟨_,b,es,clock,B,C,ab,D,v⟩:=s;refine⟨b,es,clock,B,C,ab,D,λ j x e H K=>?_⟩;obtain⟨⟨ks,N,O⟩,us,Q,R⟩:=v j x e H K;exact⟨⟨_,N,O.c (J3 g)⟩,_,Q,R.c (J3 g)⟩;trivial;trivial;rename_i k u;split at d;rename_i id q;simp only[RM.af]at d;split at d;rename_i cv k' U y l A;obtain⟨J,z⟩:=dE d;cases z;refine⟨.it k' U none l,λ r=>rfl,λ F f g p=>?_⟩;obtain⟨I,c2,n,p2⟩:=p i (some id) (Map.ll q);obtain⟨c,L,k1,s⟩:=pW h A;rw[k1]at n;cases n;refine⟨_,p2,rfl,?_⟩;obtain⟨_,r,m,es,clock,ah,ag,X,B,C,D,v,G,M,ac,ad,af,_⟩:=s;refine⟨r,m,es,clock,ah,ag,X,B,C,J3 g m D (dk.1 v).1,v,G,M,ac,ad,λ j x e H K=>?_,by simp⟩;obtain⟨⟨ks,N,O⟩,us,Q,R⟩:=af j x e H K;exact⟨⟨_,N,O.c (J3 g)⟩,_,Q,R.c (J3 g)⟩;trivial;trivial
theorem Lj(hE:al P E)(h:aD P w0 conc st a w):{l:List (Nat×mS)}->{n:List (Nat×Option Nat)}->{S:Sc}->(xH E n l).af st=some S->∃ys,(∀r,Ci l (S.d++r)=some (ys,r))/\(∀F b,lC w conc S F b->yK conc n b->∀i d,(i,d)∈ys->d.1=0/\∃c,b i=some (0,c,true)/\fS P w b (ae b) c true d.2)/\∀i t,(i,t)∈l->∃d,(i,d)∈ys| [],n,S,m=>by cases m;exact⟨_,λ r=>rfl,by grind,by grind⟩| (k,t)::l,n,S,m=>by simp[xH]at m;have⟨G,x,y⟩:=RM.aI m;have⟨H,z,A⟩:=RM.aI y;cases A;have⟨o,B,u⟩:=Wy hE h x;have⟨ys,C,v,D⟩:=Lj hE h z;refine⟨(k,(0,o))::ys,λ r=>?_,λ F b p q i d g=>?_,λ i t' g=>?_⟩;grind[Ci,Sc.b,kg];rcases gl.1 g with e|g;cases e;exact⟨rfl,u F _ p.b q⟩;refine v F b p.c (λ j s f=>?_) i d g;rcases kq.1 f with f|f;exact q j s f;exact p.b.e j s f;grind
def gV(conc:bf)(S:Sc):=∀i id,(i,some id)∈S.c->∃cv c,conc id=some (cv,c,true)
theorem gV.c{x y}(h:gV conc x)(b:gV conc y):gV conc (x.b y):=by intro i id a;rcases kq.1 a with a|a;exact h i _ a;exact b i _ a
theorem gV.b{a b}:gV conc ⟨a,[],b⟩:=λ _ _ h=>(by cases h)
theorem Ry(h:aD P w0 conc st a w){c:lj}{x:aU}{S:Sc}(b:(wx E c x).af st=some S):gV conc S:=by
 have k:∀{i id cv:Nat}{o:fJ},Map.av st.b id=some (cv,o)->(∀c l,fS P w conc (ae conc) c l o->l=true)->gV conc ⟨[],[(i,some id)],[]⟩:=by
  intro i id cv o f q j r n
  grind[gk,pW]
 unfold wx at b;split at b
 obtain⟨d,m,g⟩:=RM.aI b;cases g;exact gV.b;obtain⟨d,m,g⟩:=RM.aI b;cases g;exact gV.b;simp only[RM.af]at b;split at b
 iterate 3
  rename_i f;obtain⟨_,e⟩:=dE b;cases e;exact k f λ _ _ h=>h.1
 trivial;cases b;intro i id n;trivial;simp only[RM.af]at b;split at b;rename_i f;obtain⟨_,e⟩:=dE b;cases e;exact k f λ _ _ h=>h.1;trivial;cases b;exact gV.b;obtain⟨p,e⟩:=dE b;cases e;exact gV.b;cases b;exact gV.b;simp only[RM.af]at b;split at b;rename_i f;obtain⟨_,e⟩:=dE b;cases e;exact k f λ _ _ h=>h.1;cases b
 trivial
theorem Bc(h:aD P w0 conc st a w):{cs:List lj}->{xs:List aU}->{S:Sc}->(sW E cs xs).af st=some S->gV conc S| [],[],S,b=>by cases b;exact gV.b| [],_::_,S,b=>by trivial|_::_,[],S,b=>by trivial|c::cs,x::xs,S,b=>by rw[sW]at b;have⟨i,d,e⟩:=RM.aI b;have⟨j,f,g⟩:=RM.aI e;cases g;exact(Ry h d).c (Bc h f)
theorem ah5(h:aD P w0 conc st a w){t S}(b:(Az E t s).af st=some S):gV conc S:=by
 unfold Az at b;split at b;obtain⟨d,g,c⟩:=RM.aI b;cases c;exact gV.b
 grind[Ry]
 grind[Bc]
 obtain⟨e,f⟩:=dE b
 grind[Bc];trivial
theorem KU(h:aD P w0 conc st a w):{l:List (Nat×ki)}->{S:Sc}->(xx E l).af st=some S->gV conc S| [],S,b=>by cases b;exact gV.b| (k,t)::l,S,b=>by simp[xx,RM.af]at b;split at b;have⟨g,c,d⟩:=RM.aI b;have⟨i,e,f⟩:=RM.aI d;cases f;exact(ah5 h c).c (KU h e);trivial
theorem agn(h:aD P w0 conc st a w){c t S}(b:(yg E c i t).af st=some S):gV conc S:=by unfold yg at b;grind[gV.b,RM.af,Bc]
theorem O2(h:aD P w0 conc st a w):{l:List (Nat×mS)}->{c:List (Nat×Option Nat)}->{S:Sc}->(xH E c l).af st=some S->gV conc S| [],c,S,b=>by cases b;exact gV.b| (k,t)::l,c,S,b=>by simp[xH]at b;have⟨i,d,e⟩:=RM.aI b;have⟨j,f,g⟩:=RM.aI e;cases g;exact(agn h d).c (O2 h f)
theorem GR(hE:al P E)(h:aD P w0 conc st a w){T:cf}{d:cR T.b}(D:ky E T st=some d):∃A,aD P w0 A (mk T d) a w/\
 ∀i v c b,A i=some (v,c,true)->dB c b->∃aG v' c',conc aG=some (v',c',true)/\dB c' b:=by
 unfold ky at D;rw[RM.sH]at D;cases Q:(Tb E T).af st with
 |none=>rw[Q]at D;cases D
 |some S=>
  rw[Q]at D;simp only[eg]at D;cases I:(Jw T S&&cr st.N T.N&&ot st.c T.c)with
  |false=>rw[I]at D;cases D
  |true=>
   rw[I]at D;simp only[cond_true]at D;have ar:=LD _ D;simp only[b2]at I;obtain⟨⟨I,O⟩,ab⟩:=I;have O:=cU O;have ab:=EW ab;unfold Jw at I;simp only[b2]at I;obtain⟨⟨aA,aB⟩,aC⟩:=I;obtain⟨x,Y,am⟩:=RM.aI Q;obtain⟨y,Z,an⟩:=RM.aI am;cases an;obtain⟨sl,ag,V⟩:=Mg hE h Y;obtain⟨aI,ah,ai,aj⟩:=Lj hE h Z;have av:mk T d= ⟨T.N,[],sl,aI,T.c⟩:=by
    unfold mk;rw[ar];simp only[Sc.b];rw[ag y.d];dsimp only;have:=ah [];rw[kp]at this;rw[this]
   rw[av]
   let F:List Nat:=aV (x.b y).f
   let A:bf:= ⟨λ i=>match Map.av (x.b y).c i with
    |some none=>some (0,.slice none 0 0,true)
    |some (some id)=>match conc id with
     |some (_,c,K)=>some (0,c,K)
     |none=>none
    |none=>none,conc.B,conc.b⟩
   have aJ:∀i id,(i,some id)∈(x.b y).c->id∉F:=by
    intro i id C ao;have:=ew.1 aC _ C;simp only[fv,ny]at this;obtain⟨q,ay,az⟩:=l8.1 ao;exact this q ay (by simp[az])
   have aK:∀i s,(i,s)∈(x.b y).c->Map.av (x.b y).c i=some s:=by
    intro i s C;cases G:Map.av (x.b y).c i with
    |none=>exact absurd C (Map.RE G s)
    |some s'=>
     have:=ew.1 (ew.1 aA _ C) _ (Map.ll G);simp only[Hz,gF,decide_true,cond_true]at this;cases s<;>cases s'<;>simp at this⊢
     exact this.symm
   have L:∀i c,A i=some (0,c,true)->c= .slice none 0 0\/∃id cv,(i,some id)∈(x.b y).c/\conc id=some (cv,c,true):=by
    intro i c z;simp only[A]at z;split at z
    cases z;exact .inl rfl;rename_i id G;split at z;rename_i cv c' K H;cases z;exact .inr ⟨id,cv,Map.ll G,H⟩;cases z;cases z
   have M:∀i v c K,A i=some (v,c,K)->v=0:=by
    intro i v c K z;simp only[A]at z;split at z
    cases z;rfl;split at z;cases z;rfl;cases z;cases z
   have aE:cM w (ae (bB conc F)) (ae A):=by
    intro b J _;refine⟨J.1,λ i v c z aa=>?_⟩;have:=M i v c true z;subst this;rcases L i c z with rfl| ⟨id,cv,C,H⟩
    cases aa;refine J.2 id cv c ?_ aa;simp[bB,H,aJ i id C]
   have ax:gV conc (x.b y):=(KU h Y).c (O2 h Z);have ac:yK conc (x.b y).c A:=by
    intro i s C;have G:=aK i s C;cases s with
    |none=>simp only[A,G]
    |some id=>
     obtain⟨cv,c,z⟩:=ax i id C;exact⟨cv,c,z,by simp only[A,G,z]⟩
   have R:lC w conc (x.b y) F A:= ⟨λ id B=>B,ac,aE,rfl⟩;have au:yK conc x.c A:=λ i s B=>ac i s (by simp only[Sc.b];exact hN _ B);refine⟨A,{g:=h.g,n:=by rw[h.n,O],m:=?_,k:=?_,q:=?_,r:=?_,t:=?_,f:=?_,e:=h.e,u:=h.u,x:=h.x,h:=h.h,l:=λ s aO=>h.l s (by grind)},λ i v c b B J=>?_⟩
   intro N s' U p hp;rw[(V F A R.b N s' (Map.ll U)).1]at hp;trivial;intro N s' U;obtain⟨W,ak,v,X,aM⟩:=V F A R.b N s' (Map.ll U);exact⟨v,X,⟨by grind,absurd (by rw[W];exact cG _)⟩⟩;intro i v o aw;obtain⟨W,c,ak,X⟩:=ai F A R.c au i (v,o) (Map.ll aw)
   grind
   intro i B;cases G:Map.av (x.b y).c i with
   |none=>grind
   |some s=>
    have:=ew.1 aB _ (Map.ll G);cases aF:Map.av T.e i with
    |none=>grind
    |some t=>
     obtain⟨aS,aP⟩:=aj i t (Map.ll aF)
     grind[absurd,Map.RE]
   intro i j aQ aR c c' b B ad J ap;have e:=M _ _ _ _ B;have af:=M _ _ _ _ ad;subst e;subst af;rcases L i c B with rfl| ⟨id,cv,C,H⟩
   trivial;rcases L j c' ad with rfl| ⟨aH,aL,aN,aq⟩;trivial;have:=h.t id aH _ _ _ _ b H aq J ap
   grind[ew,Hz,gF,decide_true,lf]
   intro i v c b B J;have e:=M _ _ _ _ B;subst e;rcases L i c B with rfl| ⟨id,cv,C,H⟩
   trivial;exact h.f _ _ c b H J;have e:=M _ _ _ _ B;subst e;rcases L i c B with rfl| ⟨id,cv,C,H⟩
   trivial
   grind
theorem Aa(hE:al P E)(h:cT P w0 st a w){T d}(c:ky E T st=some d):cT P w0 (mk T d) a w:=by have⟨conc,h⟩:=h;have⟨e,b,_⟩:=GR hE h c;exact⟨_,b⟩
end
section
variable[Dr]
variable {a:hM} {w:dr} {st:au} {n:Nat} {i:Bool} {o:ko} {r:Option Nat} {s:Nat} {Q:gw->hM->dr->Prop} {l:Nat} {x:bQ}
inductive dN where|ou (id:Nat)|sT
def dN.c:dN->gw->Bool| .ou i,.exit j=>cr i j| .sT,.ret=>true|_,_=>false
def dN.b:dN->gw| .ou i=> .exit i| .sT=> .ret
@[reducible] def iI(R:Type):List (dN×cf)->Type
 | []=>Unit
 |x::r=>(cR x.2.b->Option R)×iI R r
def kK{R:Type}(K:gw->au->Option R):(X:List (dN×cf))->iI R X| []=>()|x::r=>(λ d=>K x.1.b (mk x.2 d),kK K r)
def pB{R:Type}(E:aq):(X:List (dN×cf))->iI R X->gw->au->Option R| [],_,_,_=>none|x::r,k,e,st=>bif x.1.c e then(ky E x.2 st).bind k.1 else pB E r k.2 e st
def cq{D a R:Type}(body:D->(D->Option R)->a->Option R):Nat->D->a->Option R|0,_,_=>none|n+1,d,k=>body d (λ d=>cq body n d k) k
def la{D α a R:Type}(body:D->α->(D->Option R)->a->Option R)(k:a)(done:D->Option R):List α->D->Option R| [],d=>done d|x::r,d=>body d x (λ d=>la body k done r d) k
def mL{R:Type}(E:aq)(T:cf)(X:List (dN×cf))(again:cR T.b->Option R)(k:iI R X):gw->au->Option R| .normal,st=>(ky E T st).bind again|e,st=>pB E X k e st
def mG{R:Type}(n:Nat)(E:aq)(T:cf)(X:List (dN×cf))(body:cR T.b->(cR T.b->Option R)->iI R X->Option R):Ev R:=λ st K=>(ky E T st).bind λ d=>cq body n d (kK K X)
structure lU(s s':bC):Prop where
 k:s'.w.os=s.w.os
 f:s'.w.tape=s.w.tape
 c:eW s.w s'.w
 e:s.w.heap.size<=s'.w.heap.size
 d:∀b,b<s.w.heap.size->¬s.M b->s'.w.heap[b]?=s.w.heap[b]?
 M:∀b,s'.M b->s.M b\/(s.w.heap.size<=b/\b<s'.w.heap.size)
 B:∀b,s'.B b↔s.B b
 m:s'.e=s.e
 p:s'.d=s.d
 q:s'.f=s.f
 g:s'.b=s.b
structure jz(s s':bC):Prop where
 j:s'.w.os=s.w.os
 g:s'.w.tape=s.w.tape
 c:eW s.w s'.w
 d:s.w.heap.size<=s'.w.heap.size
 e:∀b,b<s.w.heap.size->¬s.M b->s'.w.heap[b]?=s.w.heap[b]?
 M:∀b,s'.M b->s.M b\/s.w.heap.size<=b
 q:∀b,b<s.w.heap.size->s.B b->s'.B b
 p:∀b,b<s.d->s'.B b->s.B b
 h:s'.d=s.d
 m:s'.b=s.b
theorem jz.f{a b c}(h:jz a b)(k:jz b c):jz a c where
 j:=k.j.trans h.j
 g:=k.g.trans h.g
 c:=k.c.b h.c
 d:=fu h.d k.d
 e:=λ i f o=>(k.e i (ep f h.d) λ r=>by rcases h.M i r with l|l;all_goals grind).trans (h.e i f o)
 M:=λ i f=>by rcases k.M i f with l|l;exact h.M i l;exact .inr (fu h.d l)
 q:=λ i f n=>k.q i (ep f h.d) (h.q i f n)
 p:=λ i f n=>h.p i f (k.p i (by rw[h.h];omega) n)
 h:=k.h.trans h.h
 m:=k.m.trans h.m
theorem jz.k(s):jz s s:= ⟨rfl,rfl,⟨rfl,by omega⟩,df _,λ _ _ _=>rfl,λ _ h=> .inl h,λ _ _ h=>h,λ _ _ h=>h,rfl,rfl⟩
theorem lU.h{s s'}(h:lU s s'):jz s s':= ⟨h.k,h.f,h.c,h.e,h.d,λ b a=>(h.M b a).imp id λ g=>g.1,λ b _ a=>(h.B b).2 a,λ b _ a=>(h.B b).1 a,h.p,h.g⟩
theorem lU.t(s):lU s s:= ⟨rfl,rfl,⟨rfl,by omega⟩,df _,λ _ _ _=>rfl,λ _ h=> .inl h,λ _=>Iff.rfl,rfl,rfl,rfl,rfl⟩
theorem lU.j{a b c}(h:lU a b)(k:lU b c):lU a c where
 k:=k.k.trans h.k
 f:=k.f.trans h.f
 c:=k.c.b h.c
 e:=fu h.e k.e
 d:=λ i l o=>(k.d i (ep l h.e) λ r=>by
  rcases h.M i r with j|j;all_goals grind).trans (h.d i l o)
 M:=λ i l=>by
  rcases k.M i l with j|j;rcases h.M i j with n|n
  grind
  exact .inr ⟨n.1,ep n.2 k.e⟩;exact .inr ⟨fu h.e j.1,j.2⟩
 B:=λ i=>(k.B i).trans (h.B i)
 m:=k.m.trans h.m
 p:=k.p.trans h.p
 q:=k.q.trans h.q
 g:=k.g.trans h.g
def cZ(conc:bf)(b:Nat):=∃i v c,conc i=some (v,c,true)/\dB c b
def bC.c(w0:bC)(conc:bf)(a:hM)(w:dr):bC:= ⟨w,w0.B,cZ conc,a.defers,w0.b,w0.e,w0.d⟩
variable{P:ee}{E:aq}{R:Type}
theorem aD.C{w0 conc}(h:aD P w0 conc st a w):lU w0 (w0.c conc a w) where
 k:=h.e.i
 f:=h.e.g
 c:=h.e.f
 e:=h.e.d
 d:=h.e.e
 M:=λ b⟨i,v,c,j,l⟩=>by rcases(h.f i v c b j l).1 with g|g;exact .inr ⟨g,(h.f i v c b j l).2⟩;grind
 B:=λ _=>Iff.rfl
 m:=rfl
 p:=rfl
 q:=h.g
 g:=rfl
theorem aD.y{w0 conc}(h:aD P w0 conc st a w):aD P (w0.c conc a w) conc st a w:={h with
 g:=rfl
 f:=λ i v c b h1 j=> ⟨.inr ⟨i,v,c,h1,j⟩,(h.f i v c b h1 j).2⟩
 e:= ⟨rfl,rfl,⟨rfl,λ _=>df _⟩,df _,λ _ _ _=>rfl⟩
 u:=h.u
 x:=h.x
 h:={
  i:=λ b k=>h.h.i b (fu h.e.d k)
  e:=λ b⟨i,v,c,h1,j⟩=>h.z h1 j
  f:=λ d o=>by have⟨D,e,h1,j⟩:=h.h.f d (by rw[<-h.g];trivial);have m:=(dk.1 h1).1;exact⟨D,e,(h.e.e D m λ n=>j.1 (h.h.e D n)).trans h1,j⟩
  h:=by show a.defers.Nodup;rw[h.g];exact h.h.h
  g:=fu h.h.g h.e.d}
 l:=h.l}
structure bT(R:Type)where
 c:List Ty
 d:ax c->Option R->Option R->Option R
def bT.b{R:Type}:bT R:= ⟨[],λ _ _ _=>none⟩
def tG{α:Type}(x:α)(A B:Option (List α)):=A.bind λ ys=>B.bind λ a=>match a with| []=>some (x::ys)|_::_=>none
def yY(st:au)(o:ko):Option (List fx×Nat):=match o.guard,o.op,o.dst with
 |none,.call {callee:= .value (.tmp t),args,.. },some d=>match Map.av st.a t with|some ⟨[],_,.v .ku⟩=>some (args.toList,d)|_=>none
 |_,_,_=>none
def zJ(E:aq)(H:bT R)(args:List fx)(d:Nat)(st:au)(K:au->Option R):=bif H.c.isEmpty then none else((sb [] args).aB (rl E H.c)).jT st λ x=>match cD st none (.a (some d) [] true (.v (.aE .aO true)) x.2),cD st none (.a (some d) [] true (.v (.aE .aO false)) x.2)with|some b,some c=>H.d x.1 (K b) (K c)|_,_=>none
def Eg(ops:Array ko)(st:au)(o:ko):Option (List fx×Nat×Nat×Bool×Bool):=match o.guard,o.op,o.dst with
 |some (j,want),.call {callee:= .value (.tmp t),args,.. },some d=>match(ops[j]?).bind (·.dst)with
  |some s=>match Map.av st.a s,Map.av st.a t with|some ⟨[],_,.v (.aE .aO b)⟩,some ⟨[(q,c)],_,.v .ku⟩=>bif cr q s&& (bif want then c else !c)then some (args.toList,d,s,want,b)else none|_,_=>none
  |none=>none
 |_,_,_=>none
def qe(s:Nat)(want:Bool)(p:Nat×fX):Nat×fX:=match p.2.L with| [(q,c)]=>bif cr q s&& (bif want then c else !c)then(p.1,⟨[],true,p.2.s⟩)else p|_=>p
def xK(st:au)(s:Nat)(want:Bool):au:={N:=st.N,d:=st.d,a:=(Map.jw st.a s ⟨[],true,.v (.aE .aO want)⟩).map (qe s want),b:=st.b,c:=st.c}
def GB(st:au)(s d:Nat)(want:Bool):=cD {N:=st.N,d:=st.d,a:=Map.jw st.a s ⟨[],true,.v (.aE .aO (!want))⟩,b:=st.b,c:=st.c} (some s) (.a (some d) [(s,want)] false (.v (.aE .aO false)) [])
structure Nxt where
 d:Nat
 id:Nat
 cv:Nat
 k:Ty
 v:Ty
 l:List (k.b×v.b)
def aac(st:au)(o:ko):Option Nxt:=
 match o.guard,o.op,o.dst with
 |none,.next (.tmp t) false,some d=>match Map.av st.a t with
  |some ⟨[],_,.v (.dj id ver)⟩=>match Map.av st.b id with
   |some (cv,.it k v _ l)=>bif cr cv ver then some ⟨d,id,cv,k,v,l⟩else none
   |_=>none
  |_=>none
 |_,_,_=>none
open Classical in
def aag{α:Type}(l:List α)(f:α->List α->Option R)(z:Option R):Option R:=
 match l with
 | []=>z
 |_=>if h:∃r,∀i x,l[i]?=some x->f x (l.eraseIdx i)=some r then some h.choose else none
def agp(st:au)(u:er)(K:au->Option R):Option R:=match cD st none u with
 |some st=>K st
 |none=>none
def alL(st:au)(q:Nxt)(K:au->Option R):Option R:=
 aag q.l (λ x r=>agp st ⟨some (q.d,⟨[],true,.oF [.aE .aO true,.aE q.k x.1,.aE q.v x.2]⟩),[(q.id,(q.cv,.it q.k q.v (some x) r))]⟩ K)
  (agp st ⟨some (q.d,⟨[],true,.oF [.aE .aO false]⟩),[]⟩ K)
theorem alY{α:Type}{l:List α}{f:α->List α->Option R}{z:Option R}{r:R}(h:aag l f z=some r):(l= []/\z=some r)\/(l≠[]/\∀i x,l[i]?=some x->f x (l.eraseIdx i)=some r):=by
 unfold aag at h;split at h
 exact .inl ⟨rfl,h⟩;rename_i a;split at h;rename_i b;cases h;exact .inr ⟨a,b.choose_spec⟩;cases h
theorem aor{α:Type}{l:List α}{f:α->List α->Option R}{z:Option R}{r:R}(e:l= []->z=some r)(h:∀i x,l[i]?=some x->f x (l.eraseIdx i)=some r):aag l f z=some r:=by
 unfold aag;split
 exact e rfl;rename_i c;have b:∃r,∀i x,l[i]?=some x->f x (l.eraseIdx i)=some r:= ⟨r,h⟩;rw[dif_pos b];obtain⟨x,d⟩:=List.exists_mem_of_ne_nil l c;obtain⟨i,a⟩:=nb d;exact(b.choose_spec i x a).symm.trans (h i x a)
def uJ(E:aq)(H:bT R)(ops:Array ko):List ko->au->(au->Option R)->Option R
 | [],st,K=>K st
 |o::r,st,K=>match yY st o with
  |some p=>zJ E H p.1 p.2 st λ st=>uJ E H ops r st K
  |none=>match Eg ops st o with
   |some q=>bif (bif q.2.2.2.1 then q.2.2.2.2 else !q.2.2.2.2)then zJ E H q.1 q.2.1 (xK st q.2.2.1 q.2.2.2.1) λ st=>uJ E H ops r st K
    else match GB st q.2.2.1 q.2.1 q.2.2.2.1 with
    |some st=>uJ E H ops r st K
    |none=>none
   |none=>match aac st o with
    |some q=>alL st q λ st=>uJ E H ops r st K
    |none=>Ge E ops o st λ st=>uJ E H ops r st K
def NY(E:aq)(H:bT R)(ops:Array ko)(a:Bool)(st:au)(K:au->Option R):Option R:=bif a then(bif yq 0 ops.toList then(match tA E E.N st with|some st=>Bd E ops (qo ops.toList []) ops.toList [] st λ st=>K (jO st)|none=>none)else none)else uJ E H ops ops.toList st λ st=>K (jO st)
def gP:ej->Nat
 | .seq a b=>gP a+gP b
 | .cond _ a b=>gP a+gP b
 | .block _ c| .scope c=>gP c
 | .loop _=>1
 | .rangeFunc .. =>1
 |_=>0
def dv(E:aq)(H:bT R):ej->List (Ev R)->Ev R
 | .skip,_=>λ st K=>K .normal st
 | .region _ ops d,_=>λ st K=>NY E H ops d st (K .normal)
 | .seq a b,O=>λ st K=>dv E H a (O.take (gP a)) st λ
  | .normal,st=>dv E H b (O.drop (gP a)) st K
  |e,st=>K e st
 | .cond c a b,O=>λ st K=>Oq c st (dv E H a (O.take (gP a)) st K) (dv E H b (O.drop (gP a)) st K)
 | .block id c,O=>λ st K=>dv E H c O st λ
  | .exit i,st=>bif cr i id then K .normal st else K (.exit i) st
  |e,st=>K e st
 | .loop _,O=>match O with
  | [f]=>f
  |_=>λ _ _=>none
 | .rangeFunc ..,O=>match O with
  | [f]=>f
  |_=>λ _ _=>none
 | .scope c,O=>λ st K=>dv E H c O st λ
  | .goto _,_=>none
  |e,st=>K e st
 | .label _,_=>λ st K=>K .normal st
 | .exit i,_=>λ st K=>K (.exit i) st
 | .ret,_=>λ st K=>K .ret st
 |_,_=>λ _ _=>none
def bC.g(s:bC)(w':dr):={s with w:=w',B:=λ b=>(b<s.w.heap.size/\s.B b)\/w'.heap.size<=b}
structure oB(P:ee){R:Type}(H:bT R)(i:Bool)(h:bC->R->Prop):Prop where
 d:∀s s' a,h s a->lU s s'->h s' a
 c:H.c≠[]->∀s a,h s a->s.f= []
 g:i=false->H.c= []->∃m l,∀s b,h s b↔(b=l/\jz m s)
 f:H.c≠[]->∀s a x A B k,h s a->sQ s->H.d x A B=some a->fe P s.w (λ b=>s.B b/\¬s.M b) H.c k x->
  YieldAt hZ 5 P s.e k.toArray s.w λ e w'=>Le s.B s.w w'/\∃b,e= .returned (.bool b)/\∃j,(bif b then A else B)=some j/\h (s.g w') j
def eS(P:ee){R:Type}(H:bT R)(i:Bool)(c:ej)(f:Ev R):=∀r,r.isSome=i->∀b,oB P H i b->∀K d st a w w0,f st K=some d->cT P w0 st a w->b w0 d->c.wpIn (Fr r) 7 P (λ e a' w'=>∃h g st',cT P h st' a' w'/\b h g/\K e st'=some g) a w
def nN(P:ee){R:Type}(H:bT R)(i:Bool):ej->List (Ev R)->Prop
 | .seq a b,O=>nN P H i a (O.take (gP a))/\nN P H i b (O.drop (gP a))
 | .cond _ a b,O=>nN P H i a (O.take (gP a))/\nN P H i b (O.drop (gP a))
 | .block _ c,O| .scope c,O=>nN P H i c O
 | .loop c,O=>∀f,O= [f]->eS P H i (.loop c) f
 | .rangeFunc g ps x y,O=>∀f,O= [f]->eS P H i (.rangeFunc g ps x y) f
 |_,_=>True
theorem yy{w0 a w}(hE:al P E):(l:List Nat)->{st st':au}->cT P w0 st a w->tA E l st=some st'->cT P w0 st' a w
 | [],st,st',h,b=>by cases b;exact h|n::r,st,st',h,b=>by unfold tA at b;cases f:hS 1000000 n with|false=>rw[f]at b;exact yy hE r h b|true=>
   rw[f]at b;simp[cond_true]at b;split at b
   rename_i g id ver j;split at b;rename_i cv u cells o;have⟨conc,e⟩:=h;cases c:(qu E u (.dx id ver 0)).af st with|none=>rw[c]at b;cases b|some d=>rw[c]at b;simp[eg]at b;have⟨v,p,m⟩:=e.k _ _ j;have k:bN P w conc (ae conc) (.dx id ver 0) v:=(m.b (cG _)).2;have i:=(AQ hE e c k (aV d.2) λ _ h=>h).1;exact yy hE r ⟨_,e.A i⟩ b
   exact yy hE r h b;exact yy hE r h b
theorem aaJ{w0 conc}(hE:al P E)(h:aD P w0 conc st a w){c t}(i:((c9 [] c).aB pL).af st=some t):a.eval c= .bool t:=by
 have⟨x,g,b⟩:=RM.aI i;have j:=dQ h (cG _) g;cases x<;>simp[pL]at b<;>try(cases b;done)
 rename_i u d;cases u<;>simp[pL]at b<;>try(cases b;done)
 cases b;have⟨vs,e,f⟩:=j;exact tM e f
theorem QM(hE:al P E){w0 K}{c:R}{e st a w}(g:cT P w0 st a w):(X:List (dN×cf))->pB E X (kK K X) e st=some c->∃st',cT P w0 st' a w/\K e st'=some c
 | [],h=>by cases h|x::r,h=>by simp[pB,kK]at h;cases b:x.1.c e with
  |true=>rw[b]at h;simp[cond_true]at h;cases f:ky E x.2 st with|none=>rw[f]at h;cases h|some d=>
   rw[f]at h;have j:x.1.b=e:=by cases i:x.1<;>cases e<;>simp[i,dN.c]at b<;>simp[dN.b,b]
   grind[Aa]
  |false=>rw[b]at h;exact QM hE g r h
theorem ab5{n H i}(hE:al P E){c O T X}{body:cR T.b->(cR T.b->Option R)->iI R X->Option R}(s:eS P H i c (dv E H c O))(q:∀d again k,dv E H c O (mk T d) (mL E T X again k)=body d again k):eS P H i (.loop c) (mG n E T X body):=by intro r x j p K l st a w w0 h g t;unfold mG at h;cases b:ky E T st with|none=>rw[b]at h;cases h|some d=>
 rw[b]at h;simp[eg]at h;have g:=Aa hE g b;clear b;refine wpIn_loop_rounds n ?_
 induction n generalizing d a w st w0 l with|zero=>cases h|succ n A=>rw[cq,<-q]at h;rw[roundsIn_succ];refine fl (s r x j p _ _ _ _ _ _ h g t) ?_;rintro e a' w'⟨w1,y,st',v,u,f⟩;cases e with
  |normal=>show Code.roundsIn (Fr r) 7 P c _ n a' w';simp[mL]at f;cases b:ky E T st' with|none=>rw[b]at f;cases f|some z=>grind[Aa]
  |_=>have⟨st2,m,o⟩:=QM hE v X f;exact⟨_,_,_,m,u,o⟩
theorem adu{f args tys}(c:o.op= .call {callee:= .value f,args:=args,argTypes:=tys})(b:a.eval f= .func (.yield l) #[] #[]):j1 a.eval o=p1 l (args.map a.eval):=by grind[j1,resolve,ih,invoke]
theorem UX{m f a assign body Q}(h:RoundIn hZ n P l f a assign body w Q):RoundIn (Fr r) m P l f a assign body w Q:= ⟨trivial,λ c cs _=>h.2 c _ (room_wide _)⟩
theorem Lm(hE:al P E){H r i L}(hI:oB P H i L){o:ko}{st a w w0}{t d:Nat}{g:Bool}{args:Array fx}{tys:Array mm}{K:au->Option R}{Y:R}{n:Nat}
 (ai:o.op= .call {callee:= .value (.tmp t),args:=args,argTypes:=tys}) (aB:o.dst=some d) (aL:Map.av st.a t=some ⟨[],g,.v .ku⟩) (h:zJ E H args.toList d st K=some Y) (y:cT P w0 st a w) (aF:L w0 Y) {next:hM->dr->Prop} {Q:gw->hM->dr->Prop}
 (ah:∀a' w' st' ao C,cT P ao st' a' w'->L ao C->K st'=some C->next a' w'):o.wpIn (Fr r) n P a w next Q:=by
 have⟨conc,y⟩:=y
 have⟨v,aN,aP⟩:=y.k t _ aL;have aM:v= .func (.yield conc.b) #[] #[]:=(aP.b (cG _)).2;have aC:a.eval (.tmp t)= .func (.yield conc.b) #[] #[]:=by simp[k7,aN,aM]
 unfold zJ at h;cases s:H.c.isEmpty with
 |true=>rw[s]at h;cases h
 |false=>
 rw[s]at h;simp[cond_false]at h;have s:H.c≠[]:=λ e=>by rw[e]at s;cases s
 rw[RM.sH]at h;cases V:((sb [] args.toList).aB (rl E H.c)).af st with
 |none=>rw[V]at h;cases h
 |some x=>
  rw[V]at h;simp[eg]at h;cases F:cD st none (.a (some d) [] true (.v (.aE .aO true)) x.2)with
  |none=>simp only[F]at h;cases h
  |some am=>
   cases N:cD st none (.a (some d) [] true (.v (.aE .aO false)) x.2)with
   |none=>simp only[F,N]at h;cases h
   |some an=>
    simp[F,N]at h;have⟨l,av,aw⟩:=RM.aI V;have hp:=DF hE y H.c aw (yZ y (cG _) av);have⟨ar,Z⟩:=hp (aV x.2) λ _ h=>h;obtain⟨conc1,rfl,m1,m2,aX⟩:=wG y ar;have p:=m1.y;have aR:=m1.C;have U:=hI.d _ _ _ aF aR;have az:(bB conc (aV x.2)).B=w0.B:=m1.u;have ax:fe P w (λ b=>(w0.c (bB conc (aV x.2)) a w).B b/\¬(w0.c (bB conc (aV x.2)) a w).M b) H.c (args.toList.map a.eval) x.1:=by
     have aH:∀b,ae (bB conc (aV x.2)) b↔(w0.B b/\¬cZ (bB conc (aV x.2)) b):=by
      intro b;unfold ae cZ;rw[az];refine and_congr Iff.rfl ⟨λ T⟨i,v,c,k1,j⟩=>T i v c k1 j,λ T i v c k1 j=>T ⟨i,v,c,k1,j⟩⟩
     have:ae (bB conc (aV x.2))=λ b=>w0.B b/\¬cZ (bB conc (aV x.2)) b:=funext λ b=>propext (aH b);rw[this]at Z;exact Z
    have⟨fn,aU,assign,body,X,ap⟩:=hI.f s _ _ _ _ _ _ U p.h h ax;have aQ:(w0.c (bB conc (aV x.2)) a w).e=conc.b:=by show w0.e=conc.b;rw[<-y.x]
    rw[aQ]at X ap;have aA:∀c,o.op≠ .defer c:=by intro c I;rw[ai]at I;cases I
    refine⟨λ _ _=>trivial,?_⟩;rw[Oper.semAt_eq _ _ _ aA,adu ai aC];have ay:(args.toList.map a.eval).toArray=args.map a.eval:=by grind
    rw[ay]at X;have aJ:(p1 conc.b (args.map a.eval)).run P w= .ok (.round conc.b fn aU assign body) w:=X;rw[aJ,Oper.uponIn_round];refine⟨λ e=>by trivial,(UX ap).mono ?_⟩;rintro e w'⟨J,b,rfl,C,aa,ac⟩;show next _ _
    rw[aB];have aW:(w0.c (bB conc (aV x.2)) a w).w=w:=rfl;have ad:∀b,b<w.heap.size->w0.B b->w'.heap[b]?=w.heap[b]?:=J.e
    let A:bf:= ⟨(bB conc (aV x.2)).m,λ b=>(b<w.heap.size/\w0.B b)\/w'.heap.size<=b,(bB conc (aV x.2)).b⟩
    have ag:fU (bB conc (aV x.2)) A:= ⟨rfl,λ id cv c W I=> ⟨cv,c,W,I,.inr ⟨rfl,rfl⟩⟩⟩;have aI:∀b,ae (bB conc (aV x.2)) b->b<w.heap.size->ae A b:=λ b B D=> ⟨.inl ⟨D,by have:=B.1;grind⟩,B.2⟩;have ak:fN (ae (bB conc (aV x.2))) w w':= ⟨J.d,λ b B D=>ad b D (by have:=B.1;grind)⟩;have aj:cM w (ae (bB conc (aV x.2))) (ae A):=λ b B D=>aI b B D;have aS:aD P ((w0.c (bB conc (aV x.2)) a w).g w') A {st with b:=eX st.b x.2} a w':={
     g:=rfl
     n:=p.n
     m:=p.m
     k:=λ M sl O=>by
      have⟨u,k1,j⟩:=p.k M sl O;exact⟨u,k1,λ af=> ⟨(j.b af).1,(j.b af).2.b ak aj ag⟩,j.d⟩
     q:=λ id ver aT aG=>by
      have⟨c,W,k1,j⟩:=p.q id ver aT aG;refine⟨c,W,k1,j.b ak aj ag λ aq z G=>?_⟩;subst aq;exact ad _ (p.f id ver c z k1 G).2 (m1.z k1 G)
     r:=p.r
     t:=p.t
     f:=λ i v c z k1 j=> ⟨.inr ⟨i,v,c,k1,j⟩,ep (p.f i v c z k1 j).2 J.d⟩
     e:= ⟨rfl,rfl,⟨rfl,λ _=>df _⟩,df _,λ _ _ _=>rfl⟩
     u:=rfl
     x:=m1.x
     h:={
      i:=λ z G=> .inr G
      e:=λ z⟨i,v,c,k1,j⟩=> .inl ⟨(p.f i v c z k1 j).2,m1.z k1 j⟩
      f:=λ M O=>by
       have S:(w0.c (bB conc (aV x.2)) a w).f= []:=hI.c s _ _ U;have ab:M∈(w0.c (bB conc (aV x.2)) a w).f:=O;rw[S]at ab;cases ab
      h:=by
       have S:(w0.c (bB conc (aV x.2)) a w).f= []:=hI.c s _ _ U;show(w0.c (bB conc (aV x.2)) a w).f.Nodup;rw[S];exact fR
      g:=fu p.h.g J.d}
     l:=m1.l}
    have fin:∀c s',cD st none (.a (some d) [] true (.v (.aE .aO c)) x.2)=some s'->cT P ((w0.c (bB conc (aV x.2)) a w).g w') s' (a.put (some d) (.bool c)) w':=λ c s' aK=>
     nM (W0:=x.2) (conc1:=A) aS aK (lR (conc:=A) c)
    cases b with
    |true=>exact ah _ _ am _ C (fin true am F) ac (by simpa using aa)
    |false=>exact ah _ _ an _ C (fin false an N) ac (by simpa using aa)
theorem ZD(hE:al P E){H b}(hI:oB P H i b){w0 p K}{c:R}(k:yY st o=some p)(h:zJ E H p.1 p.2 st K=some c)(g:cT P w0 st a w)(f:b w0 c){next}(j:∀a' w' st' e d,cT P e st' a' w'->b e d->K st'=some d->next a' w'):o.wpIn (Fr r) n P a w next Q:=by grind[yY,Lm]
theorem abu{ops l d want b}(h:Eg ops st o=some (l,d,s,want,b)):∃j t args tys g a,o.guard=some (j,want)/\o.op= .call {callee:= .value (.tmp t),args:=args,argTypes:=tys}/\o.dst=some d/\l=args.toList/\(ops[j]?).bind (·.dst)=some s/\Map.av st.a s=some ⟨[],g,.v (.aE .aO b)⟩/\Map.av st.a t=some ⟨[(s,want)],a,.v .ku⟩:=by grind[Eg,cr,cU]
theorem ad1(s)(want)(p):(qe s want p).1=p.1:=by grind[qe,cr]
theorem CX(s)(want):∀l k,Map.av (l.map (qe s want)) k=(Map.av l k).map λ sl=>(qe s want (k,sl)).2| [],_=>rfl| (k',v)::r,k=>by simp[lk];have a:=ad1 s want (k',v);obtain⟨b,v2,hp⟩:∃b v2,qe s want (k',v)=(b,v2):= ⟨_,_,rfl⟩;rw[hp]at a⊢;simp at a;subst a;simp[Map.av];cases c:cr _ k with|true=>simp_all|false=>exact CX s _ r k
theorem LW{want k sl}:(qe s want (k,sl)).2=sl\/(sl.L= [(s,want)]/\(qe s want (k,sl)).2= ⟨[],true,sl.s⟩):=by grind[qe,cr,cU]
theorem R9{w0 conc}(f:aD P w0 conc st a w){c g}(i:Map.av st.a s=some ⟨[],g,x⟩)(hc:a.tmps[s]?=some (.bool c)):aD P w0 conc {N:=st.N,d:=st.d,a:=Map.jw st.a s ⟨[],true,.v (.aE .aO c)⟩,b:=st.b,c:=st.c} a w:={f with
 m:=λ k sl e=>by simp[Map.lq]at e;split at e;grind;exact f.m k _ e
 k:=λ k sl e=>by simp[Map.lq]at e;split at e;rename_i h;subst h;cases e;exact⟨_,hc,λ _=> ⟨rfl,lR (conc:=conc) c⟩,absurd (cG _)⟩;exact f.k k _ e}
theorem Yh{w0 conc}(n:aD P w0 conc st a w){c g}(o:Map.av st.a s=some ⟨[],g,x⟩)(j:a.tmps[s]?=some (.bool c)):aD P w0 conc (xK st s c) a w:=by have h:=R9 n o j;exact{h with
 m:=λ k sl b=>by
  simp[xK,CX,lv]at b;obtain⟨d,h0,rfl⟩:=b;rcases LW (s:=s) (want:=c) (k:=k) (sl:=d)with e| ⟨_,e⟩
  rw[e];exact h.m k _ h0;grind
 k:=λ k sl b=>by
  simp[xK,CX,lv]at b;obtain⟨d,h0,rfl⟩:=b;have⟨v,g1,i⟩:=h.k k d h0;refine⟨v,g1,?_⟩;rcases LW (s:=s) (want:=c) (k:=k) (sl:=d)with e| ⟨f,e⟩
  grind
  rw[e];have l:eO a.tmps d.L:=by
   rw[f];intro p hp
   grind
  exact⟨λ _=> ⟨rfl,(i.b l).2⟩,absurd (cG _)⟩}
theorem amQ{l:List kL}{i:Nat}{e:kL}(f:(l.map (·.born)).Nodup)(b:l[i]?=some e):l.filter (λ x=>!(x.born==e.born))=l.eraseIdx i:=by
 induction l generalizing i with
 |nil=>rfl
 |cons x r j=>
  obtain⟨a,d⟩:=gf.1 f;cases i with
  |zero=>
   cases b;rw[nV];simp only[beq_self_eq_true,lf,fb,if_false,List.eraseIdx_cons_zero];exact List.filter_eq_self.2 λ y h=>by
    have:y.born≠e.born:=λ q=>a (l8.2 ⟨y,h,q⟩);simpa using this
  |succ i=>
   have c:r[i]?=some e:=b;have g:x.born≠e.born:=λ q=>a (l8.2 ⟨e,List.mem_of_getElem? c,q.symm⟩);rw[nV,if_pos (by simpa using g),j d c];rfl
theorem amz(es:Array kL)(a:Array Nat)(b:Nat):(jA es (a.push b)).toList=(jA es a).toList.filter (λ x=>!(x.born==b)):=by
 unfold jA;rw[hR,hR,List.filter_filter];congr 1;funext x;rw[Array.contains_push];cases a.contains x.born<;>cases(x.born==b)<;>rfl
theorem alz{es:Array kL}{c:Nat}(h:x4 es c)(a:Array Nat):((jA es a).toList.map (·.born)).Nodup:=by
 unfold jA;rw[hR];exact(List.filter_sublist.map _).nodup h.1
theorem ani{st:au}{a:hM}{w:dr}{w0:bC}{o:ko}{q:Nxt}{K:au->Option R}{ab:R}(z:aac st o=some q)(h:alL st q K=some ab)(C:cT P w0 st a w):
 o.guard=none/\∀(next:hM->dr->Prop)(Q:gw->hM->dr->Prop),(∀a' w' st',cT P w0 st' a' w'->K st'=some ab->next a' w')->o.wp P a w next Q:=by
 unfold aac at z;split at z
 ·rename_i t d aF al ag;split at z
  ·rename_i g id ver Z;split at z
   ·rename_i cv k v y l aI;have N:=z;clear z;cases G:cr cv ver with
    |false=>rw[G]at N;cases N
    |true=>
    rw[G,cond_true]at N;have:=cU G;subst this;cases N;refine⟨aF,λ next Q ak=>?_⟩
    obtain⟨conc,C⟩:=C;obtain⟨x,aN,aP⟩:=C.k t _ Z;have aL:bN P w conc (ae conc) (.dj id cv) x:=(aP.b (cG _)).2;have J:a.eval (.tmp t)=x:=by simp[k7,aN]
    obtain⟨c,aR,k1,aQ,ad⟩:=sR C aI aL;obtain⟨rfl,r,m,es,clock,A,p,ac,T,aa,aT,F,U,aU,an,aV,ao,a6⟩:=aQ
    have J:a.eval (.tmp t)= .pointer (some ⟨r,0,none⟩):=by rw[J,<-T];first|exact ad|exact ad.symm
    rcases run_next_at (P:=P) w o.type r m A ac p es clock aa F U.2 aU with⟨h0,Y⟩|⟨e,ah,w1,I,Y⟩
    have aG:l= []:=List.eq_nil_of_length_eq_zero (by omega);rcases alY h with⟨_,n⟩|⟨n,_⟩;unfold agp at n;split at n;rename_i V W;refine cz.b (w':=w) (v:= .tuple #[.bool false]) (by simp only[j1,al,J];rw[ef,Y];rfl) ?_ next Q λ a' w' X=>ak a' w' V X n
    rw[ag];exact nM (W0:= []) C W ⟨_,rfl,⟨_,rfl,rfl⟩,trivial⟩;cases n;exact absurd aG n;obtain⟨i,L⟩:=nb ah;have ai:i<l.length:=by
     have:=(eo.1 L).1;rw[hQ]at this;omega
    have aj:l[i]?=some l[i]:=eL ai;rcases alY h with⟨n,_⟩|⟨_,n⟩;exact absurd ai (by rw[show l= [] from n];simp)
    replace n:=n i _ aj;unfold agp at n;split at n
    rename_i V W;refine cz.b (v:= .tuple #[.bool true,e.key,e.val]) (w':=ei w1 r (.mapIter (some m) A (p.push e.born) clock)) (by simp only[j1,al,J];rw[ef,Y];rfl) ?_ next Q λ a' w' X=>ak a' w' V X n
    have aB:(jA es p)[i]?=some e:=by simpa using L
    obtain⟨⟨ks,ap,aq⟩,us,ar,av⟩:=ao i _ e aj aB;have B:r<w.heap.size:=(dk.1 aa).1;have O:w1.heap=w.heap:=by rcases I with rfl|rfl<;>rfl
    have aH:m≠r:=λ q=>by rw[q,aa]at F;cases F
    have am:∀b,b≠r->(ei w1 r (.mapIter (some m) A (p.push e.born) clock)).heap[b]?=w.heap[b]?:=λ b u=>by simp[ei,O,Ne.symm u]
    have aK:(ei w1 r (.mapIter (some m) A (p.push e.born) clock)).heap[r]?=some (.mapIter (some m) A (p.push e.born) clock):=by simp[ei,O,B]
    have aC:e∈es.toList:=by
     have:e∈jA es p:=by simpa using ah
     unfold jA at this;simp at this;simpa using this.1
    have aA:∀b,dB c b->b=r:=λ b u=>by rw[T]at u;exact(by first|exact u|exact u.symm|(cases u;rfl))
    have aJ:eW w (ei w1 r (.mapIter (some m) A (p.push e.born) clock)):=by
     rcases I with rfl|rfl;exact⟨rfl,λ _=>df _⟩;exact⟨rfl,(eW.f w).e⟩
    obtain⟨ay,a0,a8,a9,aw,ax⟩:=C.I (id:=id) (ver:=cv) (c:=c) (o:= .it k v (some l[i]) (l.eraseIdx i)) (w':=ei w1 r (.mapIter (some m) A (p.push e.born) clock)) (λ a2 ac aR af=>by rw[k1]at af;cases af;exact .inr ⟨rfl,rfl⟩)
     (by rcases I with rfl|rfl<;>rfl) (by rcases I with rfl|rfl<;>rfl) aJ (by simp[ei,O])
     (λ b u az=>am b λ q=>az cv c k1 (by rw[T,q];rfl)) (λ b u=> ⟨.inr ⟨cv,c,k1,u⟩,by rw[aA b u];simp[ei,O];exact B⟩)
     (λ a1 G a3 H D a4=>by
      refine⟨rfl,r,m,es,clock,A,p.push e.born,clock,T,aK,D m aT (dk.1 F).1,(am m aH).trans F,U,an,an,?_,λ j x f M aD=>?_,λ x aM=>?_⟩;rw[<-hQ,amz,amQ (alz U p) L,mZ,mZ,hQ,aV];have E:(jA es (p.push e.born)).toList[j]?=some f:=by simpa using aD
      rw[amz,amQ (alz U p) L,ma]at E;rw[ma]at M;have key:∃S:Nat,l[S]?=some x/\(jA es p)[S]?=some f:=by
       split at M;rename_i B;rw[if_pos B]at E;exact⟨j,M,by simpa using E⟩;rename_i B;rw[if_neg B]at E;exact⟨j+1,M,by simpa using E⟩
      obtain⟨S,aS,p2⟩:=key;obtain⟨⟨a5,aW,aX⟩,a7,aY,aZ⟩:=ao S x f aS p2;exact⟨⟨_,aW,aX.b k H D⟩,_,aY,aZ.b v H D⟩;cases aM;exact⟨rfl,e,aC,p,rfl,⟨_,ap,aq.b k H D⟩,_,ar,av.b v H D⟩)
    have Z:=nM (st:=st) (W0:= [(id,(cv,.it k v (some l[i]) (l.eraseIdx i)))]) (d:=some d) (s:= .oF [.aE .aO true,.aE k l[i].1,.aE v l[i].2]) (st':=V) (v:= .tuple #[.bool true,e.key,e.val]) (conc1:=ay) (a:=a) (w0:=w0) (P:=P) a0 W ⟨[.bool true,e.key,e.val],rfl,⟨_,rfl,rfl⟩,⟨_,ap,aq.b k aw ax⟩,⟨_,ar,av.b v aw ax⟩,trivial⟩;rw[ag];exact Z;cases n
   ·cases z
  ·cases z
 ·cases z
theorem am2{st:au}{o:ko}{q:Nxt}(h:aac st o=some q):∀c,o.op≠ .defer c:=by
 intro c a;unfold aac at h;rw[a]at h;split at h
 rename_i e _;cases e;cases h
theorem wU(hE:al P E){H:bT R}{r:Option Nat}{i:Bool}{I:bC->R->Prop}(hI:oB P H i I){ops:Array ko}{K:au->Option R}{n:Nat}{Q:gw->hM->dr->Prop}:
 ∀(x:List Nat)(l:List ko),x.map (λ i=>ops[i]?)=l.map some->∀{st:au}{a:hM}{w:dr}{w0:bC}{B:R},uJ E H ops l st K=some B->cT P w0 st a w->I w0 B->
  (∀a' w' st' G C,cT P G st' a' w'->I G C->K st'=some C->Q .normal a' w')->kH (Fr r) n P ops Q x a w
 | [],l,z,st,a,w,w0,B,h,c,f,k=>by
  have:l= []:=by simp_all
  subst this;exact k a w _ _ _ c f h
 |i::x,l,z,st,a,w,w0,B,h,c,f,k=>by
  cases l with
  |nil=>trivial
  |cons o l=>
   simp only[lk,List.cons.injEq]at z;obtain⟨aa,y⟩:=z;simp only[uJ]at h;simp only[kH,aa];cases T:yY st o with
   |some p=>
    rw[T]at h;dsimp only at h;have e:eH o (kV ops a.tmps)=true:=by
     grind[yY,eH]
    simp only[e,if_true];exact ZD hE hI T h c f λ a' w' st' G C u N m=>wU hE hI _ l y m u N k
   |none=>
    rw[T]at h;cases J:Eg ops st o with
    |some q=>
     obtain⟨l',d,s,want,b⟩:=q;rw[J]at h;dsimp only at h;obtain⟨j,t,args,tys,g,ai,V,ac,U,rfl,A,O,aj⟩:=abu J;obtain⟨conc,c⟩:=c;obtain⟨v,S,ae⟩:=c.k s _ O;obtain⟨us,Y,Z⟩:=(ae.b (cG _)).2;have af:=tM Y Z;subst af;have e:eH o (kV ops a.tmps)=(some b==some want):=by
      grind[eH,kV]
     cases L:(bif want then b else !b)with
     |true=>
      have M:b=want:=by grind
      subst M;rw[L]at h;simp only[cond_true]at h;rw[e];simp only[BEq.rfl,if_true];have ad:Map.av (xK st s b).a t=some ⟨[],true,.v .ku⟩:=by
       grind[xK,CX,Map.lq,qe,gF]
      exact Lm hE hI ac U ad h ⟨_,Yh c O S⟩ f λ a' w' st' G C u N m=>wU hE hI _ l y m u N k
     |false=>
      rw[L]at h;simp only[cond_false]at h;have M:b=!want:=by cases want<;>cases b<;>first|rfl|cases L
      subst M;have ag:eH o (kV ops a.tmps)=false:=by rw[e];cases want<;>rfl
      rw[ag];simp only[fb,if_false];cases F:GB st s d want with
      |none=>rw[F]at h;cases h
      |some X=>
       rw[F]at h;dsimp only at h;have m:=R9 c O S;have ab:cT P w0 X (a.put o.dst kR) w:=by
        rw[U];unfold GB at F;refine uO (W0:= []) m (cm.h w) rfl F (λ p hp=>?_) ⟨λ z=>?_,λ _=>rfl⟩
        simp only[gk]at hp;subst hp;exact .inl rfl;have:=z (s,want) gg;dsimp only at this;rw[S]at this;cases want<;>cases this
       exact⟨λ _ _=>trivial,wU hE hI x l y h ab f k⟩
    |none=>
    rw[J]at h;dsimp only at h;cases D:aac st o with
    |some q=>
     rw[D]at h;dsimp only at h;obtain⟨V,ah⟩:=ani D h c;have e:eH o (kV ops a.tmps)=true:=by simp[eH,V]
     rw[e];simp only[if_true];exact H7 (am2 D) (ah _ Q λ a' w' st' u m=>wU hE hI x l y m u f k)
    |none=>
    rw[D]at h;dsimp only at h;rw[aey]at h;cases A:tS E ops o st with
    |none=>rw[A]at h;cases h
    |some X=>
     rw[A]at h;simp only[eg]at h;have W:=aeQ hE c A;cases e:eH o (kV ops a.tmps)with
     |true=>
      simp only[if_true];exact H7 (Xc A) (W.1 e _ Q λ a' w' u=>wU hE hI x l y h u f k)
     |false=>
      simp only[fb,if_false];exact⟨λ _ _=>trivial,wU hE hI x l y h (W.2 e) f k⟩
theorem TV{P:ee}{b:Frame}{a:hM}{k:List Item}{cs:List Frame}{w:dr}{c:ej}:step P (lone (b.atR a (.code (.scope c)::k)) cs w)= .next (lone (b.atR a (.code c:: .inScope c::k)) cs w):=
 step_lone_go (by simp[stepG,p6,qq])
theorem anG{P:ee}{b:Frame}{a:hM}{k:List Item}{cs:List Frame}{w:dr}{c:ej}:step P (lone (b.atR a (.inScope c::k)) cs w)= .next (lone (b.atR a k) cs w):=
 step_lone_go (by simp[stepG,p6,qq])
theorem aoN{F:Fence}{n:Nat}{P:ee}{Q:gw->hM->dr->Prop}{a:hM}{w:dr}{c:ej}(h:c.wpIn F n P (λ e a w=>match e with|.goto _=>False|e=>Q e a w) a w):(Code.scope c).wpIn F n P Q a w:=by
 intro b k cs t i m;have h0:(lone (b.atR a (.code (.scope c)::k)) cs w).fenced P F:=fenced_calm i m rfl;obtain⟨e,g,w₁,f,d⟩:=h b (.inScope c::k) cs t i m;cases e with
 |normal=>exact⟨.normal,g,w₁,f,.head h0 TV (StepsIn.trans d (.one (fenced_calm i m rfl) anG))⟩
 |exit o=>
  have p:exitTo o (.inScope c::k)=exitTo o k:=by simp[exitTo]
  exact⟨.exit o,g,w₁,f,λ k' j=> .head h0 TV (d.1 k' (by rw[p];exact j)),λ s j=>let⟨u,q,r⟩:=d.2 s (by rw[p];exact j); ⟨u,q,.head h0 TV r⟩⟩
 |goto l=>exact f.elim
 |ret=>exact⟨_,g,w₁,f,.of_steps (.one h0 TV) d⟩
 |panic v=>exact⟨_,g,w₁,f,.of_steps (.one h0 TV) d⟩
 |outgrown=>exact⟨_,g,w₁,f,.of_steps (.one h0 TV) d⟩
theorem ji(hE:al P E)(A:P.follows .mixedOrders=true){H:bT R}{i:Bool}:(c:ej)->(O:List (Ev R))->nN P H i c O->eS P H i c (dv E H c O)
 | .skip,O,_=>λ r _ m j K n st a w w0 h b d=>wpIn_skip ⟨w0,n,st,b,d,h⟩
 | .ret,O,_=>λ r _ m j K n st a w w0 h b d=>wpIn_ret ⟨w0,n,st,b,d,h⟩
 | .exit i,O,_=>λ r _ m j K n st a w w0 h b d=>wpIn_exit ⟨w0,n,st,b,d,h⟩
 | .seq x y,O,q=>λ r p m j K n st a w w0 h b d=>by
  simp only[dv]at h;refine o0 (fl (ji hE A x _ q.1 r p m j _ _ _ _ _ _ h b d) ?_);rintro e a' w'⟨w1,z,st',u,v,s⟩;cases e with
  |normal=>exact ji hE A y _ q.2 r p m j _ _ _ _ _ _ s u v
  |_=>exact⟨w1,z,st',u,v,s⟩
 | .cond c x y,O,q=>λ r p m j K n st a w w0 h b d=>by
  simp only[dv,Oq,RM.sH]at h;cases J:((c9 [] c).aB pL).af st with
  |none=>rw[J]at h;cases h
  |some t=>
   rw[J]at h;simp only[eg]at h;obtain⟨conc,C⟩:=b;have U:=aaJ hE C J;refine wpIn_cond U ?_;cases t with
   |true=>exact ji hE A x _ q.1 r p m j _ _ _ _ _ _ h ⟨conc,C⟩ d
   |false=>exact ji hE A y _ q.2 r p m j _ _ _ _ _ _ h ⟨conc,C⟩ d
 | .block id c,O,q=>λ r p m j K n st a w w0 h b d=>by
  simp only[dv]at h;refine wpIn_block (fl (ji hE A c _ q r p m j _ _ _ _ _ _ h b d) ?_);rintro e a' w'⟨w1,z,st',u,v,s⟩;cases e with
  |exit i=>
   simp only[gF]at s;by_cases D:i=id
   simp only[D,decide_true,cond_true]at s;simp only[l9,D,if_true];exact⟨w1,z,st',u,v,s⟩;simp only[D,decide_false,cond_false]at s;simp only[l9,D,if_false];exact⟨w1,z,st',u,v,s⟩
  |_=>exact⟨w1,z,st',u,v,s⟩
 | .loop c,O,q=>λ r p m j K n st a w w0 h b d=>by
  cases O with
  |nil=>cases h
  |cons f O=>
   cases O with
   |nil=>exact q f rfl r p m j K n st a w w0 h b d
   |cons _ _=>cases h
 | .rangeFunc g ps x y,O,q=>λ r p m j K n st a w w0 h b d=>by
  cases O with
  |nil=>cases h
  |cons f O=>
   cases O with
   |nil=>exact q f rfl r p m j K n st a w w0 h b d
   |cons _ _=>cases h
 | .region id ops N,O,_=>λ r p m j K n st a w w0 h b d=>by
  simp only[dv,NY]at h;cases N with
  |false=>
   simp only[cond_false]at h;exact wpIn_region (wU hE j _ _ (ahz ops) h b d λ a' w' st' W z u v I=> ⟨W,z,_,LM u,v,I⟩)
  |true=>
   simp only[cond_true]at h;cases G:yq 0 ops.toList with
   |false=>rw[G]at h;cases h
   |true=>
    rw[G]at h;simp only[cond_true]at h;split at h
    rotate_left
    cases h
    rename_i M L;have b:=yy hE _ b L;clear L;obtain⟨T,st2,Z,Q,S,aa⟩:=Ln ops.toList [] M (λ k o I=>by simpa using I) h;obtain⟨ad,X,Y⟩:=Sl ops.toList [];have V:cT P w0 M a {w with drawn:=w.drawn+1}:=by
     obtain⟨conc,C⟩:=b;exact⟨_,C.D (cm.k w)⟩
    let F:Nat->FP:=λ i=>T.getD i ⟨[],[]⟩
    have ac:=S F (λ k g ab=>by grind);refine wpIn_region_any A ?_;refine T9 hE (F:=F) (B:=λ i=>(qo ops.toList []).getD i 0) (st2:=st2) ?_ ?_ ?_ (λ a' w' u=> ⟨_,_,_,LM u,d,Q⟩) _ _ (iA ops.size) (by simp) (List.pairwise_lt_range) (by simp) ?_ ?_ V ?_
    grind
    intro i o q;have:=SJ ops.toList 0 G i o (by grind)
    grind
    grind
    all_goals simp_all[Array.getD,absurd,nc]
 | .scope c,O,q=>λ r p m j K n st a w w0 h b d=>by
  simp only[dv]at h;refine aoN (fl (ji hE A c _ q r p m j _ _ _ _ _ _ h b d) ?_);rintro e a' w'⟨w1,z,st',u,v,s⟩;cases e with
  |goto l=>cases s
  |_=>exact⟨w1,z,st',u,v,s⟩
 | .label _,O,_=>λ r _ m j K n st a w w0 h b d=>wpIn_label ⟨w0,n,st,b,d,h⟩
 | .goto _,O,_=>λ r p m j K n st a w w0 h b d=>by cases h
 | .refuse _,O,_=>λ r p m j K n st a w w0 h b d=>by cases h
end
section
variable[Dr]
variable{P:ee}{E:aq}{R:Type}
variable {w:dr} {A S:Nat->Prop} {W:dr} {T:cf} {K:gw->au->Option R} {F:List Nat}
def A9:List Nat->(es:List Ty)->ax es->List (Nat×fX)->List (Nat×fX)| [p],[e],x,m=>Map.jw m p ⟨[],true,.v (.aE e x)⟩|p::q::ps,e::u::es,(x,y),m=>A9 (q::ps) (u::es) y (Map.jw m p ⟨[],true,.v (.aE e x)⟩)|_,_,_,m=>m
def oz(F:List Nat)(st:au):au:={N:=st.N,d:= [],a:=st.a.filter λ p=>F.any (cr p.1),b:=st.b,c:= []}
def yO(T:cf)(F ps:List Nat)(es:List Ty)(d:cR T.b)(x:ax es):au:={N:=T.N,d:= [],a:=A9 ps es x (mk T d).a,b:=(mk T d).b,c:=F}
def wR(E:aq)(T:cf)(F:List Nat)(X:List (dN×cf))(again:cR T.b->Option R)(k:iI R X):gw->au->Option R| .normal,st=>bif ot st.c F&&cr st.N T.N then(ky E T (oz F (jO st))).bind again else none|e,st=>bif ot st.c F&&cr st.N T.N then pB E X k e (oz F (jO st))else none
def tH(K:au->Option R):gw->au->Option R| .normal,st=>K st|_,_=>none
theorem qw(d):(mk T d).N=T.N/\(mk T d).d= []/\(mk T d).c=T.c:=by grind[mk]
theorem aca{α}(F:List Nat)(m:List (Nat×α))(k):Map.av (m.filter λ p=>F.any (cr p.1)) k=if F.any (cr k)then Map.av m k else none:=Map.afw (λ n=>F.any _) m k
theorem aD.G{s s' conc st st' a a' w w'}(h:aD P s conc st a w)(y)(O:st'.N=st.N)(E:∀d sl,Map.av st'.a d=some sl->Map.av st.a d=some sl/\sl.L= []/\a'.tmps[d]?=a.tmps[d]?)(C:∀id,Map.av st'.b id=Map.av st.b id)(Z:a'.tmps.size=a.tmps.size)(S:a'.defers=s'.f)(T:∀d∈st'.c,a'.tmps[d]?=s'.b[d]?)(I:w.heap.size<=w'.heap.size)(G:∀b,b<w.heap.size->conc.B b->w'.heap[b]?=w.heap[b]?)(N:∀b,b<w.heap.size->conc.B b->y b)(X:s'.w=w')(V:s'.B=y)(W:∀b,cZ conc b->s'.M b)(Y:s'.e=s.e)(Q:sQ s'):aD P s' ⟨conc.m,y,conc.b⟩ st' a' w':=by have D:fU conc ⟨conc.m,y,conc.b⟩:= ⟨rfl,λ id cv c ow R=> ⟨cv,c,ow,R,.inr ⟨rfl,rfl⟩⟩⟩;have J:fN (ae conc) w w':= ⟨I,λ b j A=>G b A j.1⟩;have H:cM w (ae conc) (ae ⟨conc.m,y,conc.b⟩):=λ b j A=> ⟨N b A j.1,j.2⟩;exact{
 g:=S
 n:=by rw[Z,O];exact h.n
 m:=λ d sl z p hp=>by have:=(E d sl z).2.1;rw[this]at hp;cases hp
 k:=λ d sl z=>by have⟨L,g2,M⟩:=E d sl z;have⟨v,k1,B⟩:=h.k d sl L;refine⟨v,M.trans k1,λ _=>?_,λ U=>absurd (by grind[cG]) U⟩;have:=B.b (by grind[cG]);exact⟨this.1,this.2.b J H D⟩
 q:=λ id ver o F=>by rw[C]at F;have⟨c,ow,k1,B⟩:=h.q id ver o F;refine⟨c,ow,k1,B.b J H D λ K b j=>?_⟩;subst K;exact G b (h.f id ver c b k1 j).2 (by rw[h.u];exact h.z k1 j)
 r:=λ id z=>h.r id (by rw[<-C];exact z)
 t:=h.t
 f:=λ i v c b hi j=> ⟨.inr (W b ⟨i,v,c,hi,j⟩),ep (h.f i v c b hi j).2 I⟩
 e:=by rw[<-X];exact⟨rfl,rfl,⟨rfl,λ _=>df _⟩,df _,λ _ _ _=>rfl⟩
 u:=V.symm
 x:=h.x.trans Y.symm
 h:=Q
 l:=T}
theorem aD.H{s s' conc st a w w'}(h:aD P s conc st a w)(p)(E:w.heap.size<=w'.heap.size)(D:∀b,b<w.heap.size->conc.B b->w'.heap[b]?=w.heap[b]?)(H:∀b,b<w.heap.size->conc.B b->p b)(Q:s'.w=w')(N:s'.B=p)(O:∀b,cZ conc b->s'.M b)(R:s'.e=s.e)(L:a.defers=s'.f)(S:s'.b=s.b)(I:sQ s'):aD P s' ⟨conc.m,p,conc.b⟩ st a w':=by have C:fU conc ⟨conc.m,p,conc.b⟩:= ⟨rfl,λ id cv c ow J=> ⟨cv,c,ow,J,.inr ⟨rfl,rfl⟩⟩⟩;have F:fN (ae conc) w w':= ⟨E,λ b j A=>D b A j.1⟩;have z:cM w (ae conc) (ae ⟨conc.m,p,conc.b⟩):=λ b j A=> ⟨H b A j.1,j.2⟩;exact{
 g:=L
 n:=h.n
 m:=h.m
 k:=λ d sl K=>by have⟨v,k1,y⟩:=h.k d sl K;exact⟨v,k1,λ B=> ⟨(y.b B).1,(y.b B).2.b F z C⟩,y.d⟩
 q:=λ id ver o M=>by have⟨c,ow,k1,y⟩:=h.q id ver o M;refine⟨c,ow,k1,y.b F z C λ G b j=>?_⟩;subst G;exact D b (h.f id _ c b k1 j).2 (by rw[h.u];exact h.z k1 j)
 r:=h.r
 t:=h.t
 f:=λ i v c b hi j=> ⟨.inr (O b ⟨i,v,c,hi,j⟩),ep (h.f i v c b hi j).2 E⟩
 e:=by rw[<-Q];exact⟨rfl,rfl,⟨rfl,λ _=>df _⟩,df _,λ _ _ _=>rfl⟩
 u:=N.symm
 x:=h.x.trans R.symm
 h:=I
 l:=λ s z=>by rw[S];exact h.l s z}
structure iE(P:ee)(w0:bC)(wb:dr)(D l:Nat)(own0:Nat->Prop)(a:hM)(fn:hB)(ps:Array Tmp)(ca cb:ej)(stt:hh)(pe:Option ej)(A S:Nat->Prop)(conc:bf)(st:au)(W:dr):Prop where
 c:aD P ⟨W,λ b=>(b<wb.heap.size/\w0.B b)\/((wb.heap.size<=b/\b≠D/\b≠l)/\¬S b),cZ conc,a.defers,a.tmps,w0.e,w0.d⟩ conc st a W
 m:wb.heap.size<=D/\wb.heap.size<=l/\D≠l
 g:W.heap[l]?=some (.loop {state:=stt,pending:=pe,fn,tmps:=a.tmps,params:=ps,assign:=ca,body:=cb,defers:=D})
 n:W.heap[D]?=some (.deferred (some []))
 p:W.os=wb.os
 i:W.tape=wb.tape
 d:eW wb W
 f:D<W.heap.size/\l<W.heap.size
 h:∀b,b<wb.heap.size->¬own0 b->W.heap[b]?=wb.heap[b]?
 j:∀b,cZ conc b->own0 b\/(wb.heap.size<=b/\b≠D/\b≠l)
 e:∀b,cZ conc b->¬A b
 o:∀b,S b->A b
 k:∀b,A b->(wb.heap.size<=b/\b≠D/\b≠l)/\b<W.heap.size
section
variable{w0:bC}{wb:dr}{D l:Nat}{own0:Nat->Prop}{a:hM}{fn:hB}{ps:Array Tmp}{ca cb:ej}{stt:hh}{pe:Option ej}{conc:bf}{st:au}
theorem iE.r{A' t z}(h:iE P w0 wb D l own0 a fn ps ca cb stt pe A S conc st W)(R:st.d= []/\∀d sl,Map.av st.a d=some sl->sl.L= [])(Q:st.c= [])(r:wm A S W A' t z)(K:∀d∈a.defers,∃D,d={target:= .collected D,args:= #[]}/\wb.heap[D]?=some (.deferred (some []))/\¬own0 D/\¬w0.B D/\w0.d<=D):∃B,B.m=conc.m/\iE P w0 wb D l own0 a fn ps ca cb stt pe A' t B st z:=by
 have L:=h.m;have T:=h.f;have N:=r.f;have O:∀b,b<wb.heap.size\/b=D\/b=l->¬S b:=λ b q s=>by have:=(h.k b (h.o b s)).1;omega
 have H:conc.B=λ b=>(b<wb.heap.size/\w0.B b)\/((wb.heap.size<=b/\b≠D/\b≠l)/\¬S b):=h.c.u;have I:∀b,conc.B b->¬S b:=λ b q=>by grind
 have C:∀b,b<W.heap.size->conc.B b->(b<wb.heap.size/\w0.B b)\/((wb.heap.size<=b/\b≠D/\b≠l)/\¬t b):=λ b w q=>by
  rw[H]at q;obtain q| ⟨h1,h2⟩:=q
  grind
  refine .inr ⟨h1,λ s=>?_⟩;rcases r.k b s with E|E
  all_goals grind
 have x:∀b,b<wb.heap.size\/b=D\/b=l->z.heap[b]?=W.heap[b]?:=λ b q=>r.d b (by omega) (O b q);refine⟨⟨conc.m,λ b=>(b<wb.heap.size/\w0.B b)\/((wb.heap.size<=b/\b≠D/\b≠l)/\¬t b),conc.b⟩,rfl,?_⟩;refine{
  c:=h.c.G _ rfl (by grind) (λ _=>rfl) rfl rfl (by grind) N (λ b w q=>r.d b w (I b q)) C rfl rfl (λ b q=>q) rfl ?_
  m:=L
  g:=(x _ (by omega)).trans h.g
  n:=(x _ (by omega)).trans h.n
  p:=r.l.trans h.p
  i:=r.g.trans h.i
  d:=r.e.b h.d
  f:=by omega
  h:=λ b q M=>(x b (by omega)).trans (h.h b q M)
  j:=h.j
  e:=λ b q G=>by
   rcases r.j b G with h1|h1;exact h.e b q h1;obtain⟨i,v,c,g1,u⟩:=q;have:=(h.c.f i v c b g1 u).2;omega
  o:=r.h
  k:=λ b q=> ⟨by
   rcases r.j b q with h1|h1;exact(h.k b h1).1;omega,r.i b q⟩};exact{
  i:=λ b q=> .inr ⟨by grind,λ s=>by
   have:=r.i b (r.h b s);grind⟩
  e:=λ b⟨i,v,c,g1,u⟩=>C b (h.c.f i v c b g1 u).2 (by rw[h.c.u];exact h.c.z g1 u)
  f:=λ d J=>by have⟨y,e,h1,h2,F⟩:=K d J;have w:=(dk.1 h1).1;refine⟨y,e,((x y (by omega)).trans (h.h y w h2)).trans h1,λ q=>?_,F.2⟩;grind
  h:=h.c.h.h
  g:=by have:=h.c.h.g;grind}
end
theorem Oy:{l:List (Nat×ki)}->{r:List iK}->{m:List (Nat×fX)}->{r':List iK}->pY l r=some (m,r')->∀p∈m,p.2.L= []| [],r,m,r',h=>by grind[pY,Option.some.injEq,Prod.mk.injEq]| (d,t)::l,r,m,r',h=>by simp[pY]at h;split at h;split at h;rename_i m' b a;simp[Option.some.injEq,Prod.mk.injEq]at h;have⟨rfl,_⟩:=h;intro p hp;rcases gl.1 hp with rfl|hp;rfl;exact Oy a p hp;trivial;trivial
theorem xS(d){k sl}(h:Map.av (mk T d).a k=some sl):sl.L= []:=by unfold mk at h;split at h;rename_i s r a;split at h;exact Oy a _ (Map.ll h);trivial;trivial
theorem IW(hE:al P E){w0 K}{k:R}{e conc st a w}(l:aD P w0 conc st a w):(X:List (dN×cf))->pB E X (kK K X) e st=some k->∃x∈X,∃d f,e=x.1.b/\aD P w0 f (mk x.2 d) a w/\(∀b,cZ f b->cZ conc b)/\K e (mk x.2 d)=some k
 | [],h=>by cases h|x::r,h=>by simp[pB,kK]at h;cases g:x.1.c e with
  |true=>rw[g]at h;simp[cond_true]at h;cases j:ky E x.2 st with|none=>rw[j]at h;cases h|some d=>
   rw[j]at h;have o:x.1.b=e:=by cases p:x.1<;>cases e<;>simp[p,dN.c,gF]at g<;>simp[dN.b,g]
   have⟨f,m,n⟩:=GR hE l j;exact⟨x,gg,d,f,o.symm,m,λ b⟨i,v,c,k1,q⟩=>n i v c b k1 q,by grind⟩
  |false=>rw[g]at h;have⟨y,s,r⟩:=IW hE l r h;grind
def Cl:gw->ej| .exit i=> .exit i|_=> .ret
theorem ahw(F)(st)(k):Map.av (oz F st).a k=if F.any (cr k)then Map.av st.a k else none:=aca F _ k
theorem iE.s{w0 wb D l own0 a x fn ps ca cb conc MO st s W3 W4 stt pe} {R} {Q} (h:iE P w0 wb D l own0 a fn ps ca cb stt pe A S conc st W) {sE} (t:aD P sE MO s x W3) (al:s.c=F) (ai:∀k∈F,sE.b[k]?=a.tmps[k]?) (ag:x.tmps.size=a.tmps.size) (ab:∀k sl,Map.av s.a k=some sl->F.any (cr k)=true->sl.L= []) (U:sE.B=λ b=>(b<wb.heap.size/\w0.B b)\/((wb.heap.size<=b/\b≠D/\b≠l)/\¬S b)) (aj:sE.e=w0.e) (an:sE.d=w0.d) (ae:W3.os=W.os) (ah:W3.tape=W.tape) (L:eW W W3) (ao:W.heap.size<=W3.heap.size) (Y:∀b,b<W.heap.size->¬cZ conc b->b≠l->W3.heap[b]?=W.heap[b]?) (M:∀b,cZ MO b->cZ conc b\/W.heap.size<=b) (Z:∀d∈a.defers,∃D,d={target:= .collected D,args:= #[]}/\wb.heap[D]?=some (.deferred (some []))/\¬own0 D/\¬w0.B D/\w0.d<=D) (B:W4=W3.putObj l (.loop {state:=R,pending:=Q,fn,tmps:=a.tmps,params:=ps,assign:=ca,body:=cb,defers:=D})):
 ∃G,G.m=MO.m/\iE P w0 wb D l own0 a fn ps ca cb R Q A S G (oz F s) W4:=by
 have N:=h.f;have ad:=h.m;have O:∀b,b<wb.heap.size\/b=D\/b=l->¬own0 b->¬cZ conc b:=λ b q u C=>by
  rcases h.j b C with h1|h1
  all_goals grind
 have H:∀b,b≠l->W4.heap[b]?=W3.heap[b]?:=λ b q=>by grind[eV]
 have ap:W4.heap.size=W3.heap.size:=by simp_all
 have am:l<W3.heap.size:=by omega
 have ak:MO.B=λ b=>(b<wb.heap.size/\w0.B b)\/((wb.heap.size<=b/\b≠D/\b≠l)/\¬S b):=t.u.trans U;have V:¬MO.B l:=by
  grind
 have af:∀d sl,Map.av (oz F s).a d=some sl->Map.av s.a d=some sl/\sl.L= []/\a.tmps[d]?=x.tmps[d]?:=by
  intro d sl r;rw[ahw]at r;split at r
  rename_i X;have ac:d∈F:=by
   simp_all
  refine⟨r,ab d _ r X,?_⟩;rw[t.l d (by grind),ai d ac]
  trivial
 have E:∀b,b<wb.heap.size\/b=D\/b=l->¬cZ conc b->b≠l->W4.heap[b]?=W.heap[b]?:=λ b q u K=>(H b K).trans (Y b (by omega) u K);have aa:∀b,cZ MO b->MO.B b:=λ b⟨i,v,c,y,z⟩=>by rw[t.u];exact t.z y z
 refine⟨⟨MO.m,λ b=>(b<wb.heap.size/\w0.B b)\/((wb.heap.size<=b/\b≠D/\b≠l)/\¬S b),MO.b⟩,rfl,?_⟩;refine{
  c:=t.G _ rfl af (λ _=>rfl) ag.symm rfl (λ d r=>by rfl) (by omega) (λ b J q=>H b λ e=>V (by grind)) (λ b _ q=>by grind) rfl rfl (λ b q=>q) aj.symm ?_
  m:=ad
  g:=by grind[lA]
  n:=(E _ (by omega) (λ C=>?_) (by omega)).trans h.n
  p:=by rw[B];exact ae.trans h.p
  i:=by rw[B];exact ah.trans h.i
  d:=by rw[B];exact eW.b (⟨L.d,L.e⟩) h.d
  f:=by omega
  h:=λ b q u=>(E b (by omega) (O b (by omega) u) (by omega)).trans (h.h b q u)
  j:=λ b q=>by
   rcases M b q with h1|h1
   all_goals grind
  e:=λ b q I=>by
   rcases M b q with h1|h1
   exact h.e b h1 I;have:=(h.k b I).2;omega
  o:=h.o
  k:=λ b q=> ⟨(h.k b q).1,by have:=(h.k b q).2;omega⟩}
 exact{
  i:=λ b q=> .inr ⟨by
   grind,λ N=>by
   have:=(h.k b (h.o b N)).2
   grind⟩
  e:=λ b q=>by have:=aa b q;grind
  f:=λ d r=>by
   have⟨w,e,h1,h2,T⟩:=Z d r;have J:=(dk.1 h1).1;refine⟨w,e,((E w (by omega) (O w (by omega) h2) (by omega)).trans (h.h w J h2)).trans h1,λ q=>?_,T.2⟩
   grind
  h:=h.c.h.h
  g:=by
   have:=h.c.h.g
   grind}
 have⟨i,v,c,y,z⟩:=C;have q:=h.c.z y z;omega
theorem iE.q{w0 wb D l own0 a fn ps ca cb conc r st st' stt pe}(h:iE P w0 wb D l own0 a fn ps ca cb stt pe A S conc st W)(t:aD P ⟨W,λ b=>(b<wb.heap.size/\w0.B b)\/((wb.heap.size<=b/\b≠D/\b≠l)/\¬S b),cZ conc,a.defers,a.tmps,w0.e,w0.d⟩ r st' a W)(s:∀b,cZ r b->cZ conc b):∃u,iE P w0 wb D l own0 a fn ps ca cb stt pe A S u st' W:=by have v:r.B=λ b=>(b<wb.heap.size/\w0.B b)\/((wb.heap.size<=b/\b≠D/\b≠l)/\¬S b):=t.u;refine⟨_,{
 c:=aD.H t _ (df _) (λ _ _ _=>rfl) (by grind) rfl rfl (λ b q=>q) rfl rfl rfl {
  i:=h.c.h.i
  e:=λ b q=>h.c.h.e b (s b q)
  f:=h.c.h.f
  h:=h.c.h.h
  g:=h.c.h.g}
 m:=h.m
 g:=h.g
 n:=h.n
 p:=h.p
 i:=h.i
 d:=h.d
 f:=h.f
 h:=h.h
 j:=λ b q=>h.j b (s b q)
 e:=λ b q=>h.e b (s b q)
 o:=h.o
 k:=h.k}⟩
def vq(a:Array eb):List Nat->List eb->Array eb|p::ps,v::vs=>vq (a.setIfInBounds p v) ps vs|_,_=>a
theorem aaW:∀ps vs a,(ps.toArray.zip vs.toArray).foldl (λ c(x:Nat×eb)=>c.setIfInBounds x.1 x.2) a=vq a ps vs:=by
 intro ps vs a;rw[<-Array.foldl_toList,Array.toList_zip];show(ps.zip vs).foldl _ _=_
 induction ps generalizing vs a with|nil=>rfl|cons p ps b=>cases vs with|nil=>rfl|cons v vs=>exact b _ _
theorem SH:∀ps vs a{k:Nat},k∉ps->(vq a ps vs)[k]?=a[k]?| [],_,_,_,_=>by rfl|_::_,[],_,_,_=>rfl|p::ps,v::vs,a,k,h=>by simp[gl,not_or]at h;rw[vq,SH _ _ _ h.2,Array.getElem?_setIfInBounds_ne (by omega)]
theorem fe.b{ok}:{a:List Ty}->{vs:List eb}->{x:ax a}->fe P w ok a vs x->vs.length=a.length| [],_,_,h=>by rw[h];rfl| [t],_,_,⟨_,h,_⟩=>by grind|t::u::a,_,(_,_),⟨_,_,h,_,h2⟩=>by rw[h,kk,fe.b h2];rfl
theorem abP:∀ps es{x:ax es}{m:List (Nat×fX)},(∀k sl,Map.av m k=some sl->sl.L= [])->∀k sl,Map.av (A9 ps es x m) k=some sl->sl.L= []:=by
 intro ps;have one:∀{m:List (Nat×fX)}{p:Nat}{s:bQ},(∀k sl,Map.av m k=some sl->sl.L= [])->∀k sl,Map.av (Map.jw m p ⟨[],true,s⟩) k=some sl->sl.L= []:=by grind[Map.lq]
 induction ps with|nil=>intro es x m h;trivial|cons p ps a=>
  intro es x m h
  match ps,es,x with
  | [],[e],x=>exact one h| [],[],_=>exact h| [],_::_::_,_=>exact h|_::_,[],_=>exact h|_::_,[_],_=>exact h|q::ps,e::u::es,(x,y)=>exact a _ (one h)
theorem aD.J{s conc}:∀{st:au}{a:hM},aD P s conc st a w->st.d= []->∀ps es{vs:List eb}{x:ax es},fe P w (ae conc) es vs x->ps.length=es.length->(∀p∈ps,p<st.N/\p∉st.c)->aD P s conc {st with a:=A9 ps es x st.a} {a with tmps:=Go.Abs.vq a.tmps ps vs} w:=by
 intro st a h c ps;have one:∀{st:au}{a:hM}{p:Nat}{e:Ty}{x:e.b}{cs:List eb},aD P s conc st a w->st.d= []->p<st.N/\p∉st.c->aw P e w (ae conc) cs x->aD P s conc {st with a:=Map.jw st.a p ⟨[],true,.v (.aE e x)⟩} (a.put (some p) (e.d cs)) w:=λ h c hp b=>h.K (pa.2 ⟨hp.1,by grind,hp.2⟩) (λ _ f=>f) (λ _ k=>by trivial) ⟨λ _=> ⟨rfl,_,rfl,b⟩,λ g=>absurd (cG _) g⟩
 induction ps generalizing st a with|nil=>intro es vs x b d _;trivial|cons p ps j=>
  intro es vs x b d hp
  match ps,es,x,d with
  | [],[e],x,_=>obtain⟨cs,rfl,b⟩:=b;exact one h c (hp p (by simp)) b|q::ps,e::u::es,(x,y),d=>obtain⟨cs,r,rfl,b,i⟩:=b;exact j (one h c (hp p (by simp)) b) c _ i (by grind) (by grind)
structure qp(P:ee){R:Type}(E:aq)(es:List Ty)(ps:List Nat)(ca cb:ej)(Oa Ob:List (Ev R))(T:cf)(F:List Nat)(X:List (dN×cf))(body:cR T.b->ax es->(cR T.b->Option R)->iI R X->Option R):Prop where
 c:T.c= []
 g:∀p∈ps,p<T.N/\p∉F
 e:ps.length=es.length
 f:∀x∈X,x.2.c= []
 a:eS P (bT.b (R:=R)) true ca (dv E bT.b ca Oa)
 b:eS P (bT.b (R:=R)) true cb (dv E bT.b cb Ob)
 h:∀d x again k,dv E bT.b ca Oa (yO T F ps es d x) (tH λ st=>dv E bT.b cb Ob st (wR E T F X again k))=body d x again k
theorem aiR(hE:al P E){es ps ca cb Oa Ob T F X body}
 (J:qp P E es ps ca cb Oa Ob T F X body) {w0} {wb} {D l} {own0} {a} {fn} {A S} {conc} {W} {d} {x} {vs}
 (h:iE P w0 wb D l own0 a fn ps.toArray ca cb .ready none A S conc (mk T d) W) (bm:∀d∈a.defers,∃D,d={target:= .collected D,args:= #[]}/\wb.heap[D]?=some (.deferred (some []))/\¬own0 D/\¬w0.B D/\w0.d<=D)
 (ao:fe P W (ae conc) es vs x) {K} {again} {ah:R} (aS:body d x again (kK K X)=some ah):
 YieldAt hZ 5 P l vs.toArray W λ aP N=>(∀b,b<W.heap.size->¬cZ conc b->b≠l->N.heap[b]?=W.heap[b]?)/\W.heap.size<=N.heap.size/\N.os=W.os/\N.tape=W.tape/\eW W N/\
  (
   (aP= .returned (.bool true)/\∃H o,iE P w0 wb D l own0 a fn ps.toArray ca cb .ready none A S H (mk T o) N/\again o=some ah)\/
   (aP= .returned (.bool false)/\∃H,∃y∈X,∃o,iE P w0 wb D l own0 a fn ps.toArray ca cb .done (some (Cl y.1.b)) A S H (mk y.2 o) N/\K y.1.b (mk y.2 o)=some ah)):=by
 have a6:=h.f;have bN:=h.m;have a2:=h.g;have bq:ps.length=vs.length:=J.e.trans ao.b.symm;have bA:=run_yield (P:=P) (args:=vs.toArray) a2 (by simp[bq]);refine⟨_,_,_,_,bA,?_⟩;dsimp only;have bl:=aaW ps vs a.tmps;have aX:¬cZ conc l:=λ⟨i,v,c,g1,O⟩=>by
  rcases h.c.z g1 O with⟨bi,_⟩| ⟨bi,_⟩<;>omega
 have⟨aF,bs,aV⟩:=qw d
 let aN:Act:={tmps:=a.tmps,defers:= []}
 let aw:Act:={aN with tmps:=vq a.tmps ps vs}
 let B:Nat->Prop:=λ b=>(b<wb.heap.size/\w0.B b)\/((wb.heap.size<=b/\b≠D/\b≠l)/\¬S b)
 let bI:bC:= ⟨W,B,cZ conc,[],a.tmps,w0.e,w0.d⟩
 let aK:bC:= ⟨W,B,cZ conc,[],aw.tmps,w0.e,w0.d⟩
 have a9:∀bb,sQ ⟨W,B,cZ conc,[],bb,w0.e,w0.d⟩:=λ bb=>{
  i:=h.c.h.i
  e:=h.c.h.e
  f:=λ _ V=>by cases V
  h:=fR
  g:=h.c.h.g}
 have aU:conc.B=B:=h.c.u;have bE:aD P bI ⟨conc.m,B,conc.b⟩ (mk T d) aN W:=h.c.G B rfl (λ k sl G=> ⟨G,xS d G,rfl⟩) (λ _=>rfl) rfl rfl (λ k G=>absurd G (by rw[aV,J.c];simp)) (df _) (λ _ _ _=>rfl) (λ b _ j=>by rw[<-aU];exact j) rfl rfl (λ b j=>j) rfl (a9 _);have L:ae (⟨conc.m,B,conc.b⟩:bf)=ae conc:=by
  funext b;unfold ae;rw[aU]
 have m1:=bE.J bs ps es (by rw[L];exact ao) J.e (λ p hp=> ⟨by rw[aF];exact(J.g p hp).1,by rw[aV,J.c];simp⟩);have bF:aD P aK ⟨conc.m,B,conc.b⟩ (yO T F ps es d x) aw W:=m1.G B aF.symm (λ k sl G=> ⟨G,abP ps es (λ k sl=>xS d) k sl G,rfl⟩) (λ _=>rfl) rfl rfl (λ k _=>rfl) (df _) (λ _ _ _=>rfl) (λ b _ j=>j) rfl rfl (λ b j=>j) rfl (a9 _);rw[<-J.h]at aS;have bc:∀(c:ej)Q a w n m,c.wpIn (Fr (some l)) n P Q a w->c.wpIn (Fence.wide.inRound l) m P Q a w:=λ c Q a w n m bo=>aaz bo;rw[bl];refine roundIn_of_wpIn trivial (bc _ _ _ _ 7 5 ?_);have a7:∀s,s.f= []->oB P (bT.b (R:=R)) true (λ s' b=>b=ah/\lU s s'):=λ s _=>{
  d:=λ bR bS b j aC=> ⟨j.1,j.2.j aC⟩
  c:=λ M=>absurd rfl M
  g:=λ L=>by cases L
  f:=λ M=>absurd rfl M}
 refine fl (J.a (some l) rfl _ (a7 aK rfl) _ ah _ _ _ aK aS ⟨_,bF⟩ ⟨rfl,lU.t _⟩) ?_;rintro be aO w1⟨Z,bd,bJ,⟨conc1,ab⟩,⟨rfl,aa⟩,aB⟩;cases be with
 |normal=>
  simp[tH]at aB;have ad:=aa.j ab.C;have a8:∀b,b<W.heap.size->¬cZ conc b->w1.heap[b]?=W.heap[b]?:=ad.d;have bu:w1.heap[l]?=_:=(a8 _ (by omega) aX).trans a2;have bP:W.heap.size<=w1.heap.size:=ad.e;refine⟨_,run_beginRound bu rfl,bc _ _ _ _ 7 5 ?_⟩;generalize av:w1.putObj l _=w2;have aQ:∀b,b≠l->w2.heap[b]?=w1.heap[b]?:=λ b j=>by rw[<-av];exact eV j
  have bO:w2.heap.size=w1.heap.size:=by rw[<-av];simp[pH]
  have aG:w2.os=w1.os/\w2.tape=w1.tape/\eW w1 w2:=by rw[<-av];exact⟨rfl,rfl,rfl,λ _=>df _⟩
  have bv:w2.heap[l]?=some (.loop {state:= .busy,pending:=none,fn,tmps:=a.tmps,params:=ps.toArray,assign:=ca,body:=cb,defers:=D}):=by
   rw[<-av];exact lA (by omega)
  have aA:conc1.B=B:=by
   rw[ab.u];funext b;exact propext (aa.B b)
  have bk:¬B l:=by
   rintro(⟨bH,_⟩| ⟨bH,_⟩)<;>omega
  let aL:bC:= ⟨w2,B,cZ conc1,[],Z.b,Z.e,Z.d⟩
  have bw:Z.b=aw.tmps:=aa.g;have br:Z.d=w0.d:=aa.p;have bB:Z.e=w0.e:=aa.m;have bn:aO.defers= []:=ab.g.trans aa.q;have bK:∀b,w2.heap.size<=b->B b:=λ b j=> .inr ⟨by omega,λ a6=>by have:=(h.k b (h.o b a6)).2;omega⟩;have bG:aD P aL ⟨conc1.m,B,conc1.b⟩ bJ aO w2:=by
   refine aD.H ab B ?_ (λ b bM j=>aQ b λ e=>bk (by rw[<-e,<-aA];exact j)) (λ b _ j=>by rw[<-aA];exact j) rfl rfl (λ b j=>j) rfl bn rfl {
    i:=bK
    e:=λ b⟨i,v,c,g1,O⟩=>by
     have:=ab.z g1 O;rw[<-ab.u,aA]at this;exact this
    f:=λ _ V=>by cases V
    h:=fR
    g:=by
     have:w0.d<=W.heap.size:=h.c.h.g;show Z.d<=w2.heap.size;omega}
   omega
  refine fl (J.b (some l) rfl _ (a7 aL rfl) _ bd _ _ _ aL aB ⟨_,bG⟩ ⟨rfl,lU.t _⟩) ?_;rintro bg bL w3⟨ba,ai,q,⟨aM,aE⟩,⟨rfl,am⟩,ar⟩;have Y:=am.j aE.C;have bQ:w2.heap.size<=w3.heap.size:=Y.e;have aY:∀b,cZ conc1 b->cZ conc b\/W.heap.size<=b:=λ b j=>(ad.M b j).imp id λ g=>g.1;have bt:∀b,cZ aM b->cZ conc b\/W.heap.size<=b:=λ b j=>by
   rcases Y.M b j with g|g
   exact aY b g;have g':w2.heap.size<=b:=g.1;exact .inr (by omega)
  have aW:∀b,b<W.heap.size->¬cZ conc b->¬cZ conc1 b:=λ b j ac C=>by
   rcases aY b C with g|g
   exact ac g;omega
  have aT:∀b,b<W.heap.size->¬cZ conc b->b≠l->w3.heap[b]?=W.heap[b]?:=λ b j ac M=>by
   have I:w3.heap[b]?=w2.heap[b]?:=Y.d b (by show b<w2.heap.size;omega) (aW b j ac);exact I.trans ((aQ b M).trans (a8 b j ac))
  have a4:w3.heap[l]?=some (.loop {state:= .busy,pending:=none,fn,tmps:=a.tmps,params:=ps.toArray,assign:=ca,body:=cb,defers:=D}):=by
   have I:w3.heap[l]?=w2.heap[l]?:=Y.d _ (by show _<w2.heap.size;omega) (aW _ (by omega) aX);exact I.trans bv
  have aH:w3.os=W.os:=by have I:w3.os=w2.os:=Y.k;have ak:w1.os=W.os:=ad.k;rw[I,aG.1,ak]
  have aJ:w3.tape=W.tape:=by have I:w3.tape=w2.tape:=Y.f;have ak:w1.tape=W.tape:=ad.f;rw[I,aG.2.1,ak]
  have an:eW W w3:=by have I:eW w2 w3:=Y.c;have ak:eW W w1:=ad.c;exact I.b (eW.b aG.2.2 ak)
  have bj:ba.B=B:=funext λ b=>propext (am.B b);have bx:ba.b=vq a.tmps ps vs:=am.g.trans bw;have hT:a.tmps.size=T.N:=h.c.n.trans aF;have aI:∀ag af,q.c=F->q.N=T.N->∃aj,aj.m=aM.m/\iE P w0 wb D l own0 a fn ps.toArray ca cb ag af A S aj (oz F (jO q))
   (w3.putObj l (.loop {state:=ag,pending:=af,fn,tmps:=a.tmps,params:=ps.toArray,assign:=ca,body:=cb,defers:=D})):=λ ag af t u=>
   h.s (S7 aE) t (λ k G=>by rw[bx,SH ps vs _ λ hp=>(J.g k hp).2 G]) (by rw[hT,aE.n,u]) (λ k sl G _=>ahy G) bj (am.m.trans bB) (am.p.trans br) aH aJ an (by omega) aT bt bm rfl
  have a5:∀ag(af:Option ej)b,b<W.heap.size->¬cZ conc b->b≠l->
   (w3.putObj l (.loop {state:=ag,pending:=af,fn,tmps:=a.tmps,params:=ps.toArray,assign:=ca,body:=cb,defers:=D})).heap[b]?=W.heap[b]?:=λ ag af b j ac M=>
   (eV M).trans (aT b j ac M)
  have aZ:∀v,(w3.putObj l v).heap.size=w3.heap.size:=λ v=>by simp[pH]
  have out:∀ex ap,Cl ex=ap->(∀c,ex≠ .panic c)->pB E X (kK K X) ex (oz F (jO q))=some ai->q.c=F->q.N=T.N->
   ∃v w',(Instr.endRound l (some ap)).run P w3= .ok v w'/\((∀b,b<W.heap.size->¬cZ conc b->b≠l->w'.heap[b]?=W.heap[b]?)/\W.heap.size<=w'.heap.size/\w'.os=W.os/\w'.tape=W.tape/\eW W w'/\
   (
    (gu v= .returned (.bool true)/\∃H o,iE P w0 wb D l own0 a fn ps.toArray ca cb .ready none A S H (mk T o) w'/\again o=some ai)\/
    (gu v= .returned (.bool false)/\∃H,∃y∈X,∃o,iE P w0 wb D l own0 a fn ps.toArray ca cb .done (some (Cl y.1.b)) A S H (mk y.2 o) w'/\K y.1.b (mk y.2 o)=some ai))):=by
   intro ex ap bp _ aC t u;refine⟨_,_,run_endRound (some ap) a4,a5 _ _,by rw[aZ];omega,aH,aJ,(⟨an.d,an.e⟩),.inr ⟨rfl,?_⟩⟩;have⟨aj,_,U⟩:=aI .done (some ap) t u;have⟨x,ao,o,H,L,g1,O,bh⟩:=IW hE U.c X aC;have⟨ay,az⟩:=U.q g1 O;refine⟨ay,x,ao,o,?_,by rw[<-L];exact bh⟩;rw[<-L,bp];exact az
  have aq:∀{z:Option R},(bif ot q.c F&&cr q.N T.N then z else none)=some ai->q.c=F/\q.N=T.N/\z=some ai:=by
   intro z r;cases C:(ot q.c F&&cr q.N T.N)with
   |false=>rw[C]at r;cases r
   |true=>
    rw[C]at r;simp only[b2]at C;exact⟨EW C.1,cU C.2,r⟩
  cases bg with
  |normal=>
   have⟨t,u,r⟩:=aq (z:=(ky E T (oz F (jO q))).bind again) ar;refine⟨_,_,run_endRound none a4,a5 _ _,by rw[aZ];omega,aH,aJ,(⟨an.d,an.e⟩),.inl ⟨rfl,?_⟩⟩;have⟨aj,_,U⟩:=aI .ready none t u;cases V:ky E T (oz F (jO q))with
   |none=>rw[V]at r;cases r
   |some o=>
    rw[V]at r;have⟨H,g1,O⟩:=GR hE U.c V;have⟨ay,az⟩:=U.q g1 λ b⟨i,v,c,k1,bD⟩=>O i v c b k1 bD;exact⟨ay,o,az,r⟩
  |ret=>
   have⟨t,u,r⟩:=aq (z:=pB E X (kK K X) .ret (oz F (jO q))) ar;exact out .ret .ret rfl (λ c C=>by cases C) r t u
  |exit i=>
   have⟨t,u,r⟩:=aq (z:=pB E X (kK K X) (.exit i) (oz F (jO q))) ar;exact out (.exit i) (.exit i) rfl (λ c C=>by cases C) r t u
  |_=>
   have⟨t,u,r⟩:=aq ar;have⟨aj,_,U⟩:=aI .ready none t u;have⟨x,ao,o,H,L,_⟩:=IW hE U.c X r;cases bz:x.1<;>simp[bz,dN.b]at L
 |_=>cases aB
end
section
variable[Dr]
variable{P:ee}{E:aq}{R:Type}
variable {ca cb:ej} {H:bT R} {g:fx} {Oa Ob:List (Ev R)} {T:cf} {F:List Nat} {X:List (dN×cf)} {w0:bC} {a:hM}
theorem iE.t{r D l u fn ps A S conc st xa W I pe}(h0:aD P w0 u xa a r)(h:iE P w0 r D l (cZ u) a fn ps ca cb I pe A S conc st W)(H:∀d sl,Map.av st.a d=some sl->sl.L= [])(L:st.c= [])(o):∃F,cT P F st {a with defers:= [{target:= .collected D,args:= #[]}]++a.defers} (W.putObj l o)/\jz w0 F:=by
 have E:=h.f;have Q:=h.m;have w:∀b,b≠l->(W.putObj l o).heap[b]?=W.heap[b]?:=λ b k=>eV k;have U:(W.putObj l o).heap.size=W.heap.size:=by simp
 have K:conc.B=λ b=>(b<r.heap.size/\w0.B b)\/((r.heap.size<=b/\b≠D/\b≠l)/\¬S b):=h.c.u;have G:∀b,cZ conc b->(b<r.heap.size/\w0.B b)\/((r.heap.size<=b/\b≠D/\b≠l)/\¬S b):=λ b⟨i,v,c,x,y⟩=>by have:=h.c.z x y;omega
 have J:∀b,cZ u b->w0.w.heap.size<=b\/w0.M b:=λ b⟨i,v,c,x,y⟩=>(h0.f i v c b x y).1;have t:=h0.e;have N:=h0.h.g;have T:=t.d;refine⟨⟨W.putObj l o,λ b=>(b<r.heap.size/\w0.B b)\/((r.heap.size<=b/\b≠D/\b≠l)/\¬S b),cZ conc,[{target:= .collected D,args:= #[]}]++a.defers,w0.b,w0.e,w0.d⟩,⟨_,h.c.G _ rfl (λ d sl n=> ⟨n,H d sl n,rfl⟩) (λ _=>rfl) rfl rfl (λ d n=>absurd n (by grind)) (by omega) (λ b C k=>w b λ e=>?_) (λ b _ k=>by grind) rfl rfl (λ b k=>k) rfl ?_⟩,?_⟩
 grind
 exact{
  i:=λ b k=> .inr ⟨by
   grind,λ E=>by
   have:=(h.k b (h.o b E)).2
   grind⟩
  e:=G
  f:=λ d n=>by
   rcases kq.1 n with n|n;simp only[gk]at n;subst n;refine⟨_,rfl,(w _ (by omega)).trans h.n,λ k=>?_,by grind⟩;omega;obtain⟨s,e,h1,B⟩:=h0.h.f d (by rw[<-h0.g];omega);have C:=(dk.1 h1).1;have z:¬w0.M s:=λ g=>B.1 (h0.h.e s g);have n0:¬cZ u s:=λ k=>by
    grind
   refine⟨s,e,(w _ (by omega)).trans ((h.h s (by omega) n0).trans ((t.e s C z).trans h1)),λ k=>?_,B.2⟩
   grind
  h:=by
   rw[List.singleton_append,gf];refine⟨λ O=>?_,by rw[h0.g];exact h0.h.h⟩;obtain⟨s,e,h1,_⟩:=h0.h.f _ (by rw[<-h0.g];omega)
   grind
  g:=by
   grind}
 exact{
  j:=h.p.trans t.i
  g:=h.i.trans t.g
  c:= ⟨(eW.b h.d t.f).d,(eW.b h.d t.f).e⟩
  d:=by
   grind
  e:=λ b k z=>by
   have n0:¬cZ u b:=λ R=>by
    grind
   exact(w b (by omega)).trans ((h.h b (by omega) n0).trans (t.e b k z))
  M:=λ b k=>by
   rcases h.j b k with g|g
   all_goals grind
  q:=λ b k h1=> .inl ⟨by omega,h1⟩
  p:=λ b k h1=>by
   grind
  h:=rfl
  m:=rfl}
theorem M5(hE:al P E)(aO:H.c= []){es ps body} (Q:qp P E es ps ca cb Oa Ob T F X body) {Y} (hI:oB P H false Y) {K} {M} {w l} {conc} {d} {xs} (h:la body (kK K X) (λ d=>K .normal (mk T d)) xs d=some M) (I:aD P w0 conc (mk T d) a w) (aT:Y w0 M) {fid} {aa} (bi:a.eval g= .func (.func fid) #[] aa) (bh:lE P fid) (a2:w.heap.size<=l.heap.size) (aX:∀b,b<w.heap.size->l.heap[b]?=w.heap[b]?) (Z:l.os=w.os/\l.tape=w.tape/\eW w l) {A0} (aM:∀b,A0 b->w.heap.size<=b/\b<l.heap.size) (aZ:∀s,s.heap.size=l.heap.size+2->(∀b,b<l.heap.size->s.heap[b]?=l.heap[b]?)->ET P (λ W o aF x=>∃vs,aF=vs.toArray/\fe P W o es vs x) fid aa A0 s (λ b=>ae conc b/\b<w.heap.size) xs):(Code.rangeFunc g ps.toArray ca cb).wpIn (Fr none) 7 P (λ e a' w'=>(∃V N st',cT P V st' a' w'/\Y V N/\K e st'=some N)/\a'.tmps=a.tmps) a l:=by
 have⟨bl,bd,ay⟩:=hI.g rfl aO;let done:cR T.b->Option R:=λ d=>K .normal (mk T d);refine wpIn_rangeFunc λ fn _=>?_;have an:=run_enterLoop_outer (P:=P) (w:=l) fn a.tmps ps.toArray ca cb;generalize U:(l.alloc (.deferred (some []))).alloc (.loop {state:= .ready,pending:=none,fn,tmps:=a.tmps,params:=ps.toArray,assign:=ca,body:=cb,defers:=l.heap.size})=s at an;refine⟨_,_,_,{target:= .fn (.func fid) aa,args:= #[.func (.yield (l.heap.size+1)) #[] #[]]},s,fid,#[.func (.yield (l.heap.size+1)) #[] #[]]++aa,s,
  an,?_,λ _ _=>trivial,?_,λ _=>by decide,?_⟩;show(ih _ _).run P _=_;simp_all[rangeCall,k7,ih];grind[invoke,Hk];have a1:s.heap.size=l.heap.size+2:=by rw[<-U];simp
 have aw:∀b,b<l.heap.size->s.heap[b]?=l.heap[b]?:=λ b q=>by
  rw[<-U];show((l.heap.push _).push _)[b]?=_
  grind
 have aW:∀b,b<w.heap.size->s.heap[b]?=w.heap[b]?:=λ b q=>(aw b (by omega)).trans (aX b q);have aN:s.heap[l.heap.size]?=some (.deferred (some [])):=by
  rw[<-U];show((l.heap.push _).push _)[l.heap.size]?=_
  grind
 have aQ:s.heap[l.heap.size+1]?=some (.loop {state:= .ready,pending:=none,fn,tmps:=a.tmps,params:=ps.toArray,assign:=ca,body:=cb,defers:=l.heap.size}):=by
  rw[<-U];show((l.heap.push _).push _)[l.heap.size+1]?=_
  grind
 have af:s.os=w.os/\s.tape=w.tape/\eW w s:=by rw[<-U];exact⟨Z.1,Z.2.1,Z.2.2.d,Z.2.2.e⟩
 have aR:conc.B=w0.B:=I.u;have⟨_,_,bj⟩:=qw d;have aq:∀r,∀k sl,Map.av (mk T r).a k=some sl->sl.L= []:=λ r k sl C=>xS r C;have az:∀b,cZ conc b->b<w.heap.size/\w0.B b:=λ b⟨i,v,c,t,z⟩=> ⟨(I.f i v c b t z).2,I.z t z⟩;have ac:∀dd∈a.defers,∃D,dd={target:= .collected D,args:= #[]}/\w.heap[D]?=some (.deferred (some []))/\¬cZ conc D/\¬w0.B D/\w0.d<=D:=λ dd am=>by
  have⟨D,aJ,aj,O⟩:=I.y.h.f dd am;exact⟨D,aJ,aj,λ q=>O.1 (I.y.h.e D q),O⟩
 have ab:∃conc1,iE P w0 w l.heap.size (l.heap.size+1) (cZ conc) a fn ps.toArray ca cb .ready none A0 A0 conc1 (mk T d) s:=by
  refine⟨_,{
   c:=I.y.G _ rfl (by grind) (λ _=>rfl) rfl rfl (by grind) (by omega) (by grind) (by grind) rfl rfl (λ b q=>q) rfl {
    i:=λ b q=> .inr ⟨by grind,λ g=>by
     grind⟩
    e:=λ b q=> .inl (az b q)
    f:=λ dd am=>by
     grind
    h:=I.y.h.h
    g:=by
     have aj:=I.h.g;have O:=I.e.d
     grind}
   m:= ⟨a2,by omega,by omega⟩
   g:=aQ
   n:=aN
   p:=af.1
   i:=af.2.1
   d:=af.2.2
   f:=by omega
   h:=λ b q _=>aW b q
   j:=λ b q=> .inl q
   e:=λ b q g=>by
    have:=aM b g;have:=(az b q).1;omega
   o:=λ _ h=>h
   k:=λ b g=>by grind}⟩
 have⟨conc1,ab⟩:=ab
 let a5:Nat->Prop:=λ b=>ae conc b/\b<w.heap.size
 let J:Nat->(Nat->Prop)->(Nat->Prop)->dr->Prop:=λ k A S W=>∃u r,iE P w0 w l.heap.size (l.heap.size+1) (cZ conc) a fn ps.toArray ca cb .ready none A S u (mk T r) W/\la body (kK K X) done (xs.drop k) r=some M
 let aG:(Nat->Prop)->(Nat->Prop)->dr->Prop:=λ A S W=>∃u,∃y∈X,∃r,iE P w0 w l.heap.size (l.heap.size+1) (cZ conc) a fn ps.toArray ca cb .done (some (Cl y.1.b)) A S u (mk y.2 r) W/\K y.1.b (mk y.2 r)=some M
 have aS:=aZ s a1 aw (l.heap.size+1) J aG
  (λ k A S W A' aH L⟨u,r,q,G⟩ag=>by
   have⟨aI,_,O⟩:=q.r ⟨(qw r).2.1,aq r⟩ ((qw r).2.2.trans Q.c) ag ac
   grind)
  (λ A S W A' aH L⟨u,y,ah,r,q,G⟩ag=>by
   have⟨aI,_,O⟩:=q.r ⟨(qw r).2.1,λ k sl C=>xS r C⟩ ((qw r).2.2.trans (Q.f y ah)) ag ac
   grind)
  (λ k x A S W aF⟨u,r,q,G⟩C⟨cs,aK,aY⟩=>by
   subst aK;have aU:=(eo.1 C).1;rw[hv aU]at G;have a4:xs[k]=x:=(eo.1 C).2;rw[a4]at G;have ak:u.B=λ b=>(b<w.heap.size/\w0.B b)\/((w.heap.size<=b/\b≠l.heap.size/\b≠l.heap.size+1)/\¬S b):=q.c.u;have a0:cM W (λ b=>(a5 b/\b<s.heap.size)\/(A b/\¬S b)) (ae u):=λ b B ad=>by
    have av:¬cZ u b->∀id ver c,u id=some (ver,c,true)->¬dB c b:=λ aV i v c t z=>aV ⟨i,v,c,t,z⟩;obtain⟨⟨t,z⟩,_⟩| ⟨t,z⟩:=B
    refine⟨by rw[ak];exact .inl ⟨z,by rw[<-aR];exact t.1⟩,av λ B=>?_⟩;rcases q.j b B with⟨i,v,c,k1,ai⟩|k1
    exact t.2 i v c k1 ai;omega;exact⟨by rw[ak];exact .inr ⟨(q.k b t).1,z⟩,av λ B=>q.e b B t⟩
   have⟨dP,bm,be,bg,bb,bc⟩:=aiR hE Q (again:=λ d=>la body (kK K X) done (xs.drop (k+1)) d) q ac (iL.b.CJ ⟨df _,λ _ _ _=>rfl⟩ a0 es aY) G;refine⟨_,_,_,_,bb,bc.mono ?_⟩;rintro aL L⟨aB,a6,a7,a8,a9,ba⟩;refine⟨{h:=a7,g:=a8,f:=a9,d:=a6,e:=λ b ad B=>?_},ba⟩;obtain⟨⟨t,z⟩,_⟩|t:=B
   refine aB b ad (λ B=>?_) (by omega);rcases q.j b B with⟨i,v,c,k1,ai⟩|k1
   exact t.2 i v c k1 ai;omega;exact aB b ad (λ B=>q.e b B t) (by have:=(q.k b t).1;omega))
  ⟨conc1,d,ab,h⟩
 refine QE (aS.mono ?_);have fin:∀{A S:Nat->Prop}{u:bf}{st':au}{L:dr}{aE:hh}{aA:Option ej}(q:iE P w0 w l.heap.size (l.heap.size+1) (cZ conc) a fn ps.toArray ca cb aE aA A S u st' L)(ex:gw)(ar:∀d sl,Map.av st'.a d=some sl->sl.L= [])(ap:st'.c= [])(C:K ex st'=some M)(o:Obj),
  (∃V N aC,cT P V aC {a with defers:= [{target:= .collected l.heap.size,args:= #[]}]++a.defers} (L.putObj (l.heap.size+1) o)/\Y V N/\K ex aC=some N)/\({a with defers:= [{target:= .collected l.heap.size,args:= #[]}]++a.defers}:hM).tmps=a.tmps:=by
  intro A S u st' L aE aA q ex ar ap C o;have⟨bk,t,z⟩:=iE.t I q ar ap o;exact⟨⟨_,_,_,t,(ay _ _).2 ⟨by grind,((ay _ _).1 aT).2.f z⟩,C⟩,rfl⟩
 rintro aL L⟨⟨v,rfl⟩,aP⟩;obtain⟨A,S,u,r,q,G⟩| ⟨A,S,u,y,ah,r,q,G⟩:=aP
 refine⟨none,_,run_endLoop q.g (by simp),?_⟩;rw[n1]at G;exact fin q _ (aq _) ((qw _).2.2.trans Q.c) G _;refine⟨some _,_,run_endLoop q.g (by simp),?_⟩;have:=fin q y.1.b (λ k sl C=>xS r C) ((qw r).2.2.trans (Q.f y ah)) G;cases a3:y.1<;>rw[a3]at this<;>first|exact wpIn_exit (this _)|exact wpIn_ret (this _)
def T1(e e2:Ty):aU->RM (List (e.b×e2.b))| .aE u d=> .nS (gN (t:=u) (t':= .dX e e2) d)|_=> .aa
abbrev GP(T:cf)(F:List Nat)(p q:Nat)(e e2:Ty)(d:cR T.b)(x:e.b×e2.b):=yO T F [p,q] [e,e2] d x
def qX(E:aq)(e e2:Ty)(g:fx)(T:cf)(X:List (dN×cf))(body:cR T.b->e.b×e2.b->(cR T.b->Option R)->iI R X->Option R):Ev R:=λ st K=>(ky E T st).bind λ d=>((c9 [] g).aB (T1 e e2)).jT (mk T d) λ xs=>la body (kK K X) (λ d=>K .normal (mk T d)) xs d
theorem Pv(hE:al P E)(D:H.c= []){e c p q}{body:cR T.b->e.b×c.b->(cR T.b->Option R)->iI R X->Option R}(G:qp P E [e,c] [p,q] ca cb Oa Ob T F X body)(r)(s:r.isSome=false)(i)(hI:oB P H false i)(K)(n)(st)(a)(w)(w0)(h:qX E e c g T X body st K=some n)(f:cT P w0 st a w)(Q:i w0 n):Code.wpIn (Fr r) 7 P (.rangeFunc g #[p,q] ca cb) (λ e a' w'=>(∃t o st',cT P t st' a' w'/\i t o/\K e st'=some o)/\a'.tmps=a.tmps) a w:=by
 have s:r=none:=by simp_all
 subst s;unfold qX at h;have⟨d,M,h⟩:=eQ.1 h;have⟨conc,f⟩:=Aa hE f M;rw[RM.sH]at h;have⟨xs,V,h⟩:=eQ.1 h;have⟨x,Y,m⟩:=RM.aI V;have ag:=dQ f (cG _) Y;have O:∃vs,a.eval g=(Ty.dX e c).d vs/\aw P (.dX e c) w (ae conc) vs xs:=by
  cases x<;>simp[T1]at m<;>try(cases m;done)
  obtain⟨rfl,rfl⟩:=kC (RM.Ae m);trivial
 obtain⟨vs,N,fid,ah,rfl,L,U⟩:=O;refine M5 (es:= [e,c]) (ps:= [p,q]) (T:=T) (X:=X) (body:=body) (xs:=xs) hE D G hI h f Q N L (df _) (λ _ _=>rfl) ⟨rfl,rfl,rfl,λ _=>df _⟩ (A0:=λ _=>False) (λ _ h=>h.elim) λ u af C=>?_;have:=U u (λ b=>ae conc b/\b<w.heap.size) ⟨by omega,λ b _ j=>C b j⟩ λ b I j=> ⟨I,j⟩;intro l J ac k1 Z aa ab;exact this l J _ k1 Z (λ k x A S W ai v y⟨cs,ad,z,c,B⟩=>aa k x A S W _ v y ⟨_,z,_,_,rfl,c,_,rfl,B⟩) ab
theorem ahE(hE:al P E)(b:H.c= []){e e2 p q}{body:cR T.b->e.b×e2.b->(cR T.b->Option R)->iI R X->Option R}(d:qp P E [e,e2] [p,q] ca cb Oa Ob T F X body):eS P H false (.rangeFunc g #[p,q] ca cb) (qX E e e2 g T X body):=λ r j k c K l st a w w0 h i f=>fl (Pv hE b d r j _ c K _ _ a w _ h i f) λ _ _ _ h=>h.1
end
section
variable[Dr]
variable{P:ee}{E:aq}{w0:bC}{w:dr}{conc:bf}{st:au}{a:hM}
variable {ok:Nat->Prop} {n:Nat} {fn:pN} {α:Type} {vs:List eb} {f:hB} {v:eb} {cs:List eb} {w1:dr} {N:Nat} {bs:List Nat} {ts:List Ty} {c:ej} {r:ax ts}
theorem aaG{T:Nat}{u}(h:(Instr.loadAt T v).run P w= .ok u w):(do loadVar T (<-asAddr v):Sem eb).run P w= .ok u w:=by cases v with
 |pointer p=>cases p with|none=>trivial|some q=>exact h
 |_=>trivial
def vY(a:hM):p7->Sem eb| .tmp t=>pure (a.tmps.getD t kR)| .cell c t=>do loadVar t (<-asAddr (a.tmps.getD c kR))
theorem EK(hE:al P E)(h:aD P w0 conc st a w):{n:List p7}->{l:List bQ}->(po E n).af st=some l->∃vs,(n.mapM (vY a)).run P w= .ok vs w/\bU (di P w conc (ae conc)) l vs/\vs.length=n.length
 | [],l,d=>by cases d;exact⟨[],by simp,trivial,rfl⟩| .tmp t::r,l,d=>by
  have⟨s,f,g⟩:=RM.aI d;have⟨m,i,j⟩:=RM.aI g;cases j;have:=jJ h (cG _) f;have⟨vs,o,e,p⟩:=EK hE h i;refine⟨a.eval (.tmp t)::vs,?_,⟨this,e⟩,by simp[p]⟩;have k:a.eval (.tmp t)=a.tmps.getD t undef:=by simp[k7]
  simp[k4,vY,k,o]| .cell c T::r,l,d=>by simp[po]at d;cases hT:E.b T with|none=>rw[hT]at d;cases d|some t=>
   rw[hT]at d;dsimp only at d;have⟨b,h0,d⟩:=RM.aI d;have⟨s,f,g⟩:=RM.aI d;have⟨m,i,j⟩:=RM.aI g;cases j;have y:=dQ h (cG _) h0;have⟨u,v,x⟩:=Rr hE h hT f y;have q:=aaG v;have⟨vs,o,e,p⟩:=EK hE h i;refine⟨u::vs,?_,⟨x,e⟩,by grind⟩;have k:a.eval (.tmp c)=a.tmps.getD c undef:=by rfl
   rw[k]at q;have:(vY a (.cell c T)).run P w= .ok u w:=q;simp_all
theorem JP(h:(fn.results.toList.mapM (vY a)).run P w= .ok vs w):(mb fn a.tmps).run P w= .ok (if vs.length=1 then vs.headD kR else .tuple vs.toArray) w:=by
 unfold mb;have e:∀g,(∀r,g r=vY a r)->fn.results.mapM g=Functor.map List.toArray (fn.results.toList.mapM (vY a)):=by intro g b;rw[Array.mapM_eq_mapM_toList,(funext b)]
 rw[e _ (λ r=>by rfl)];simp only[map_eq_pure_bind,bind_assoc,pure_bind];rw[ef,h]
 match vs with| []=>rfl| [v]=>rfl|v::u::r=>simp
theorem CC:(l:List aU)->(n d:Nat)->{sl:fX}->Map.av (yA n l) d=some sl->∃i x,d=n+i/\l[i]?=some x/\sl= ⟨[],true,.v x⟩| [],n,d,sl,h=>by cases h|x::r,n,d,sl,h=>by simp[yA,Map.av,gF]at h;by_cases b:n=d;simp_all;simp[b]at h;have⟨i,y,c,e,a⟩:=CC r (n+1) d h;exact⟨i+1,y,by omega,by trivial,a⟩
theorem CS:(ts:List Ty)->(x:ax ts)->(mh ts x).length=ts.length| [],_=>rfl| [t],x=>rfl|t::u::ts,(x,y)=>by simp[mh,CS (u::ts) y]
theorem GA:(ts:List Ty)->{vs:List eb}->{x:ax ts}->oO P w ok ts vs x->bU (bN P w conc ok) (pA (mh ts x)) vs| [],vs,x,h=>by cases h;trivial| [t],vs,x,⟨v,a,b⟩=>by subst a;trivial|t::u::ts,vs,x,⟨v,r,a,b,h3⟩=>by subst a;exact⟨b,GA _ h3⟩
theorem Ix:∀l,(pA l).length=l.length| []=>rfl|a::l=>by cases a<;>simp[pA,Ix l]
theorem Kr(ok)(w)(c)(l):sQ ⟨w,ft ok w,λ _=>False,[],c,l,w.heap.size⟩ where
 i:=λ b a=> .inr a
 e:=λ b a=>a.elim
 f:=(λ _ h=>(by cases h))
 h:=fR
 g:=df _
theorem L8{ins caps:List Ty}{x:ax ins}{y:ax caps}(M:ins.length+caps.length<=N)(I:fe P w ok ins vs x)(J:oO P w ok caps cs y)(K:Array eb):
 cT P ⟨w,ft ok w,λ _=>False,[],K,0,w.heap.size⟩ (uN N ins caps x y) {tmps:=(vs++cs).toArray++gb (N- (vs++cs).toArray.size) kR,defers:= []} w:=by
 let conc:bf:= ⟨λ _=>none,ft ok w,0⟩
 have B:∀b,ok b->ae conc b:=λ b c=> ⟨.inl c,(λ _ _ _ h=>(by cases h))⟩;have z:bU (bN P w conc (ae conc)) (mh ins x) vs:=(HA (conc:=conc) ins I).e λ a b h=>bN.b ⟨df _,λ _ _ _=>rfl⟩ (λ b c _=>B b c) (fU.b _) a h;have A:bU (bN P w conc (ae conc)) (pA (mh caps y)) cs:=(GA (conc:=conc) caps J).e λ a b h=>bN.b ⟨df _,λ _ _ _=>rfl⟩ (λ b c _=>B b c) (fU.b _) a h;have F:=z.d A;have G:=z.b;have H:=A.b;rw[CS]at G;rw[Ix,CS]at H;refine⟨conc,{g:=rfl,n:=?_,m:=?_,k:=?_,q:=(λ id ver o h=>(by cases h)),r:=λ _ _=>rfl,t:=(λ _ _ _ _ _ _ _ h=>(by cases h)),f:=(λ _ _ _ _ h=>(by cases h)),e:= ⟨rfl,rfl,⟨rfl,by grind⟩,df _,λ _ _ _=>rfl⟩,u:=rfl,x:=rfl,h:=Kr _ w _ 0,l:=(λ _ h=>(by cases h))}⟩
 grind[uN]
 intro d sl j p hp;obtain⟨i,a,_,_,e⟩:=CC _ _ _ j
 grind
 intro d sl j;obtain⟨i,a,s,C,D⟩:=CC _ _ _ j;rw[p8]at s;subst s;obtain⟨v,L,E⟩:=bU.h d a F C;refine⟨v,?_,?_⟩
 grind
 rw[D];exact⟨λ _=> ⟨rfl,E⟩,absurd (cG _)⟩
def AX(N:Nat)(caps:List Ty)(y:ax caps):au:={N,d:= [],a:=(0,⟨[],true,.v .ku⟩)::yA 1 (pA (mh caps y)),b:= [],c:= []}
theorem abf{caps:List Ty}{y:ax caps}(l:Nat)(I:1+caps.length<=N)(F:oO P w ok caps cs y)(G:Array eb):
 cT P ⟨w,ft ok w,λ _=>False,[],G,l,w.heap.size⟩ (AX N caps y) {tmps:=(#[k3 (.yield l) #[] #[]]++cs.toArray)++gb (N- (#[k3 (.yield l) #[] #[]]++cs.toArray).size) kR,defers:= []} w:=by
 let conc:bf:= ⟨λ _=>none,ft ok w,l⟩
 have E:∀b,ok b->ae conc b:=λ b c=> ⟨.inl c,(λ _ _ _ h=>(by cases h))⟩;have p:bU (bN P w conc (ae conc)) (pA (mh caps y)) cs:=(GA (conc:=conc) caps F).e λ a b h=>bN.b ⟨df _,λ _ _ _=>rfl⟩ (λ b c _=>E b c) (fU.b _) a h;have D:=p.b;rw[Ix,CS]at D;have C:∀d sl,Map.av (AX N caps y).a d=some sl->(d=0/\sl= ⟨[],true,.v .ku⟩)\/∃i a,d=1+i/\(pA (mh caps y))[i]?=some a/\sl= ⟨[],true,.v a⟩:=by
  grind[AX,Map.av,gF,CC]
 refine⟨conc,{g:=rfl,n:=?_,m:=?_,k:=?_,q:=(λ id ver o h=>(by cases h)),r:=λ _ _=>rfl,t:=(λ _ _ _ _ _ _ _ h=>(by cases h)),f:=(λ _ _ _ _ h=>(by cases h)),e:= ⟨rfl,rfl,⟨rfl,by grind⟩,df _,λ _ _ _=>rfl⟩,u:=rfl,x:=rfl,h:=Kr _ w _ l,l:=(λ _ h=>(by cases h))}⟩
 grind[AX]
 grind
 intro d sl B;rcases C d sl B with⟨j,e⟩| ⟨i,a,j,s,z⟩
 subst j e;refine⟨.func (.yield l) _ _,?_,⟨λ _=> ⟨rfl,rfl⟩,absurd (cG _)⟩⟩
 grind
 obtain⟨v,H,A⟩:=bU.h i a p s;refine⟨v,?_,?_⟩
 grind[eo,hq,Array.getElem?_append_right]
 rw[z];exact⟨λ _=> ⟨rfl,A⟩,absurd (cG _)⟩
theorem Su:(ts:List Ty)->{vs:List eb}->{x:ax ts}->fe P w ok ts vs x->vs.length=ts.length| [],vs,x,h=>by cases h;rfl| [t],vs,x,⟨cs,a,b⟩=>by grind|t::u::ts,vs,x,⟨cs,r,a,b,h3⟩=>by subst a;simp[Su (u::ts) h3]
theorem IZ{ok'}(c:cM w ok ok'):(ts:List Ty)->{vs:List eb}->{x:ax ts}->fe P w ok ts vs x->fe P w ok' ts vs x| [],vs,x,h=>h| [t],vs,x,⟨cs,a,b⟩=> ⟨cs,a,b.c c⟩|t::u::ts,vs,x,⟨cs,r,a,b,h3⟩=> ⟨cs,r,a,b.c c,IZ c (u::ts) h3⟩
theorem Vr:(ts:List Ty)->{vs:List eb}->{x:ax ts}->fe P w ok ts vs x->iL P w ok ts (if vs.length=1 then vs.headD kR else .tuple vs.toArray) x| [],vs,x,h=>by cases h;rfl| [t],vs,x,⟨cs,a,b⟩=>by subst a;exact⟨_,rfl,b⟩|t::u::ts,vs,x,h=>by have c:=Su _ h;simp[kk]at c;rw[if_neg (by omega)];exact⟨_,rfl,h⟩
theorem kP.b{n ok ok'}(j:cM w ok ok')(t){vs d bs}(h:kP P n w ok t vs d bs):kP P n w ok' t vs d bs:=by induction t generalizing vs bs with|aH e=>obtain h| ⟨b,off,cap,cs,T,c,f,g,m,o,p,q,r⟩:=h;exact .inl h;exact .inr ⟨b,_,_,_,T,c,f,g,m,o,p,q,λ i x v=>(r i x v).c j⟩|aF a b s u=>have⟨k,l,c,f,g⟩:=h;exact⟨k,l,c,s f,u g⟩|_=>exact⟨h.1,h.2.c j⟩
theorem kP.d{ok'}(j:cM w ok ok')(u:∀b,n<=b->ok' b)(t){d}(h:kP P n w ok t vs d bs):aw P t w ok' vs d:=by induction t generalizing vs bs with|aH e=>obtain⟨rfl,rfl,_⟩| ⟨b,off,cap,cs,T,f,g,c,k,l,m,o,p⟩:=h;exact aw.h;exact⟨_,_,f,l,.inr ⟨b,_,_,T,_,rfl,u b c,k,o,.inr m,λ i y s=>(p i y s).c j⟩⟩|aF a b q r=>have⟨v,x,f,g,c⟩:=h;exact⟨q g,r c⟩|_=>exact h.2.c j
def rX(conc:bf)(id:Nat):=(conc id).bind λ p=>oi p.2.1
theorem H6{t}(o:∀w ok vs d bs,kP P n w ok t vs d bs↔bs= []/\aw P t w ok vs d){x r us q}(a:(zV t x r).af st=some q)(i:t.a=1)(hp:t.c=false)(b:bU (bN P w conc (ae conc)) (x::r) us):∃vs g bs,us=vs++g/\bU (bN P w conc (ae conc)) q.2 g/\vs.length=t.a/\kP P n w (ae conc) t vs q.1.1 bs/\bs=q.1.2.filterMap (rX conc)/\∀id∈q.1.2,∃cv c,conc id=some (cv,c,true):=by
 unfold zV at a;split at a;split at a;rename_i y j;cases a;obtain⟨e,m⟩:=kC j;subst e
 match us,b with
 |v::us,b=>
  obtain⟨k,l,h⟩:=b.1;have f:=h.d;rw[i]at f
  match k,f with
  | [z],_=>
   have:v=z:=by grind[Ty.d]
   subst this;exact⟨[v],_,_,rfl,b.2,by omega,by grind,rfl,by grind⟩
 trivial;trivial
theorem FZ(h:aD P w0 conc st a w)(j:∀b,cZ conc b->n<=b):(t:Ty)->{l:List aU}->{us:List eb}->{q:(t.b×List Nat)×List aU}->(vt t l).af st=some q->bU (bN P w conc (ae conc)) l us->∃vs u bs,us=vs++u/\bU (bN P w conc (ae conc)) q.2 u/\vs.length=t.a/\kP P n w (ae conc) t vs q.1.1 bs/\bs=q.1.2.filterMap (rX conc)/\∀id∈q.1.2,∃cv c,conc id=some (cv,c,true)
 | .aH e,.dj id ver::r,v::us,q,d,f=>by
  simp[vt,RM.af]at d;split at d
  ·rename_i cv S l G;have⟨i,g⟩:=dE d;have:=cU i;subst this;split at g
   ·rename_i x m;cases g;have⟨F,m⟩:=kC m;cases F;subst m;have⟨c,ad,k1,o⟩:=pW h G;have⟨R,c',af,m1,m2,ac,J⟩:=f.1;rw[k1]at m1;cases m1;have H:=J rfl;subst H;obtain⟨rfl,o⟩:=o;obtain⟨p,s⟩| ⟨b,off,cap,cs,T,p,s,K,L,M,N⟩:=o
    ·refine⟨[v],_,[],rfl,f.2,rfl,.inl (by grind),?_,?_⟩
     all_goals grind[rX,oi,gk]
    ·refine⟨[v],_,_,rfl,f.2,rfl,.inr ⟨b,_,_,_,T,by rw[p],rfl,j b ⟨_,_,v,k1,by rw[p];rfl⟩,s,K,L,M,N⟩,?_,?_⟩
     all_goals grind[rX,oi,gk]
   trivial
  trivial| .aH e,.js::r,v::us,q,d,f=>by cases d;have I:v= .slice none 0 0:=f.1;subst I;exact⟨[_],_,_,rfl,f.2,rfl,.inl (by grind),rfl,by grind⟩| .aF x y,l,us,q,d,f=>by simp[vt]at d;have⟨ag,i,d⟩:=RM.aI d;have⟨p2,g,d⟩:=RM.aI d;cases d;have⟨O,ah,z,U,B,C,V,W,X⟩:=FZ h j x i f;have⟨Q,ai,A,Y,D,E,Z,aa,ab⟩:=FZ h j y g B;refine⟨O++Q,_,_,by grind,D,by simp[Ty.a,C,E],⟨z,A,rfl,?_,?_⟩,by grind,?_⟩;all_goals grind| .ay k,x::r,us,q,d,f=>H6 (λ _ _ _ _ _=>Iff.rfl) d rfl rfl f| .aO,x::r,us,q,d,f=>H6 (λ _ _ _ _ _=>Iff.rfl) d rfl rfl f| .aJ,x::r,us,q,d,f=>H6 (λ _ _ _ _ _=>Iff.rfl) d rfl rfl f| .aH e,.dj id ver::r,[],q,d,f=>f.elim| .aH e,.js::r,[],q,d,f=>f.elim| .aH e,.aE _ _::_,_,_,d,_| .aH e,.dx _ _ _::_,_,_,d,_| .aH e,.gB _ _::_,_,_,d,_| .aH e,.rD _ _ _ _::_,_,_,d,_| .aH e,.rN _::_,_,_,d,_| .aH e,.nX::_,_,_,d,_| .aH e,.ku::_,_,_,d,_=>by trivial| .ay _,[],_,_,d,_| .aO,[],_,_,d,_| .aJ,[],_,_,d,_| .aH _,[],_,_,d,_=>by trivial| .dP _ _,l,_,_,d,_| .dX _ _,l,_,_,d,_| .cO _ _,l,_,_,d,_| .ec _,l,_,_,d,_=>by trivial
theorem Mx:{l:List Nat}->DZ l=true->l.Nodup| [],_=>fR|i::r,h=>by simp[DZ,b2,fv,ny]at h;refine gf.2 ⟨λ a=>h.1 i a (by simp),Mx h.2⟩
theorem Mu(h:aD P w0 conc st a w):{l:List Nat}->l.Nodup->(∀id∈l,∃cv c,conc id=some (cv,c,true))->(l.filterMap (rX conc)).Nodup| [],_,_=>fR|i::r,hn,ho=>by rw[gf]at hn;have o:=Mu h hn.2 λ id k=>ho id (hP _ k);rw[List.filterMap_cons];split;omega;rename_i b d;refine gf.2 ⟨λ n=>?_,o⟩;have⟨j,m,e⟩:=np.1 n;have⟨cv,c,f⟩:=ho i gg;have⟨p,c',g⟩:=ho j (hP _ m);simp[rX,f,eg]at d;simp[rX,g,eg]at e;have:=h.t i j _ _ _ _ b f g (HE d) (HE e);grind
theorem abl{n ok}(h:aD P w0 conc st a w)(z:∀b,cZ conc b->n<=b)(N:∀b,n<=b->ok b)(O:∀b,conc.B b->ok b):(o:List Ty)->{l:List bQ}->{vs:List eb}->{r:ax o}->(zH o l).af st=some r->bU (di P w conc (ae conc)) l vs->∃v,vs= [v]/\iL P w ok o v r/\kz P n w conc.B o v r:=by
 intro o l vs r f d;unfold zH at f;split at f
 rename_i e id ver
 match vs,d with
 | [v],d=>
  simp[RM.af]at f;split at f;rename_i cv aj l Y;have⟨t,j⟩:=dE f;have:=cU t;subst this;split at j;rename_i x A;cases j;have⟨U,A⟩:=kC A;have⟨c,al,k1,s⟩:=pW h Y;have⟨ai,c',am,m1,m2,ak,af⟩:=d.1;rw[k1]at m1;cases m1;have ac:=af rfl;subst ac;cases U;subst A;obtain⟨rfl,s⟩:=s;refine⟨v,rfl,?_,?_⟩;refine⟨[v],rfl,?_⟩;obtain⟨g,m⟩| ⟨b,off,cap,cs,T,g,m,B,C,D,E⟩:=s
  refine⟨none,0,?_,?_,.inl rfl⟩;rw[g,m];rfl;rw[m];exact df _;refine⟨some ⟨b,off,none⟩,cap,by rw[g],B,.inr ⟨b,off,cs,T,_,rfl,?_,m,?_,.inr C,λ i y u=>?_⟩⟩;exact N b (z b ⟨id,cv,v,k1,by rw[g];rfl⟩);exact D;exact(E i y u).c λ b k _=>O b k.1;obtain q| ⟨b,off,cap,cs,T,g,m,B,C,D,E⟩:=s;exact .inl q;refine .inr ⟨b,off,cap,cs,T,g,z b ⟨id,cv,v,k1,by rw[g];rfl⟩,m,B,C,D,λ i y u=>(E i y u).c λ ah J _=> ⟨J.1,λ e=>?_⟩⟩;subst e;exact J.2 id _ v k1 (by rw[g];rfl);trivial;trivial| [],d=>trivial|_::_::_,d=>exact d.2.elim
 match vs,d with
 | [v],d=>cases f;have ad:v= .slice none 0 0:=d.1;subst ad;exact⟨_,rfl,⟨_,rfl,aw.h⟩,.inl ⟨rfl,rfl⟩⟩| [],d=>exact d.elim|_::_::_,d=>exact d.2.elim
 rename_i x y l
 match vs,d with
 | [v],d=>
  have⟨q,t,j⟩:=RM.aI f;have⟨us,Z,aa,ab⟩:=d.1;have⟨cs,ag,bs,F,p,R,G,H,I⟩:=FZ h z _ t ab;split at j;rename_i X;have⟨W,S⟩:=dE j;cases S;rw[X]at p
  match ag,p with
  | [],_=>
   rw[kp]at F;subst F;have Q:v=(Ty.aF x y).d us:=by rw[Z];simp[Ty.d,Ty.c]
   refine⟨v,rfl,⟨us,Q,G.d (λ b k _=>O b k.1) N⟩,us,bs,Q,aa,?_,R,G.b λ b k _=> ⟨k.1,λ M=>?_⟩⟩;rw[H];exact Mu h (Mx W) I;rw[H]at M;have⟨id,V,K⟩:=np.1 M;have⟨cv,c,L⟩:=I id V;simp[rX,L,eg]at K;exact k.2 id cv c L (HE K)
  |_::_,p=>exact p.elim
  cases j| [],d=>exact d.elim|_::_::_,d=>exact d.2.elim
 cases f
theorem kz.b{ok'}(k:cM w ok ok')(h:kz P n w ok ts v r):kz P n w ok' ts v r:=by unfold kz at h⊢;split at h;obtain h| ⟨b,off,cap,cs,T,c,d,e,f,g,m,o⟩:=h;exact .inl h;exact .inr ⟨b,_,_,_,T,c,d,e,f,g,m,λ i x p=>(o i x p).c λ l a j=> ⟨k _ a.1 j,a.2⟩⟩;have⟨vs,bs,c,d,e,f,g⟩:=h;exact⟨_,_,c,d,e,f,g.b λ l a j=> ⟨k _ a.1 j,a.2⟩⟩;omega
theorem agJ{ok'}(a:cM w ok ok')(h:iL P w ok ts v r):iL P w ok' ts v r:=iL.b ⟨df _,λ _ _ _=>rfl⟩ a _ h
theorem aD.O{s}(h:aD P s conc st a w)(r)(b:sQ {s with f:=r}):aD P {s with f:=r} conc st {a with defers:=r} w:={g:=rfl,n:=h.n,m:=h.m,k:=h.k,q:=h.q,r:=h.r,t:=h.t,f:=h.f,e:= ⟨h.e.i,h.e.g,h.e.f,h.e.d,h.e.e⟩,u:=h.u,x:=h.x,h:=b,l:=h.l}
theorem aeH{n s}(A:jz n s)(Q:n.d=n.w.heap.size)(h:aD P s conc st a w){d r}(E:a.defers=d::r):∃D,d={target:= .collected D,args:= #[]}/\(Instr.takeDeferred D).run P w= .ok [] (w.putObj D (.deferred none))/\∃s',jz n s'/\cT P s' st {a with defers:=r} (w.putObj D (.deferred none)):=by
 have G:s.f=d::r:=h.g.symm.trans E;have⟨D,e,z,u,N⟩:=h.h.f d (by grind);have H:=(dk.1 z).1;have C:w.heap[D]?=some (.deferred (some [])):=(h.e.e D H λ g=>u (h.h.e D g)).trans z;have x:=h.h.h;rw[G,gf]at x;have y:∀b,b≠D->(w.putObj D (.deferred none)).heap[b]?=w.heap[b]?:=λ b l=>eV l;have R:(w.putObj D (.deferred none)).heap.size=w.heap.size:=by simp
 have O:=h.e.d;refine⟨D,e,run_takeDeferred C,⟨w.putObj D (.deferred none),s.B,cZ conc,r,s.b,s.e,s.d⟩,?_,?_⟩;have k:=A.f h.C.h;exact{
  j:=k.j
  g:=k.g
  c:= ⟨k.c.d,k.c.e⟩
  d:=by
   have:=k.d;show n.w.heap.size<=(w.putObj D _).heap.size;have u:n.w.heap.size<=w.heap.size:=this;omega
  e:=λ b l J=>(y b λ g=>by
   have:=A.h;omega).trans (k.e b l J)
  M:=k.M
  q:=k.q
  p:=k.p
  h:=k.h
  m:=k.m}
 have K:aD P {s with f:=r} conc st {a with defers:=r} w:=h.O r {
  i:=h.h.i
  e:=h.h.e
  f:=λ t F=>h.h.f t (by grind)
  h:=x.2
  g:=h.h.g}
 refine⟨_,aD.H K _ (by omega) (λ b _ l=>y b λ g=>u (by rw[<-g,<-h.u];omega)) (λ b _ l=>by rw[<-h.u];omega) rfl rfl (λ b l=>l) rfl rfl rfl {
  i:=λ b l=>h.h.i b (by
   grind)
  e:=λ b⟨i,v,c,g1,B⟩=>h.z g1 B
  f:=λ t F=>by
   obtain⟨o,e',k1,k2,L⟩:=h.h.f t (by grind);have I:=(dk.1 k1).1;refine⟨o,e',(y o λ g=>?_).trans ((h.e.e o I λ g=>k2 (h.h.e o g)).trans k1),k2,L⟩
   grind
  h:=x.2
  g:=by
   grind}⟩
theorem Gp(hE:al P E){fn f fresh ex j ok w1 O n}:∀A{s:bC}{a:hM}{w:dr},a.defers=A->jz ⟨w1,ft ok w1,λ _=>False,[],O,0,w1.heap.size⟩ s->cT P s st a w->xj E fresh fn.results.toList f ex st=some j->LeavesInM hZ n P fn a.tmps (λ e w'=>∃v,e= .returned v/\cm w1 w'/\iL P w' (ft ok w1) f v j/\(fresh=true->kz P w1.heap.size w' (ft ok w1) f v j)) A .returning w
 |d::r,s,a,w,B,p,⟨conc,i⟩,h=>by have⟨D,e,N,s',J,K⟩:=aeH p rfl i B;subst e;exact⟨by simp,.inl ⟨D,_,rfl,N,Gp hE r (a:={a with defers:=r}) rfl J K h⟩⟩| [],s,a,w,B,p,⟨conc,i⟩,h=>by
  have m:=p.f i.C.h;have C:cm w1 w:= ⟨m.j,m.g,m.c,m.d,λ b c=>m.e b c id⟩;have z:cM w conc.B (ft ok w1):=λ b c _=>by
   rw[i.u]at c;by_cases o:b<w1.heap.size;exact p.p b o c;exact .inr (by omega)
  have L:∀b,cZ conc b->w1.heap.size<=b:=λ b c=>by
   rcases m.M b c with g|g;exact g.elim;exact g
  have key:(bif fresh then((po E fn.results.toList).aB λ l=>zH f l).jT st some else((po E fn.results.toList).aB λ l=>rl E f l).jT st λ x=>some x.1)=some j->∃v,(mb fn a.tmps).run P w= .ok v w/\∃v',gu v= .returned v'/\cm w1 w/\iL P w (ft ok w1) f v' j/\(fresh=true->kz P w1.heap.size w (ft ok w1) f v' j):=by intro h;cases fresh with
   |true=>simp[cond_true]at h;rw[RM.sH]at h;cases k:((po E fn.results.toList).aB λ l=>zH f l).af st with|none=>rw[k]at h;cases h|some x=>
     rw[k]at h;cases h;have⟨l,u,y⟩:=RM.aI k;have⟨vs,q,t,F⟩:=EK hE i u;have⟨v,G,H,I⟩:=abl (ok:=λ b=>conc.B b\/w1.heap.size<=b) i L (λ b c=> .inr c) (λ b c=> .inl c) f y t;refine⟨_,JP q,v,?_,C,agJ (λ b c o=>?_) H,λ _=>I.b z⟩;rw[G];rfl
     obtain c|c:=c;exact z b c o;exact .inr c
   |false=>simp[cond_false]at h;rw[RM.sH]at h;cases k:((po E fn.results.toList).aB λ l=>rl E f l).af st with|none=>grind|some x=>
     rw[k]at h;cases h;have⟨l,u,y⟩:=RM.aI k;have⟨vs,q,t,F⟩:=EK hE i u;have hp:=(DF hE i f y t (aV x.2) λ _ h=>h).2;have M:fe P w (ft ok w1) f vs x.1:=IZ (λ b c o=>z b c.1 o) f hp;exact⟨_,JP q,_,rfl,C,Vr _ M,by grind⟩
  cases ex<;>simp[xj]at h<;>first|exact key h|cases h
def oI(E:aq)(fn:pN)(ins caps a:List Ty)(fresh:Bool)(O:List (Ev (ax a)))(x:ax ins)(y:ax caps):=match fn.body with|some c=>bif hS (ins.length+caps.length) fn.ntmps then dv E bT.b c O (uN fn.ntmps ins caps x y) (xj E fresh fn.results.toList a)else none|none=>none
theorem TO(hE:al P E)(m:P.funcs[f]?=some fn)(A:(fn.name== "runtime.NumGoroutine")=false)(v:fn.body=some c)
 {ins caps a:List Ty} {g:ax ins->ax caps->Option (ax a)} {fresh:Bool} {ev:Ev (ax a)} (z:eS P (bT.b (R:=ax a)) false c ev) (C:hS (ins.length+caps.length) fn.ntmps=true)
 (heq:∀x y,ev (uN fn.ntmps ins caps x y) (xj E fresh fn.results.toList a)=g x y):jf P f ⟨ins,caps,a,g,fresh⟩:=by
 refine⟨⟨_,m,A,by grind⟩,?_⟩;intro w ok vs cs x y r p q j;dsimp only at p q j;rw[<-heq]at j
 let t:bC:= ⟨w,ft ok w,λ _=>False,[],#[],0,w.heap.size⟩
 have u:oB P (bT.b (R:=ax a)) false (λ s b=>b=r/\jz t s):={
  d:=λ s s' b l i=> ⟨l.1,l.2.f i.h⟩
  c:=λ h=>absurd rfl h
  g:=λ _ _=> ⟨t,r,λ _ _=>Iff.rfl⟩
  f:=λ h=>absurd rfl h}
 refine nz.1 (pn (n:=7) m v trivial (fl (z _ rfl _ u _ _ _ _ _ _ j (L8 (by simp_all) p q _) ⟨rfl,jz.k _⟩) ?_));rintro e a' w'⟨s',B,st',o,⟨rfl,i⟩,k⟩;cases e with
 |normal=>exact Gp hE _ rfl i o k
 |ret=>exact Gp (ex:= .ret) hE _ rfl i o k
 |_=>trivial
theorem acR(hE:al P E)(i:P.follows .mixedOrders=true){f:hB}{fn}(d:P.funcs[f]?=some fn)(e:(fn.name== "runtime.NumGoroutine")=false){ins caps a g fresh O}(h:∀c,fn.body=some c->nN P (bT.b (R:=ax a)) false c O)(heq:∀x y,oI E fn ins caps a fresh O x y=g x y)(j:fn.body.isSome=true):jf P f ⟨ins,caps,a,g,fresh⟩:=by have⟨c,b⟩:=hy.1 j;unfold oI at heq;simp[b]at heq;cases k:hS (ins.length+caps.length) fn.ntmps with|true=>exact TO hE d e b (ji hE i c O (h c b)) k λ x y=>by grind|false=>refine⟨⟨fn,d,e,by grind⟩,λ w ok vs cs x y r m n l=>?_⟩;grind
def Cb:gw->au->Option (List α)| .normal,_=>some []| .ret,_=>some []|_,_=>none
def jP(tys:List Ty):bT (List (ax tys)):= ⟨tys,λ x A B=>tG x A B⟩
def Bb(E:aq)(fn:pN)(tys caps:List Ty)(O:List (Ev (List (ax tys))))(y:ax caps):=match fn.body with|some c=>bif fn.results.toList.isEmpty&&hS (1+caps.length) fn.ntmps then dv E (jP tys) c O (AX fn.ntmps caps y) Cb else none|none=>none
theorem adT{b x}{y:α}(h:(bif b then x else none)=some y):b=true/\x=some y:=by grind
theorem ahK{α x A B}{a:List α}(h:tG x A B=some a):∃ys,A=some ys/\B=some []/\a=x::ys:=by unfold tG at h;cases A with|none=>cases h|some ys=>cases B with|none=>cases h|some b=>grind
def xX(l:Nat)(w1:dr)(ok:Nat->Prop)(xs:List α)(J:Nat->(Nat->Prop)->(Nat->Prop)->dr->Prop)(c:(Nat->Prop)->(Nat->Prop)->dr->Prop)(s:bC)(a:List α):=s.f= []/\s.e=l/\w1.heap.size<=s.w.heap.size/\∃A,(∀b,A b->b<s.w.heap.size)/\(∀b,s.M b->A b)/\(∀b,b<s.w.heap.size->s.B b->ok b\/A b)/\((∃k,k<=xs.length/\xs.drop k=a/\J k A s.M s.w)\/(a= []/\c A s.M s.w))
theorem xX.b{l xs J p}(E:∀k A S W A' n o,J k A S W->wm A S W A' n o->J k A' n o)(F:∀A S W A' n o,p A S W->wm A S W A' n o->p A' n o){s s'}{q:List α}(h:xX l w1 ok xs J p s q)(c:lU s s'):xX l w1 ok xs J p s' q:=by
 have⟨r,t,B,A,C,u,v,D⟩:=h;have z:=c.e;have y:wm A s.M s.w (λ b=>A b\/(s.w.heap.size<=b/\b<s'.w.heap.size)) s'.M s'.w:={
  l:=c.k
  g:=c.f
  e:=c.c
  f:=z
  d:=c.d
  m:=λ b a=> .inl a
  j:=λ b a=>a.imp id λ g=>g.1
  i:=λ b a=>by grind
  k:=λ b a=>(c.M b a).imp id λ g=>g.1
  h:=λ b a=>(c.M b a).imp (u b) id};refine⟨c.q.trans r,c.m.trans t,by omega,_,λ b a=>?_,y.h,λ b a w=>?_,?_⟩
 grind
 by_cases x:b<s.w.heap.size;exact(v b x ((c.B b).1 w)).imp id .inl;omega;grind
theorem Q2{tys:List Ty}(ac:tys≠[]){AR:dr->(Nat->Prop)->Array eb->ax tys->Prop}(K:∀W o m x,fe P W o tys m x->AR W o m.toArray x)
 (Y:P.funcs[f]?=some fn) (R:fn.body=some c) (ai:fn.results.toList= []) {ev:Ev (List (ax tys))} (X:eS P (jP tys) false c ev)
 {A0:Nat->Prop} {xs:List (ax tys)} {xa:au} (I:∀b,A0 b->b<w1.heap.size)
 (V:∀l,cT P ⟨w1,λ b=>(ok b\/A0 b)\/w1.heap.size<=b,A0,[],#[],l,w1.heap.size⟩ xa {tmps:=(#[k3 (.yield l) #[] #[]]++cs.toArray)++gb (fn.ntmps- (#[k3 (.yield l) #[] #[]]++cs.toArray).size) kR,defers:= []} w1)
 (ad:ev xa Cb=some xs):ET P AR f cs.toArray A0 w1 ok xs:=by
 intro l J r F G N h0;have M:oB P (jP tys) false (xX l w1 (λ b=>ok b/\b<w1.heap.size) xs J r):={
  d:=λ s s' C h ab=>h.b F G ab
  c:=λ _ s C h=>h.1
  g:=λ _ h=>absurd h ac
  f:=λ _ s C x A B m q ah U Q=>by
   obtain⟨ys,rfl,rfl,rfl⟩:=ahK U;obtain⟨h1,h2,h3,A,h4,h5,h6,w⟩:=q;rcases w with⟨k,q1,q2,z⟩| ⟨q1,_⟩
   have hlt:k<xs.length:=by
    grind
   rw[hv hlt]at q2;have q2:=List.cons.inj q2;have aa:xs[k]?=some x:=by rw[eL hlt];exact congrArg _ q2.1
   have L:AR s.w (λ b=>(ok b/\b<w1.heap.size)\/(A b/\¬s.M b)) m.toArray x:=K _ _ _ _ (IZ (λ b i hlt=>(h6 b hlt i.1).imp id λ g=> ⟨g,i.2⟩) tys Q);obtain⟨dP,tm1,as1,bd1,y1,ae⟩:=N k x A s.M s.w m.toArray z aa L;rw[h2];refine⟨_,_,_,_,y1,ae.mono ?_⟩;rintro e t⟨k1,j⟩;have y:=k1.d;have hA':∀b,A b->b<t.heap.size:=λ b i=>ep (h4 b i) y;have hB':∀b,b<t.heap.size->(s.g t).B b->(ok b/\b<w1.heap.size)\/A b:=λ b i p=>by
    rcases p with⟨af,ag⟩|g
    all_goals grind
   refine⟨⟨k1.h,k1.g,k1.f,k1.d,λ b i p=>k1.e b i (h6 b i p)⟩,?_⟩;rcases j with⟨rfl,j⟩| ⟨rfl,j⟩
   exact⟨_,rfl,_,rfl,h1,h2,fu h3 y,A,hA',h5,hB',.inl ⟨_,hlt,q2.2,j⟩⟩;exact⟨_,rfl,_,rfl,h1,h2,fu h3 y,A,hA',h5,hB',.inr ⟨rfl,j⟩⟩
   trivial}
 refine nz.1 (callsIn_of_wp (n:=7) Y R trivial (fl (X none rfl _ M _ _ _ _ _ _ ad (V l)
  ⟨rfl,rfl,df _,A0,I,(λ _ h=>h),λ b i p=>?_,.inl ⟨0,gE _,rfl,h0⟩⟩) ?_))
 grind
 rintro e a' w'⟨s',D,st',⟨conc,H⟩,q,E⟩;have T:a'.defers= []:=H.g.trans q.1;have Z:xX l w1 (λ b=>ok b/\b<w1.heap.size) xs J r (s'.c conc a' w') D:=q.b F G H.C;have key:D= []->a'.defers= []/\∃v,(mb fn a'.tmps).run P w'= .ok v w'/\((∃u,gu v= .returned u)/\((∃A S,J xs.length A S w')\/∃A S,r A S w')):=by
  intro O;subst O;refine⟨T,_,JP (a:=a') (vs:= []) (by simp_all),⟨_,rfl⟩,?_⟩;obtain⟨h1,h2,h3,A,h4,h5,h6,w⟩:=Z;rcases w with⟨k,q1,q2,z⟩| ⟨_,q2⟩
  have:k=xs.length:=by
   grind[List.drop_eq_nil_iff]
  subst this;exact .inl ⟨_,_,z⟩;exact .inr ⟨_,_,q2⟩
 cases e with
 |normal=>exact key (by cases E;rfl)
 |ret=>exact key (by cases E;rfl)
 |_=>trivial
theorem aap(hE:al P E)(p:P.follows .mixedOrders=true)(k:P.funcs[f]?=some fn)(u:(fn.name== "runtime.NumGoroutine")=false){a b caps}{g:ax caps->Option (List (a.b×b.b))}{O}(n:∀c,fn.body=some c->nN P (jP [a,b]) false c O)(heq:∀y,Bb E fn [a,b] caps O y=g y)(s:fn.body.isSome=true):yk P f ⟨caps,.dX a b,g⟩:=by
 have⟨c,j⟩:=hy.1 s;refine⟨rfl,λ w ok cs y xs m i=>?_⟩;dsimp only at m i;refine⟨f,cs.toArray,rfl,⟨fn,k,u,by grind⟩,λ w' ok' t v=>?_⟩;have d:=(heq y).trans i;unfold Bb at d;rw[j]at d;have⟨q,d⟩:=adT d;simp[b2]at q;refine Q2 (tys:= [a,b]) (A0:=λ _=>False) (by simp) (λ W o F x i=>?_) k j (by grind) (ji hE p c O (n c j)) (λ _ h=>h.elim) (λ l=>by
  have e:ft ok' w'=λ b=>(ok' b\/False)\/w'.heap.size<=b:=by grind[ft]
  rw[<-e];exact abf l (by simp_all) (m.b t v _) _) d;have⟨us,r,z,A,D,B,C⟩:=i;grind
end
section
variable[Dr]
variable{P:ee}{E:aq}{w:dr}{f:hB}{fn:pN}{c:ej}{st:au}
theorem akp{b:bC}(j:b.d=b.w.heap.size){R:Ending->dr->Prop}{n:Nat}:∀(g:List mn){s:bC}{a:hM}{w:dr},a.defers=g->jz b s->cT P s st a w->
 (∀(s:bC)(a':hM)(w:dr),a'.tmps=a.tmps->jz b s->cT P s st a' w->∃v,(mb fn a.tmps).run P w= .ok v w/\R (.returned v) w)->LeavesInM hZ n P fn a.tmps R g .returning w
 |d::r,s,a,w,i,c,⟨conc,f⟩,h=>by
  obtain⟨D,e,m,s',k,l⟩:=aeH c j f i;subst e;exact⟨by simp,.inl ⟨D,_,rfl,m,akp j r (a:={a with defers:=r}) rfl k l h⟩⟩
 | [],s,a,w,i,c,f,h=>h s a w rfl c f
def akE(N:Nat)(t:Ty)(ins:List Ty)(d:t.b)(x:ax ins):au:=
 {N,d:= [],a:=yA 0 (mh ins x++ [.dx N 0 0]),b:= [(N,(0,.eu t (tn t d)))],c:= [ins.length]}
def al7(E:aq)(t:Ty)(k:Nat):gw->au->Option t.b
 | .normal,st| .ret,st=>bif ot st.c [k]then((c9 [] (.tmp k)).aB λ
  | .dx id ver 0=> .dS id λ
   |some (cv,.eu u cells)=>bif cr cv ver then(iD E u cells).aB λ p=>bif p.2.isEmpty&&p.1.2.isEmpty then .nS (gN (t:=u) (t':=t) p.1.1)else .aa else .aa
   |_=> .aa
  |_=> .aa).af st else none
 |_,_=>none
theorem aoC{v:eb}{ok:Nat->Prop}{y:List eb}{N:Nat}{o:fJ}{al:List aU}{F:List Nat}(Y:eY v=true)(U:∀b,dB v b->¬ok b)(T:∀b,dB v b->b<w.heap.size)
 (O:∀conc:bf,(∀b,ok b->ae conc b)->fS P w conc (ae conc) v true o)
 (Q:∀conc:bf,conc N=some (0,v,true)->(∀b,ok b->ae conc b)->bU (bN P w conc (ae conc)) al y)(W:y.length<=N):
 cT P ⟨w,λ b=>ft ok w b\/dB v b,dB v,[],y.toArray++gb (N- y.toArray.size) kR,0,w.heap.size⟩ {N,d:= [],a:=yA 0 al,b:= [(N,(0,o))],c:=F} {tmps:=y.toArray++gb (N- y.toArray.size) kR,defers:= []} w:=by
 let conc:bf:= ⟨λ i=>if i=N then some (0,v,true)else none,λ b=>ft ok w b\/dB v b,0⟩
 have B:∀i ver c D,conc i=some (ver,c,D)->i=N/\ver=0/\c=v/\D=true:=λ i ver c D h=>by
  show _;simp only[conc]at h;split at h
  rename_i e;cases h;exact⟨e,rfl,rfl,rfl⟩;cases h
 have J:∀b,ok b->ae conc b:=λ b s=> ⟨.inl (.inl s),λ id ver c h R=>by obtain⟨_,_,rfl,_⟩:=B _ _ _ _ h;exact U b R s⟩;have I:conc N=some (0,v,true):=by simp[conc]
 have H:=Q conc I J;have X:=H.b;refine⟨conc,{g:=rfl,n:=?_,m:=?_,k:=?_,q:=?_,r:=?_,t:=?_,f:=?_,e:= ⟨rfl,rfl,⟨rfl,λ _=>df _⟩,df _,λ _ _ _=>rfl⟩,u:=rfl,x:=rfl,h:=?_,l:=λ _ _=>rfl}⟩
 simp;omega;intro d sl z p hp;obtain⟨i,a,_,_,e⟩:=CC _ _ _ z;subst e;cases hp;intro d sl z;obtain⟨i,a,E,K,L⟩:=CC _ _ _ z;rw[p8]at E;subst E;obtain⟨u,G,M⟩:=bU.h d a H K;refine⟨u,?_,?_⟩;have:d<y.length:=(eo.1 G).1;simpa[hq,this]using G;rw[L];exact⟨λ _=> ⟨rfl,M⟩,absurd (cG _)⟩;intro id ver Z A;simp only[Map.av,gF]at A;by_cases e:N=id;subst e;simp only[decide_true,cond_true]at A;cases A;exact⟨v,true,I,O conc J⟩;simp only[e,decide_false,cond_false]at A;cases A;intro id z;simp only[Map.av,gF]at z;by_cases e:N=id;subst e;simp at z;simp only[conc];rw[if_neg (Ne.symm e)];intro i j V aa c c' b C S _ _;exact(B _ _ _ _ C).1.trans (B _ _ _ _ S).1.symm;intro i V c b C s;obtain⟨_,_,rfl,_⟩:=B _ _ _ _ C;exact⟨.inr s,T b s⟩;exact{i:=λ b s=> .inl (.inr s),e:=λ b s=> .inr s,f:=(λ _ h=>(by cases h)),h:=fR,g:=df _}
theorem anM(l:List eb)(r:Array eb){i:Nat}{v:eb}(h:l[i]?=some v):(l.toArray++r)[i]?=some v:=by
 have a:=(eo.1 h).1;rw[hq (by simpa using a)];simpa using h
theorem apc{s:bC}{v:eb}{ok:Nat->Prop}{k:Array eb}{conc:bf}{a:hM}{w':dr}{id ver:Nat}(f:jz ⟨w,λ b=>ft ok w b\/dB v b,dB v,[],k,0,w.heap.size⟩ s)(g:aD P s conc st a w')(j:conc id=some (ver,v,true)):
 aeE v w w'/\cM w' (ae conc) (ft ok w):=by
 have c:=f.f g.C.h;refine⟨⟨c.j,c.g,c.c,c.d,c.e⟩,λ b e l=>?_⟩;by_cases h:b<w.heap.size
 have i:s.B b:=by rw[<-g.u];exact e.1
 rcases f.p b h i with d|d;exact d;exact absurd d (e.2 id ver v j);exact .inr (by omega)
theorem aoA(hE:al P E)(ag:P.follows .mixedOrders=true)(H:P.funcs[f]?=some fn)(aq:(fn.name== "runtime.NumGoroutine")=false)(G:fn.body=some c)(az:fn.results.toList= [])
 {t:Ty}{ins:List Ty}{g:t.b->ax ins->Option t.b}{O:List (Ev t.b)}(af:nN P (bT.b (R:=t.b)) false c O)(ao:hS (ins.length+1) fn.ntmps=true)(K:t.h=true)
 (heq:∀d x,dv E (bT.b (R:=t.b)) c O (akE fn.ntmps t ins d x) (al7 E t ins.length)=g d x):aiT P f ⟨t,ins,g⟩:=by
 refine⟨⟨_,H,aq,by rw[G];rfl⟩,?_⟩;intro w ok p vs d x r hp B ar A;dsimp only at hp B A r;rw[<-heq]at A;obtain⟨l,cs0,U,rfl,J,ay⟩:=hp;have ap:∀b,dB (.pointer (some ⟨l,0,none⟩)) b->b<w.heap.size:=λ b k=>by cases k;exact(dk.1 J).1
 have aC:=Su ins B
 let v:Value:= .pointer (some ⟨l,0,none⟩)
 let Q:Array Value:=(vs++ [v]).toArray++gb (fn.ntmps- (vs++ [v]).toArray.size) kR
 let m:bC:= ⟨w,λ b=>ft ok w b\/dB v b,dB v,[],Q,0,w.heap.size⟩
 have ad:oB P (bT.b (R:=t.b)) false (λ s b=>b=r/\jz m s):={
  d:=λ s s' b k j=> ⟨k.1,k.2.f j.h⟩
  c:=λ h=>absurd rfl h
  g:=λ _ _=> ⟨m,r,λ _ _=>Iff.rfl⟩
  f:=λ h=>absurd rfl h}
 have aj:cT P m (akE fn.ntmps t ins d x) {tmps:=Q,defers:= []} w:=aoC (o:= .eu t (tn t d)) rfl ar ap (λ conc I=>by
  have C:aw P t w (ae conc) cs0.toList d:=ay.e t K;have L:=Al (conc:=conc) t C;exact⟨rfl,l,cs0,U,rfl,J,by rw[L.b];exact C.d,C.f,L⟩)
  (λ conc ah I=>((HA (conc:=conc) ins B).e λ a b h=>bN.b ⟨df _,λ _ _ _=>rfl⟩ (λ b k _=>I b k) (fU.b _) a h).d ⟨⟨0,v,true,ah,df _,rfl,λ _=> ⟨l,rfl,rfl⟩⟩,trivial⟩) (by have:=nf ao;simp;omega)
 refine nz.1 (pn (n:=7) H G trivial (fl (ji hE ag c O af _ rfl _ ad _ _ _ _ _ _ A aj ⟨rfl,jz.k _⟩) ?_));rintro ex a' w'⟨s',aM,st',i,⟨k,j⟩,e⟩;rw[k]at e;have key:∀{st':au}{a:hM}{w':dr}{s':bC},cT P s' st' a w'->jz m s'->(bif ot st'.c [ins.length]then((c9 [] (.tmp ins.length)).aB λ
  | .dx id ver 0=>RM.dS id λ
   |some (cv,.eu u cells)=>bif cr cv ver then(iD E u cells).aB λ p=>bif p.2.isEmpty&&p.1.2.isEmpty then .nS (gN (t:=u) (t':=t) p.1.1)else .aa else .aa
   |_=> .aa
  |_=> .aa).af st' else none)=some r->∃u,(mb fn a.tmps).run P w'= .ok u w'/\gu u= .returned (.tuple #[])/\aeE v w w'/\adL P w' (ft ok w) t v r:=by
  rintro st' a w' s'⟨conc,i⟩j e;obtain⟨X,e⟩:=adT e;have am:=EW X;obtain⟨b,Y,e⟩:=RM.aI e;split at e
  rename_i id ver;simp only[RM.af]at e;split at e;rename_i cv u cells av;obtain⟨Z,D⟩:=dE e;clear e;have:=cU Z;subst this;obtain⟨q,ab,F⟩:=RM.aI D;obtain⟨y,ac⟩:=dE F;clear D F;simp only[b2]at y;obtain⟨ai,an⟩:=kC (RM.Ae ac);cases ai;subst an;have V:q.2= []:=by simpa using y.1
  have W:q.1.2= []:=by simpa using y.2
  obtain⟨c',aO,k1,⟨rfl,b,cs,T,aH,aI,aP,aJ,aK⟩,aN,aF,N⟩:=sR i av (dQ i (cG _) Y);have aA:a.tmps[ins.length]?=some v:=(i.l _ (by rw[am];simp)).trans (by rw[j.m];exact anM _ _ (by rw[<-aC];simp));have ak:a.eval (.tmp ins.length)=v:=by simp[k7,aA]
  rw[ak]at N;subst aF;cases aH;have aG:Value.pointer (some ⟨l,0,none⟩)=_:=N;cases aG;obtain⟨aL,aQ⟩:=apc (v:=v) j i k1;obtain⟨us,S,aD,aE,M⟩:=CY hE i _ ab aK aJ;have aB:S= []:=by
   rw[V]at M;cases S with
   |nil=>rfl
   |cons _ _=>exact M.elim
  refine⟨_,JP (vs:= []) (by rw[az];rfl),rfl,aL,l,cs,T,rfl,aI,?_⟩;rw[aD,aB,kp];exact((aE [] (by simp[W,aV])).2).e _ K;cases e;cases e
 cases ex with
 |normal=>exact akp rfl _ rfl j i λ s a' w z j i=>by rw[<-z];exact key i j e
 |ret=>exact akp rfl _ rfl j i λ s a' w z j i=>by rw[<-z];exact key i j e
 |_=>cases e
end
section
variable[Dr]
variable{P:ee}{w:dr}
variable {ok:Nat->Prop} {xs:Array eb} {t:Ty} {l:List eb} {T T':Nat} {e:Ty} {K:Nat} {k:Ty} {d:Nat}
def vg(P:ee)(T:Nat)(t:Ty):=bif t.c then(match P.underlying T with|some (.struct _)=>true|some (.array _ _)=>true|_=>false)&& (match P.info? T with|some i=>cr i.size t.a|none=>false)else P.plainKey T
theorem Dc{off a b}:(aS l off (a+b)).take a=aS l off a:=by grind[aS,Nat.min_eq_left]
theorem DG{off a b}:(aS l off (a+b)).drop a=aS l (off+a) b:=by grind[aS,List.drop_take,k6]
theorem nW{T t}(h:vg P T t=true){ok xs off d}(k:aw P t w ok (aS xs.toList off t.a) d):(o1 T xs off).run P w= .ok (t.d (aS xs.toList off t.a)) w:=by
 unfold vg at h;cases hp:t.c;rw[hp]at h;simp only[cond_false]at h;have c:=k.d;have a:=uI hp;rw[a]at c⊢
 match f:aS xs.toList off 1,c with
 | [v],_=>
  have g:(aS xs.toList off 1)[0]?=some v:=by rw[f];rfl
  obtain⟨_,e⟩:=Ct g;rw[mo,Array.getElem?_toList]at e;have:t.d [v]=v:=by unfold Ty.d;rw[hp];rfl
  rw[this];exact run_part_plain w h e
 rw[hp]at h;simp only[cond_true,b2]at h;obtain⟨a,b⟩:=h;cases j:P.info? T with
 |none=>grind
 |some i=>
  rw[j]at b;have m:=cU b;have n:(pS T).run P w= .ok t.a w:=by simp_all[pS,typeInfo]
  have l:(isAgg T).run P w= .ok true w:=by
   unfold isAgg;split at a
   all_goals simp_all[ef,et]
  have:t.d (aS xs.toList off t.a)= .agg (xs.extract off (off+t.a)):=by
   unfold Ty.d;rw[hp];simp only[if_true]
   congr 1
   grind[Array.ext',Array.toList_extract,aS]
  simp_all[o1]
def BC(P:ee)(dd T:Nat)(t:Ty):=∀(w:dr)ok vs us x y,aw P t w ok vs x->aw P t w ok us y->(hz dd T (t.d vs) (t.d us)).run P w= .ok (t.f x y) w
def EN(P:ee)(dd T:Nat)(t:Ty):=∀(w:dr)ok vs x b,aw P t w ok vs x->(en b dd T (t.d vs)).run P w= .ok () w
def ns(rec:Nat->Ty->Bool)(P:ee):List j2->Nat->Ty->Bool| [f],off,t=>f.name != "_" &&cr f.offset off&&vg P f.type t&&rec f.type t|f::g::r,off,.aF a b=>f.name != "_" &&cr f.offset off&&vg P f.type a&&rec f.type a&&ns rec P (g::r) (off+a.a) b|_,_,_=>false
def mY(P:ee):Nat->Nat->Ty->Bool
 |0,_,_=>false
 |d+1,T,t=>match P.underlying T with
  |some (.int k)=>decide (t= .ay k)
  |some .bool=>decide (t= .aO)
  |some .string=>decide (t= .aJ)
  |some (.struct fs)=>t.c&&!P.stoodInHeld T&&ns (mY P d) P fs.toList 0 t
  |some (.array n T')=>match t with
   | .aF e _=>decide (t=Ty.e e n)&&vg P T' e&&mY P d T' e&& (match P.info? T' with
    |some i=>cr i.size e.a
    |none=>false)
   |_=>false
  |_=>false
theorem No(x y):((⟨⟨x⟩⟩:ByteArray)== ⟨⟨y⟩⟩)=(x==y):=by grind[beq_toListBytes,ByteArray.toList_eq]
section
variable{dd:Nat}
theorem PR{rec}(m:∀T t,rec T t=true->BC P dd T t)(w){ys}:∀fs off t{x y:t.b},ns rec P fs off t=true->aw P t w ok (aS xs.toList off t.a) x->aw P t w ok (aS ys.toList off t.a) y->(nv dd xs ys fs).run P w= .ok (t.f x y) w
 | [],_,_,_,_,h,_,_=>by trivial| [f],off,t,x,y,h,d,i=>by simp only[ns,b2,bne_iff_ne,ne_eq]at h;have⟨⟨⟨k,c⟩,hp⟩,l⟩:=h;have c:=cU c;rw[<-c]at d i;simp[nv,k,ne_eq,not_false_eq_true,if_true,ef,nW hp d,nW hp i,ea,m _ _ l w ok _ _ x y d i];cases t.f x y<;>simp|f::g::r,off,.aF a b,(x,x'),(y,y'),h,d,i=>by simp only[ns,b2,bne_iff_ne,ne_eq]at h;have⟨⟨⟨⟨k,c⟩,hp⟩,l⟩,p⟩:=h;have c:=cU c;have⟨e,n⟩:=d;have⟨j,o⟩:=i;simp[Ty.a]at e n j o;rw[Dc]at e j;rw[DG]at n o;rw[<-c]at e j;have q:=PR m w (g::r) (off+a.a) b p n o;rw[nv];simp[k,ne_eq,not_false_eq_true,if_true,ef,nW hp e,nW hp j,ea,m _ _ l w ok _ _ x y e j,Ty.f];cases a.f x y;all_goals trivial|_::_::_,_,.ay _,_,_,h,_,_|_::_::_,_,.aO,_,_,h,_,_|_::_::_,_,.aJ,_,_,h,_,_|_::_::_,_,.aH _,_,_,h,_,_|_::_::_,_,.dP _ _,_,_,h,_,_|_::_::_,_,.dX _ _,_,_,h,_,_|_::_::_,_,.cO _ _,_,_,h,_,_|_::_::_,_,.ec _,_,_,h,_,_=>by trivial
theorem Q4{rec}(l:∀T t,rec T t=true->EN P dd T t)(i)(w):∀fs off t{x:t.b},ns rec P fs off t=true->aw P t w ok (aS xs.toList off t.a) x->(forIn (m:=Sem) fs ht λ f _=>if f.name≠ "_" then(do en i dd f.type (<-o1 f.type xs f.offset);pure (j3 ht))else pure (j3 ht)).run P w= .ok ht w
 | [],_,_,_,h,_=>by rfl| [f],off,t,x,h,d=>by simp only[ns,b2,bne_iff_ne,ne_eq]at h;have⟨⟨⟨j,c⟩,hp⟩,k⟩:=h;have c:=cU c;rw[<-c]at d;simp[hJ,j,ne_eq,not_false_eq_true,if_true,ef,nW hp d,ea,l _ _ k w ok _ x i d,hG,pt]|f::g::r,off,.aF a b,(x,x'),h,d=>by simp only[ns,b2,bne_iff_ne,ne_eq]at h;have⟨⟨⟨⟨j,c⟩,hp⟩,k⟩,o⟩:=h;have c:=cU c;have⟨e,n⟩:=d;simp[Ty.a]at e n;rw[Dc]at e;rw[DG]at n;rw[<-c]at e;have p:=Q4 l i w (g::r) (off+a.a) b o n;rw[hJ];simp only[j,ne_eq,not_false_eq_true,if_true,ef,nW hp e,ea,l _ _ k w ok _ x i e,hG];omega|_::_::_,_,.ay _,_,h,_|_::_::_,_,.aO,_,h,_|_::_::_,_,.aJ,_,h,_|_::_::_,_,.aH _,_,h,_|_::_::_,_,.dP _ _,_,h,_|_::_::_,_,.dX _ _,_,h,_|_::_::_,_,.cO _ _,_,h,_|_::_::_,_,.ec _,_,h,_=>by trivial
theorem MY(e):∀n,(Ty.e e (n+1)).a=(n+1)*e.a|0=>by simp[Ty.e]|n+1=>by simp[Ty.e,Ty.a,MY e n];grind
theorem Qa(hp:vg P T' e=true)(h:BC P dd T' e)(w){ys}:∀k i{x y:(Ty.e e (k+1)).b},aw P (Ty.e e (k+1)) w ok (aS xs.toList (i*e.a) (Ty.e e (k+1)).a) x->aw P (Ty.e e (k+1)) w ok (aS ys.toList (i*e.a) (Ty.e e (k+1)).a) y->(n2 dd T' e.a xs ys (qi i (k+1))).run P w= .ok ((Ty.e e (k+1)).f x y) w|0,i,x,y,a,b=>by have a:aw P e w ok (aS xs.toList (i*e.a) e.a) x:=a;have b:aw P e w ok (aS ys.toList (i*e.a) e.a) y:=b;simp[hD,n3,n2,ef,nW hp a,nW hp b,ea,h w ok _ _ x y a b];show _=qc (e.f x y) w;cases e.f x y<;>simp|k+1,i,(x,l),(y,m),a,b=>by have⟨c,d⟩:=a;have⟨f,g⟩:=b;simp[Ty.e,Ty.a]at c d f g;rw[Dc]at c f;rw[DG]at d g;rw[<-mr]at d g;have j:=Qa hp h w k (i+1) d g;rw[hD,n2];simp[ef,nW hp c,nW hp f,ea,h w ok _ _ x y c f];show _=qc (e.f x y&& (Ty.e e _).f _ _) w;cases e.f x y;all_goals trivial
theorem QV(hp:vg P T' e=true)(f:EN P dd T' e)(g:∀w,(pS T').run P w= .ok e.a w)(b)(w):∀k i{x:(Ty.e e (k+1)).b},aw P (Ty.e e (k+1)) w ok (aS xs.toList (i*e.a) (Ty.e e (k+1)).a) x->(forIn (m:=Sem) (qi i (k+1)) ht λ i _=>do en b dd T' (<-o1 T' xs (i* (<-pS T')));pure (j3 ht)).run P w= .ok ht w
 |0,i,x,a=>by have a:aw P e w ok (aS xs.toList (i*e.a) e.a) x:=a;simp[hD,n3,hJ,ef,g,nW hp a,ea,f w ok _ x b a,hG,pt]|k+1,i,(x,j),a=>by have⟨c,d⟩:=a;simp[Ty.e,Ty.a]at c d;rw[Dc]at c;rw[DG]at d;rw[<-mr]at d;have h:=QV hp f g b w k (i+1) d;rw[hD,hJ];simp only[ef,g,nW hp c,ea,f w ok _ x b c,hG];omega
end
theorem vZ(vs:Array eb)(t){x}(h:aw P t w ok vs.toList x):aS vs.toList 0 t.a=vs.toList:=by unfold aS;rw[k5,hF];have:=h.d;omega
theorem qQ(hp:t.c=true)(vs):t.d vs= .agg vs.toArray:=by grind[Ty.d]
theorem GU{a b n}(h:Ty.aF a b=Ty.e a n):1<=n:=by cases n with|zero=>have:=congrArg (λ t:Ty=>SizeOf.sizeOf t) h;grind[Ty.e]|succ n=>omega
theorem Aw:∀d T t,mY P d T t=true->∀m,BC P (m+d) T t/\EN P (m+d) T t
 |0,_,_,h,_=>by simp[mY]at h|d+1,T,t,h,m=>by
  unfold mY at h;split at h;rename_i k g;have c:=of_decide_eq_true h;subst c;refine⟨λ w ok vs us x y a f=>?_,λ w ok vs x b a=>?_⟩;simp only[aw]at a f;subst a;subst f;show(hz (m+d+1) T (.int k x) (.int k y)).run P w= .ok (x==y) w;simp[hz,et g];simp only[aw]at a;subst a;show(en b (m+d+1) T (.int k x)).run P w=_;simp only[en,ef,et g,ea];rfl;rename_i g;have c:=of_decide_eq_true h;subst c;refine⟨λ w ok vs us x y a f=>?_,λ w ok vs x b a=>?_⟩;simp only[aw]at a f;subst a;subst f;show(hz (m+d+1) T (.bool x) (.bool y)).run P w= .ok (x==y) w;simp[hz,et g];simp only[aw]at a;subst a;show(en b (m+d+1) T (.bool x)).run P w=_;simp only[en,ef,et g,ea];rfl;rename_i g;have c:=of_decide_eq_true h;subst c;refine⟨λ w ok vs us x y a f=>?_,λ w ok vs x b a=>?_⟩;simp only[aw]at a f;subst a;subst f;show(hz (m+d+1) T (.string ⟨⟨x⟩⟩) (.string ⟨⟨y⟩⟩)).run P w= .ok (x==y) w;simp_all[hz,ef,et,ea,No,hG];simp_all[aw,en,ef,et,ea];rename_i fs g;simp only[b2,fv]at h;obtain⟨⟨hp,z⟩,o⟩:=h;have u:P.fieldsOf T=fs:=by grind[Program.fieldsOf]
  refine⟨λ w ok vs us x y a f=>?_,λ w ok vs x b a=>?_⟩;rw[qQ hp,qQ hp,show m+ (d+1)=(m+d)+1 from rfl,run_equalIn_struct w _ T _ _ (by grind) z,u];refine PR (ok:=ok) (λ T t c=>(Aw d T t c m).1) w _ 0 t o ?_ ?_;rw[vZ (ok:=ok) (x:=x) vs.toArray t a];omega;rw[vZ (ok:=ok) (x:=y) us.toArray t f];exact f;rw[qQ hp,show m+ (d+1)=(m+d)+1 from rfl,en];simp only[ef,et g,ea];rw[<-Array.forIn_toList];have:=Q4 (ok:=ok) (dd:=m+d) (xs:=vs.toArray) (λ T t c=>(Aw d T t c m).2) b w fs.toList 0 t o (by rw[vZ (ok:=ok) (x:=x) vs.toArray t a];exact a);rw[this];rfl;rename_i n T' g;split at h;rename_i e r;simp only[b2]at h;obtain⟨⟨⟨c,p⟩,v⟩,l⟩:=h;have c:=of_decide_eq_true c;have C:1<=n:=GU c;obtain⟨k,rfl⟩:∃k,n=k+1:= ⟨n- 1,by omega⟩;cases j:P.info? T' with
  |none=>rw[j]at l;cases l
  |some i=>
   rw[j]at l;have q:=cU l;have s:P.cellsOf T'=e.a:=by simp[Program.cellsOf,j,q]
   obtain⟨A,B⟩:=Aw d T' e v m;refine⟨λ w ok vs us x y a f=>?_,λ w ok vs x b a=>?_⟩;rw[qQ rfl,qQ rfl,show m+ (d+1)=(m+d)+1 from rfl,run_equalIn_array w (m+d) _ _ g j,s,nc];revert x y;rw[c];intro x y a f;refine Qa (ok:=ok) p A w k 0 ?_ ?_;rw[hL,vZ (ok:=ok) (x:=x) vs.toArray _ a];exact a;rw[hL,vZ (ok:=ok) (x:=y) us.toArray _ f];exact f;rw[qQ rfl,show m+ (d+1)=(m+d)+1 from rfl,en];simp only[ef,et g,ea];simp only[pz,pv,Nat.sub_zero,Nat.add_one_sub_one,Nat.div_one];revert x;rw[c];intro x a;have:=QV (ok:=ok) (dd:=m+d) (xs:=vs.toArray) p B (λ w=>by simp[pS,typeInfo,j,q]) b w k 0 (by rw[hL,vZ (ok:=ok) (x:=x) vs.toArray _ a];exact a);rw[this];rfl
  cases h;cases h
theorem Ea:∀d T t,mY P d T t=true->t.i=true
 |0,_,_,h=>by trivial|d+1,T,t,h=>by
  have arr:∀e n,e.i=true->(Ty.e e (n+1)).i=true:=by
   intro e n l
   induction n with|zero=>trivial|succ n i=>grind[Ty.e,Ty.i,Bool.and_self]
  have j:∀fs off t,ns (mY P d) P fs off t=true->t.i=true:=by
   intro fs
   induction fs with|nil=>grind[ns]|cons f fs i=>intro off t h;cases fs with
    |nil=>simp[ns,b2]at h;exact Ea d _ t h.2|cons g r=>
     cases t<;>simp[ns,b2,fb]at h<;>try(exact h.elim)
     rename_i a b;simp[Ty.i,b2];exact⟨Ea d f.type a h.1.2,i _ b h.2⟩
  unfold mY at h;split at h;rw[of_decide_eq_true h];rfl;rw[of_decide_eq_true h];rfl;rw[of_decide_eq_true h];rfl;simp only[b2]at h;exact j _ _ _ h.2;rename_i n T' o;split at h;rename_i e r;simp only[b2]at h;have c:=of_decide_eq_true h.1.1.1;have m:=GU c;obtain⟨k,rfl⟩:∃k,n=k+1:= ⟨n- 1,by omega⟩;rw[c];exact arr e k (Ea d T' e h.1.2);cases h;cases h
theorem ae3(t:Ty)(h:t.i=true)(x y):t.f x y=t.f y x:=by induction t with
 |aF a b c d=>grind[Ty.i,Ty.f]|ay=>exact k8|aO=>exact k8|aJ=>exact k8|_=>cases h
theorem Py(a:BC P 10000 K k)(b:k.i=true)(w){ks x}(c:aw P k w ok ks x):∀ys es j,es.length=ys.length->(∀(i:Nat)y e,ys[i]?=some y->es[i]?=some e->∃us,e.key=k.d us/\aw P k w ok us y)->(nB K (k.d ks) es j).run P w= .ok (nF k x ys es j) w
 | [],[],j,_,_=>by rfl| [],_::_,_,h,_=>by trivial|_::_,[],_,h,_=>by rfl|y::ys,e::es,j,h,hr=>by
  have⟨us,d,g⟩:=hr 0 y e rfl rfl;have o:=Py a b w c ys es (j+1) (by grind) (λ i z f n m=>hr (i+1) z f (by trivial) (by trivial));have l:(Op.equal K (k.d ks) e.key).run P w= .ok (k.f y x) w:=by rw[d,ae3 k b];exact a w _ _ _ x y c g
  simp[nB,ef,l,ea,nF];cases k.f y x;all_goals trivial
theorem aaX{K k d}(G:d<=10000)(h:mY P d K k=true):Ad P K k:=by
 have⟨q,s⟩:=Aw d K k h (10000- d);rw[show 10000- d+d=10000 by omega]at q s;have n:=Ea d K k h;refine⟨n,h2' s,λ w ok ks x ys es o g l=>?_⟩;have A:=Py q n w o ys es 0 g l;have F:∀D ys es(j:Nat)r,es.length=ys.length->(∀(i:Nat)y e,ys[i]?=some y->es[i]?=some e->∃us,e.key=k.d us/\aw P k w ok us y)->hU D (k.d ks) es j=some r->r=nF k x ys es j:=by
  intro D ys
  induction ys with
  |nil=>
   intro es j r g _ c
   match es,g with| [],_=>simp[hU]at c;simp[nF,c]
  |cons y ys E=>
   intro es j r g l c
   match es,g with
   |e::es,g=>
    have⟨us,v,p⟩:=l 0 y e rfl rfl;have C:∀b,hY D (k.d ks) e.key=some b->b=k.f y x:=by
     intro b a;rw[v]at a;cases k<;>try(cases n;done)
     case aF=>
      rw[qQ rfl,qQ rfl]at a;unfold hY at a;split at a<;>rename_i m _<;>first|cases m|cases a
     all_goals
      simp[aw]at o p;subst o;subst p;simp[Ty.d,Ty.c,fb,if_false,List.headD_cons]at a;unfold hY at a;split at a<;>first| (rename_i m _;cases m;done)| (cases a;done)|skip
      rename_i m u;cases m;cases u
      first
      |simp[Option.some.injEq]at a
       rw[<-a,No];exact k8
      |simp at a
       rw[<-a];exact k8
    unfold hU at c;cases a:hY D (k.d ks) e.key with|none=>rw[a]at c;cases c|some b=>
     rw[a]at c;have B:=C b a;unfold nF;rw[<-B];cases b
     exact E _ _ r (by grind) (λ i z f H c=>l (i+1) z f (by grind) (by simpa using c)) c;cases c;rfl
 cases t:P.underlying K with
 |none=>
  have:mY P d K k=false:=by cases d with|zero=>rfl|succ d=>simp[mY,t]
  rw[this]at h;cases h|some D=>simp[Instr.findKey,ef,et t,ea];cases c:hU D (k.d ks) es 0 with|none=>exact A|some r=>rw[F D ys es 0 r g l c];rfl
where
 h2' {K:Nat} {k:Ty} (h:EN P 10000 K k) (w:dr) (ok:Nat->Prop) (ks:List eb) (x:k.b) (b:Bool) (l:aw P k w ok ks x):(en b 10000 K (k.d ks)).run P w= .ok () w:=h w ok ks x b l
theorem aer(t){x y r}(h:pI t x y=some r):r=t.f x y:=by induction t generalizing r with|aF a b e f=>simp[pI]at h;split at h;rename_i c d;cases h;rw[e c,f d];rfl;trivial|ay|aO|aJ=>cases h;rfl|_=>cases h
def zP(P:ee)(T:Nat)(t:Ty):=∀w ok vs a d b r,aw P t w ok vs d->aw P t w ok a b->pI t d b=some r->∀x y,(do eqGuard .eql T x y (t.d vs) (t.d a);Go.binOp .eql T (t.d vs) (t.d a)).run P w= .ok (.bool r) w/\(do eqGuard .neq T x y (t.d vs) (t.d a);Go.binOp .neq T (t.d vs) (t.d a)).run P w= .ok (.bool (!r)) w
theorem JF(j:d<=10000)(h:mY P d T t=true)(hp:t.c=true)(k:P.eqGuardType P.depth T=false):zP P T t:=by have⟨c,_⟩:=Aw d T t h (10000- d);rw[show 10000- d+d=10000 by omega]at c;intro w ok vs i x y r f g e a b;have e:=aer t e;have run:=c w ok vs i x y f g;grind[qQ,ef,run_eqGuard_agg,ea,run_eql_struct,run_neq_struct]
end
section
variable[Dr]
variable{P:ee}
variable {T:Nat} {te:eZ} {t:Ty} {f:Nat}
def EZ:eb->eb->Bool
 | .bool a,.bool b=>a==b
 | .int k n,.int j m=>decide (k=j)&&decide (n=m)
 | .string a,.string b=>decide (a.data.toList=b.data.toList)
 | .slice none a b,.slice none c d=>cr a c&&cr b d
 | .nilFunc,.nilFunc=>true
 | .map none,.map none=>true
 | .pointer none,.pointer none=>true
 |_,_=>false
theorem Tm{a b}(h:EZ a b=true):a=b:=by
 unfold EZ at h;split at h
 grind
 grind
 rename_i a b;have:a.data.toList=b.data.toList:=of_decide_eq_true h;obtain⟨⟨a⟩⟩:=a;simp_all;simp_all;all_goals trivial
def Ba:List eb->List eb->Bool| [],[]=>true|a::l,b::m=>EZ a b&&Ba l m|_,_=>false
theorem Ms:{l m:List eb}->Ba l m=true->l=m| [],[],_=>rfl|a::l,b::m,h=>by simp[Ba,b2]at h;rw[Tm h.1,Ms h.2]| [],_::_,h=>by cases h|_::_,[],h=>by cases h
def IK:eb->eb->Bool| .agg a,.agg b=>Ba a.toList b.toList|a,b=>EZ a b
theorem Xu{a b}(h:IK a b=true):a=b:=by unfold IK at h;grind[Ms,Array.toList_inj,Tm]
def tz(P:ee)(T:Nat)(t:Ty):Bool:=match P.info? T with|some i=>cr i.size t.a&&hS i.bytes 32768&& (match i.zero with|some z=>IK z (t.d (dM t))|none=>false)&&oj 0 t.a|none=>false
theorem zf(h:tz P T t=true):jy P T t:=by
 unfold tz at h;split at h;rename_i i b;simp only[b2]at h;obtain⟨⟨⟨a,c⟩,d⟩,e⟩:=h;refine⟨i,b,cU a,by simp_all,?_,by simp_all⟩
 grind[Xu];trivial
def Dn(P:ee)(te:eZ):Nat->List j2->Bool|_,[]=>true|i,f::r=>(match jm te.b i te.a with|some o=>cr o f.offset|none=>false)&& (match P.info? f.type with|some a=>!cr a.size 0|none=>false)&&Dn P te (i+1) r
theorem Nl{te}:(l:List j2)->(i:Nat)->Dn P te i l=true->∀k f,l[k]?=some f->jm te.b (i+k) te.a=some f.offset/\∃b,P.info? f.type=some b/\b.size≠0| [],i,h,k,f,a=>by simp at a|g::r,i,h,k,f,a=>by simp[Dn,b2]at h;cases k with|zero=>simp[lB,Option.some.injEq]at a;subst a;have⟨⟨c,d⟩,_⟩:=h;refine⟨?_,?_⟩;split at c;rename_i o m;rw[mo,m,cU c];cases c;split at d;rename_i b j;refine⟨b,j,λ e=>?_⟩;simp_all;trivial|succ k=>have:=Nl r (i+1) h.2 k f (by simpa using a);rw[show i+1+k=i+ (k+1)from by omega]at this;exact this
def C3(P:ee):List j2->List (Nat×Nat)->Bool| [],[]=>true|f::r,(o,n)::q=>(match P.info? f.type with|some i=>cr f.offset o&&cr i.size n|none=>false)&&C3 P r q|_,_=>false
theorem Pf:(l:List j2)->(q:List (Nat×Nat))->C3 P l q=true->l.mapM (λ f=>(P.info? f.type).map λ i=>(f.offset,i.size))=some q| [],[],_=>rfl|f::r,(o,n)::q,h=>by simp[C3,b2]at h;have⟨a,b⟩:=h;split at a;rename_i i c;simp[b2]at a;rw[k4,c,Pf r q b];simp_all;trivial| [],_::_,h=>by cases h|_::_,[],h=>by trivial
def G1(P:ee)(T:Nat):Ty->Bool
 | .aH (.ay .u8)=>match P.underlying T with
  |some (.slice a)=>match P.underlying a with|some (.int .u8)=>true|_=>false
  |_=>false
 |_=>true
theorem aio(h:G1 P T t=true)(b:t= .aH (.ay .u8)):∃a,P.underlying T=some (.slice a)/\P.underlying a=some (.int .u8):=by grind[G1]
def Lp(P:ee)(K:Nat)(k:Ty):=mY P 40 K k
theorem aar{K}(h:Lp P K t=true):Ad P K t:=aaX (by decide) h
def BI(P:ee)(te:eZ):Nat->List j2->Bool|_,[]=>true|i,f::r=>(match uH te.b i te.a,pP P f.type,P.info? f.type with|some u,some b,some a=>(bif b then u.c else !u.c)&&cr a.size u.a|_,_,_=>false)&&BI P te (i+1) r
theorem Px{te}:(l:List j2)->(i:Nat)->BI P te i l=true->∀k f u,l[k]?=some f->uH te.b (i+k) te.a=some u->pP P f.type=some u.c/\∃e,P.info? f.type=some e/\e.size=u.a
 | [],i,h,k,f,u,c,d=>by simp at c|g::r,i,h,k,f,u,c,d=>by simp[BI,b2]at h;cases k with
  |zero=>simp[lB,Option.some.injEq]at c;subst c;have a:=h.1;rw[mo]at d;rw[d]at a;split at a;rename_i o b e j m n;cases j;simp only[b2]at a;refine⟨?_,e,n,cU a.2⟩;rw[m];have a:=a.1;cases b<;>simp at a<;>simp[a];cases a|succ k=>exact Px r _ h.2 k f u (by simpa using c) (by rw[show i+1+k=i+ (k+1)from by omega];exact d)
def GK(P:ee)(T:Nat)(te:eZ):Bool:=match P.underlying T with|some (.struct fs)=>BI P te 0 fs.toList|_=>true
theorem ah1(h:GK P T te=true):∀fs,P.underlying T=some (.struct fs)->∀i f u,fs[i]?=some f->uH te.b i te.a=some u->pP P f.type=some u.c/\∃a,P.info? f.type=some a/\a.size=u.a:=by intro fs b i f u c d;unfold GK at h;rw[b]at h;exact Px _ 0 h i f u (by grind) (by grind)
def Hr(P:ee)(T:Nat)(te:eZ):=!te.c||match P.underlying T,mM te.a with|some (.array n a),some (_,m)=>!cr n m||pP P a==some false|_,_=>true
theorem SP(k):∀n,1<=n->mM (Ty.e (.ay k) n)=some (k,n)|0,h=>by omega|1,_=>rfl|n+2,_=>by simp[Ty.e,mM,SP k (n+1) (by omega),if_true]
theorem U8(h:Hr P T te=true)(hp:te.c=true->te.a.c=true):te.c=true->∀n a,P.underlying T=some (.array n a)->∀k,te.a=Ty.e (.ay k) n->pP P a=some false:=by
 intro b n a e k c;have d:1<=n:=by cases n with|zero=>have:=hp b;rw[c]at this;trivial|succ n=>omega
 grind[Hr,SP,lf,cr,Nat.beq_refl]
def Ja(P:ee)(b a:Nat)(e:Ty):Bool:=cr a 1||match P.underlying b,mM e with
 |some (.array n c),some (k,m)=>cr n a&&cr m a&&decide (e=Ty.e (.ay k) a)&&tz P c (.ay k)
 |_,_=>false
theorem aiF{b a e}(h:Ja P b a e=true):a≠1->∃c k,P.underlying b=some (.array a c)/\e=Ty.e (.ay k) a/\jy P c (.ay k):=by grind[Ja,cr,absurd,Nat.eq_of_beq_eq_true,zf]
def Fe(P:ee)(T:Nat)(te:eZ):Bool:=
 tz P T te.a&&G1 P T te.a&&GK P T te&& (!te.c||te.a.c)&&Hr P T te&&match P.underlying T,te.a with
  |some (.int k),.ay k'=>decide (k=k')
  |some .bool,.aO=>true
  |some .string,.aJ=>true
  |some (.slice a),.aH e=>tz P a e
  |some (.array n a),.aF e _=>te.c&&decide (te.a=Ty.e e n)&&cr te.b n&&tz P a e
  |some (.struct fs),.aF _ _=>!te.c&&cr fs.size te.b&&Dn P te 0 fs.toList&&C3 P fs.toList (oX te.b te.a)
  |some (.func _ _ _),.dP _ _=>true
  |some (.func _ _ _),.dX _ _=>true
  |some (.map K V),.cO k v=>Lp P K k&&tz P V v
  |some (.pointer a),.ec e=>Ja P a te.b e
  |_,_=>false
theorem acx(h:Fe P T te=true):je P T te:=by
 unfold Fe at h;simp[b2]at h;have⟨⟨⟨⟨⟨v,m⟩,j⟩,l⟩,k⟩,c⟩:=h;have j:=ah1 j;have l:te.c=true->te.a.c=true:=λ h=>by grind
 have k:=U8 k l;have q:=zf v;have m:=aio m;have no:∀{d:qO},P.underlying T=some d->(∀fs,d≠ .struct fs)->∀fs,P.underlying T=some (.struct fs)->(∀i f,fs[i]?=some f->jm te.b i te.a=some f.offset/\∃s,P.info? f.type=some s/\s.size≠0)/\fs.toList.mapM (λ f=>(P.info? f.type).map λ i=>(f.offset,i.size))=some (oX te.b te.a):=by grind
 have fin:∀{d:qO},P.underlying T=some d->(∀fs,d≠ .struct fs)->_->je P T te:=λ w y x=> ⟨q,x,no w y,l,j,k,m⟩;split at c;case h_5 n z e r g o=>grind[cU,zf]
 case h_6 fs a b g o=>
  simp[b2,fv]at c;have⟨⟨⟨A,B⟩,t⟩,u⟩:=c;refine⟨q,by simp_all,λ fs' p=>?_,l,j,k,m⟩;rw[g]at p;cases p;refine⟨λ i f C=>?_,Pf _ _ u⟩;have:=Nl fs.toList 0 t i f (by grind);grind
 all_goals first| (cases c;done)|skip;all_goals
  rename_i g o;refine fin g (λ _ e=>(by cases e)) ?_;rw[o];first|exact(of_decide_eq_true c)▸g|exact g|exact⟨_,_,_,g⟩|exact⟨_,g,zf c⟩|exact⟨_,g,aiF c⟩| (simp[b2]at c;exact⟨_,_,g,aar c.1,zf c.2⟩)
def ae5(P:ee)(G:List (Nat×eZ)):=G.all λ p=>Fe P p.1 p.2
theorem FV{α l g}{c d:α}(h:Map.av ((f,c)::l) g=some d):(f=g/\c=d)\/Map.av l g=some d:=by grind[Map.av,gF]
theorem IN{G:List (Nat×eZ)}(h:ae5 P G=true)(d:∀v w,(method (P.types.size+qz) 190 v afJ).run P w= .ok (254,v) w:=by intros;kernel_rfl)(a:∀u w,(ng 190 u).run P w= .ok (.iface 190 u) w:=by intros;kernel_rfl)
 (e:∀v w,(method (P.types.size+qz) 200 v afJ).run P w= .ok (258,v) w:=by intros;kernel_rfl)(b:∀u w,(ng 200 u).run P w= .ok (.iface 200 u) w:=by intros;kernel_rfl):al P ⟨G,[],[],[],[],[]⟩ where
 meth:=λ t f l=>by
  rcases FV l with⟨rfl,rfl⟩|h
  exact⟨d,a⟩;rcases FV h with⟨rfl,rfl⟩|h;exact⟨e,b⟩;cases h
 g:=λ T te hT=>acx (ew.1 h _ (Map.ll hT))
 h:=(λ f c h=>(by cases h))
 j:=(λ f c h=>(by cases h))
 k:=(λ f c h=>(by cases h))
 i:=(λ f c h=>(by cases h))
@[reducible] def aq.n(E:aq)(l:List Nat):aq:= ⟨E.G,E.C,E.Q,E.I,l,E.O⟩
@[reducible] def aq.a(E:aq)(f:Nat)(c:fc):aq:= ⟨E.G,(f,c)::E.C,E.Q,E.I,[],E.O⟩
@[reducible] def aq.d(E:aq)(f:Nat)(c:vT):aq:= ⟨E.G,E.C,E.Q,(f,c)::E.I,[],E.O⟩
@[reducible] def aq.e(E:aq)(f:Nat)(c:o9):aq:= ⟨E.G,E.C,E.Q,E.I,[],(f,c)::E.O⟩
theorem IV{E:aq}(h:al P E)(l:List Nat):al P (E.n l):={h with}
theorem mN{E:aq}(h:al P E){c:fc}(b:jf P f c):al P (E.a f c):=
 {h with h:=λ g d a=>(FV a).elim (by grind) (h.h g d)}
theorem aaH{E:aq}(h:al P E){c:vT}(b:yk P f c):al P (E.d f c):=
 {h with j:=λ g d a=>(FV a).elim (by grind) (h.j g d)}
theorem aoe{E:aq}(h:al P E){c:o9}(b:aiT P f c):al P (E.e f c):=
 {h with k:=λ g d a=>(FV a).elim (by grind) (h.k g d)}
theorem GI{E:aq}(h:al P E)(c:zP P T t):al P ⟨E.G,E.C,(T,t)::E.Q,E.I,[],E.O⟩:=
 {h with i:=λ U u d=>(FV d).elim (λ⟨a,b⟩=>a▸b▸c) (h.i U u)}
end
section
variable[Dr]
variable{P:ee}{E:aq}{R:Type}{H:bT R}{i:Bool}
variable {w:ej} {O:List (Ev R)} {T:cf} {X:List (dN×cf)} {f:hB} {fn:pN}
def bd(f:pN):=match f.body with|some c=>c|none=> .skip
def gq:ej->List ej
 | .seq a b=>gq a++gq b
 | .cond _ a b=>gq a++gq b
 | .block _ c| .scope c=>gq c
 | .loop c=> [.loop c]
 | .rangeFunc g ps a b=> [.rangeFunc g ps a b]
 |_=> []
def rA:List ej->Nat->ej| [],_=> .skip|c::_,0=>c|_::r,n+1=>rA r n
def lp(c:ej)(i:Nat):Code:=rA (gq c) i
def iw:ej->ej| .loop c=>c|_=> .skip
def Cf:ej->Bool| .loop _=>true|_=>false
def vp:ej->fx| .rangeFunc g _ _ _=>g|_=> .func 0
def vv:ej->ej| .rangeFunc _ _ a _=>a|_=> .skip
def wQ:ej->ej| .rangeFunc _ _ _ b=>b|_=> .skip
def G8(p q:Nat):ej->Bool
 | .rangeFunc _ ps _ _=>match ps.toList with| [x,y]=>cr x p&&cr y q|_=>false
 |_=>false
theorem Nk{p q}(h:G8 p q w=true):w= .rangeFunc (vp w) #[p,q] (vv w) (wQ w):=by
 cases w<;>try(cases h;done)
 rename_i g ps a b;simp[G8]at h;split at h;rename_i x y e;simp only[b2]at h;have c:=cU h.1;have d:=cU h.2;subst c d;have:ps= #[x,y]:=by grind
 subst this;rfl;trivial
theorem aa0(h:Cf w=true):w= .loop (iw w):=by cases w<;>first|rfl|cases h
def kO(P:ee)(H:bT R)(i:Bool)(l:List ej):Nat->List (Ev R)->Prop|_,[]=>True|n,f::r=>eS P H i (rA l n) f/\kO P H i l (n+1) r
theorem rv:(c:ej)->(gq c).length=gP c| .seq a b=>by simp[gq,gP,rv a,rv b]| .cond _ a b=>by simp[gq,gP,rv a,rv b]| .block _ c| .scope c=>by simp[gq,gP,rv c]| .loop c=>rfl| .skip=>rfl| .region .. =>rfl| .exit _=>rfl| .ret=>rfl| .rangeFunc _ _ _ _=>rfl| .label _=>rfl| .goto _=>rfl| .refuse _=>rfl
theorem kO.a{l}:{O:List (Ev R)}->{n:Nat}->kO P H i l n O->∀k f,O[k]?=some f->eS P H i (rA l (n+k)) f| [],n,h,k,f,a=>by trivial|g::r,n,⟨h1,h2⟩,0,f,a=>by grind|g::r,n,⟨h1,h2⟩,k+1,f,a=>by have:=kO.a h2 k f (by trivial);grind
theorem OL{l m}:{i:Nat}->i<l.length->rA (l++m) i=rA l i:=by induction l with|nil=>simp|cons c l a=>intro i h;cases i with|zero=>rfl|succ i=>exact a (by grind)
theorem QS{l m}(i):rA (l++m) (l.length+i)=rA m i:=by induction l with|nil=>simp|cons c l a=>rw[kk,show l.length+1+i=(l.length+i)+1 from by omega];trivial
theorem xt:(c:ej)->(O:List (Ev R))->(∀k f,k<gP c->O[k]?=some f->eS P H i (rA (gq c) k) f)->nN P H i c O
 | .seq a b,O,h=>by
  refine⟨xt a _ λ i f e d=>?_,xt b _ λ i f e d=>?_⟩
  rw[hA e]at d;have:=h i f (by simp[gP];omega) d
  grind[gq,OL,rv]
  rw[jc]at d;have:=h _ f (by simp[gP];omega) d
  grind[gq,rv,QS]
 | .cond _ a b,O,h=>by
  refine⟨xt a _ λ i f e d=>?_,xt b _ λ i f e d=>?_⟩
  rw[hA e]at d;have:=h i f (by simp[gP];omega) d
  grind[gq,OL,rv]
  rw[jc]at d;have:=h _ f (by simp[gP];omega) d
  grind[gq,rv,QS]
 | .block _ c,O,h| .scope c,O,h=>xt c O h
 | .loop c,O,h=>λ f d=>by
  subst d;exact h 0 f (by simp[gP]) rfl
 | .skip,_,_=>trivial
 | .region ..,_,_=>trivial
 | .exit _,_,_=>trivial
 | .ret,_,_=>trivial
 | .rangeFunc g ps x y,O,h=>λ f d=>by
  subst d;exact h 0 f (by simp[gP]) rfl
 | .label _,_,_=>trivial
 | .goto _,_,_=>trivial
 | .refuse _,_,_=>trivial
theorem my{c}(h:kO P H i (gq c) 0 O):nN P H i c O:=xt c O λ i f _ a=>by simpa using h.a i f a
theorem rk{n}(hE:al P E)(a:P.follows .mixedOrders=true)(e:Cf w=true){body}(c:kO P H i (gq (iw w)) 0 O)(b:∀d again k,dv E H (iw w) O (mk T d) (mL E T X again k)=body d again k):eS P H i w (mG n E T X body):=by rw[aa0 e];exact ab5 hE (ji hE a _ O (my c)) b
theorem RZ(hE:al P E)(a:P.follows .mixedOrders=true){e e2 p q Oa Ob F body}(i:G8 p q w=true)(b:(T.c.isEmpty&&oj p T.N&&oj q T.N&&!yi F p&&!yi F q&&X.all λ x=>x.2.c.isEmpty)=true)(g:kO P (bT.b (R:=R)) true (gq (vv w)) 0 Oa)(h:kO P (bT.b (R:=R)) true (gq (wQ w)) 0 Ob)(heq:∀d x again k,dv E bT.b (vv w) Oa (GP T F p q e e2 d x) (tH λ st=>dv E bT.b (wQ w) Ob st (wR E T F X again k))=body d x again k):eS P (bT.b (R:=R)) false w (qX E e e2 (vp w) T X body):=by rw[Nk i];simp only[b2,fv,List.isEmpty_iff,yi,MM,ew,Nat.blt_eq]at b;have⟨⟨⟨⟨⟨c,j⟩,l⟩,m⟩,n⟩,f⟩:=b;exact ahE hE rfl ⟨c,λ r o=>by grind,rfl,f,ji hE a _ _ (my g),ji hE a _ _ (my h),heq⟩
theorem xz(hE:al P E)(b:P.follows .mixedOrders=true)(e:P.funcs[f]?=some fn)(h:(fn.name== "runtime.NumGoroutine")=false)(d:fn.body.isSome=true){ins caps a g fresh O}(i:kO P (bT.b (R:=ax a)) false (gq (bd fn)) 0 O)(heq:∀x y,oI E fn ins caps a fresh O x y=g x y):jf P f ⟨ins,caps,a,g,fresh⟩:=acR hE b e h (λ c j=>my (by grind[bd])) heq d
theorem XD(hE:al P E)(d:P.follows .mixedOrders=true)(h:P.funcs[f]?=some fn)(i:(fn.name== "runtime.NumGoroutine")=false)(e:fn.body.isSome=true){a b caps}{g:ax caps->Option (List (a.b×b.b))}{O}(j:kO P (jP [a,b]) false (gq (bd fn)) 0 O)(heq:∀y,Bb E fn [a,b] caps O y=g y):yk P f ⟨caps,.dX a b,g⟩:=aap hE d h i (λ c k=>my (by grind[bd])) heq e
end
section
variable[Dr]
variable {α:Type} {n:Nat}
theorem nu{x}(h1: -9223372036854775808<=x)(h2:x<=9223372036854775807):hg .i64 x=x:=by grind[hg,o2,nH]
theorem Ue(x):hg .i64 x<=9223372036854775807:=by grind[hg,o2,nH]
theorem oR(l:List α)(i:Nat):aG l (i:Int)=l[i]?:=by rfl
theorem aff(l:List α)(i j)(h:i<=j)(a:j<=l.length):iB l (i:Int) (j:Int)=some ((l.take j).drop i):=by grind[iB]
theorem xV(l:List α)(j)(a:j<=l.length):iB l 0 (j:Int)=some (l.take j):=by have:=aff l 0 j (gE _) a;trivial
theorem zG(h:n<=4294967296):jk n=some ():=by grind[jk,iZ]
theorem yR(m)(d:α):bI false m d=some d:=rfl
section
variable{D Ks R:Type}{body:D->(D->Option R)->Ks->Option R}{ks:Ks}
theorem agN(I:D->Option R->Prop)(b:D->Nat)(h:∀d r,I d r->∀again,(∀a r',I a r'->b a<b d->again a=r')->body d again ks=r):∀n d r,I d r->b d<n->cq body n d ks=r:=by
 intro n
 induction n with|zero=>omega|succ n f=>intro d r c e;exact h d r c _ (by grind)
theorem abv{A:Type}(l:List α)(F:Nat->A->D)(G:Nat->A->List α->Option R)(b:Nat->A->Prop)(e:l.length<=pV)(g:∀i a x r,i<l.length->l[i]?=some x->l.drop i=x::r->aG l (i:Int)=some x->decide ((i:Int)< (l.length:Int))=true->hg .i64 ((i:Int)+1)=((i+1:Nat):Int)->b i a->
 ∀again,(∀c,b (i+1) c->again (F (i+1) c)=G (i+1) c r)->body (F i a) again ks=G i a (x::r)) (d:∀a,decide ((l.length:Int)< (l.length:Int))=false->b l.length a->∀again,body (F l.length a) again ks=G l.length a []) (a) (h0:b 0 a) (f:l.length<n):cq body n (F 0 a) ks=G 0 a l:=by
 have key:∀m i a,i<=l.length->b i a->l.length- i<m->cq body m (F i a) ks=G i a (l.drop i):=by
  intro m
  induction m with
  |zero=>omega
  |succ m h=>
   grind[cq,n1,hv,eL,oR,nu,pV]
 grind
theorem iy(l:List α)(F:Nat->D)(G:Nat->List α->Option R)(a:l.length<=pV)(d:∀i x r,i<l.length->l[i]?=some x->l.drop i=x::r->aG l (i:Int)=some x->decide ((i:Int)< (l.length:Int))=true->hg .i64 ((i:Int)+1)=((i+1:Nat):Int)->∀again,again (F (i+1))=G (i+1) r->body (F i) again ks=G i (x::r))(c:decide ((l.length:Int)< (l.length:Int))=false->∀again,body (F l.length) again ks=G l.length [])(b:l.length<n):cq body n (F 0) ks=G 0 l:=abv (A:=Unit) l (λ i _=>F i) (λ i _ r=>G i r) (λ _ _=>True) a (by simp_all) (by grind) () trivial b
end
end
section
variable[Dr]
variable{P:ee}
variable {α β:Type} {f:α->Option β}
def Ty.k:(t:Ty)->t.b->Prop| .ay k,n=>k.min<=n/\(n:Int)<=k.max| .aO,_=>True| .aJ,l=>qn (α:=UInt8) l<=pV| .aH e,l=>qn l<=pV/\∀x∈(l:List e.b),e.k x| .aF a b,(x,y)=>a.k x/\b.k y| .dP _ _,_=>True| .dX _ _,_=>True| .cO _ _,_=>True| .ec _,_=>True
mutual
def pw(P:ee):Nat->Nat->Ty->Bool
 |0,_,_=>false
 |n+1,T,t=>match P.underlying T,t with
  |some (.int k),.ay k'=>decide (k=k')
  |some .bool,.aO=>true
  |some .string,.aJ=>true
  |some (.slice c),.aH e=>cr (P.cellsOf c) e.a&&oj 0 e.a&&pw P n c e
  |some (.struct fs),.aF a b=>cr (P.cellsOf T) (Ty.aF a b).a&&rY P n fs.toList 0 (.aF a b)
  |some (.array m c),.aF a b=>cr (P.cellsOf T) (Ty.aF a b).a&&decide (Ty.aF a b=Ty.e a m)&&cr (P.cellsOf c) a.a&&pw P n c a
  |_,_=>false
def rY(P:ee):Nat->List j2->Nat->Ty->Bool
 |0,_,_,_=>false
 |n+1,[f],off,t=>cr f.offset off&&cr (P.cellsOf f.type) t.a&&pw P n f.type t
 |n+1,f::g::r,off,.aF a b=>cr f.offset off&&cr (P.cellsOf f.type) a.a&&pw P n f.type a&&rY P n (g::r) (off+a.a) b
 |_+1,_,_,_=>false
end
theorem ya{α β:Type}{f x}{l:List α}{ys:List β}(h:(x::l).mapM f=some ys):∃y r,f x=some y/\l.mapM f=some r/\ys=y::r:=by rw[k4]at h;cases a:f x with|none=>rw[a]at h;cases h|some y=>cases b:l.mapM f with|none=>grind|some r=>grind
theorem Dm{α β:Type}{f}:{l:List α}->{ys:List β}->l.mapM f=some ys->∀(i:Nat)x,l[i]?=some x->∃y,f x=some y
 | [],ys,h,i,x,b=>by trivial|a::l,ys,h,i,x,b=>by have⟨y,r,c,d,e⟩:=ya h;cases i with|zero=>simp at b;subst b;exact⟨y,c⟩|succ i=>exact Dm d i x (by grind)
theorem NM:{l:List α}->{ys:List β}->l.mapM f=some ys->ys.length=l.length| [],ys,h=>by grind|a::l,ys,h=>by have⟨y,r,d,b,c⟩:=ya h;subst c;simp[NM b]
theorem KP:{l:List α}->{ys:List β}->l.mapM f=some ys->∀(i:Nat)x y,l[i]?=some x->ys[i]?=some y->f x=some y
 | [],ys,h,i,x,y,c,d=>by trivial|a::l,ys,h,i,x,y,c,d=>by have⟨j,r,e,b,g⟩:=ya h;cases i with|zero=>grind|succ i=>exact KP b i x y (by grind) (by grind)
theorem Yo{n}{Q:Nat->α->Prop}(h:∀i,i<n->∃x,Q i x):∃l:List α,l.length=n/\∀(i:Nat)x,l[i]?=some x->Q i x:=by induction n with|zero=>simp|succ n a=>have⟨l,b,c⟩:=a λ i d=>h i (by omega);have⟨x,e⟩:=h n (by omega);refine⟨l++ [x],by grind,λ i y f=>?_⟩;grind
theorem OI{W ok a}:(m:Nat)->(cs:List eb)->0<m->cs.length=m*a.a->(∀i,i<m->∃y,aw P a W ok ((cs.drop (i*a.a)).take a.a) y/\a.k y)->∃x,aw P (Ty.e a m) W ok cs x/\(Ty.e a m).k x
 |0,cs,h,_,_=>absurd h (Nat.lt_irrefl 0)|1,cs,_,f,h=>by have⟨y,b,c⟩:=h 0 (by omega);rw[hL,k5,hF (by omega)]at b;exact⟨y,b,c⟩|m+2,cs,_,f,h=>by
  have⟨y,b,c⟩:=h 0 (by omega);rw[hL,k5]at b;have e:(m+2)*a.a=(m+1)*a.a+a.a:=by grind
  obtain⟨x,k1,g⟩:=OI (a:=a) (m+1) (cs.drop a.a) (by omega) (by grind) λ i k=>by have⟨z,j,d⟩:=h (i+1) (by omega);refine⟨z,?_,d⟩;rw[k6,show a.a+i*a.a=(i+1)*a.a from by grind];omega
  exact⟨(y,x),⟨b,k1⟩,c,g⟩
section
variable{H:Type}{enc:mm×eb->H}{W:dr}{held:Bool}
mutual
theorem xi:(n:Nat)->(T:Nat)->(t:Ty)->pw P n T t=true->∀(q:Nat)(cs:List eb)(d:p5 H)(ps:List pc),fz enc P W 0 (λ _=>true) held q T cs=some (d,ps)->
 ∃x:t.b,aw P t W (λ b=>b<W.heap.size) cs x/\t.k x
 |0,T,t,h,q,cs,d,ps,c=>by trivial
 |n+1,T,t,h,0,cs,d,ps,c=>by trivial
 |n+1,T,t,h,q+1,cs,d,ps,c=>by
  unfold pw at h;unfold fz at c;split at h
  ·rename_i k k' u;have an:k=k':=of_decide_eq_true h;subst an;rw[u]at c
   match cs,c with
   | [.int _ m],c=>
    simp only at c;split at c
    ·rename_i R;obtain⟨rfl,av⟩:=R;refine⟨m,rfl,?_⟩;simpa[Lit.wf,Ty.k]using av
    trivial
  ·rename_i u;rw[u]at c
   match cs,c with
   | [.bool b],c=>exact⟨b,rfl,trivial⟩
  ·rename_i u;rw[u]at c
   match cs,c with
   | [.string s],c=>
    simp only at c;split at c
    ·rename_i ar;obtain⟨⟨s⟩⟩:=s;exact⟨s,rfl,ar⟩
    trivial
  ·rename_i g e u;simp only[b2]at h;obtain⟨⟨G,I⟩,O⟩:=h;have N:=cU G;have aq:0<e.a:=nf I;rw[u]at c
   match cs,c with
   | [.slice none 0 0],c=>exact⟨([]:List e.b),⟨none,0,rfl,df _,.inl rfl⟩,⟨gE _,λ _ h=>(by cases h)⟩⟩
   | [.slice (some a) len cap],c=>
    simp only at c;split at c
    ·rename_i R;obtain⟨_,ao,ak⟩:=R;cases B:(iA len).mapM (λ i=>(W.cells? 0 (a.add (i*P.cellsOf g)) (P.cellsOf g)).bind (fz enc P W 0 (λ _=>true) held q g))with
     |none=>rw[B]at c;cases c
     |some aB=>
      rw[B]at c;simp only[eg,if_true]at c;cases ag:(iA (cap- len)).mapM (λ j=>(W.cells? 0 (a.add ((len+j)*P.cellsOf g)) (P.cellsOf g)).bind (fz enc P W 0 (λ _=>true) held q g))with
      |none=>rw[ag]at c;cases c
      |some aC=>
      clear c;have ad:∀i,i<cap->∃p y,W.cells? 0 (a.add (i*e.a)) e.a=some p/\aw P e W (λ b=>b<W.heap.size) p y/\e.k y:=by
       intro i r;obtain⟨z,F⟩:∃z,(W.cells? 0 (a.add (i*P.cellsOf g)) (P.cellsOf g)).bind (fz enc P W 0 (λ _=>true) held q g)=some z:=by
        rcases Nat.lt_or_ge i len with D|D
        ·exact Dm B i i (by simp[D])
        ·have:=Dm ag (i- len) (i- len) (by rw[List.getElem?_range (by omega)]);rwa[show len+(i- len)=i from by omega]at this
       rw[N]at F;cases ab:W.cells? 0 (a.add (i*e.a)) e.a with
       |none=>rw[ab]at F;cases F
       |some p=>
        rw[ab]at F;obtain⟨y,ax,ay⟩:=xi n g e O q p z.1 z.2 F;exact⟨p,y,rfl,ax,ay⟩
      by_cases V:cap=0
      ·have:len=0:=by omega
       subst this;exact⟨([]:List e.b),⟨some a,cap,rfl,gE _,.inl V⟩,⟨gE _,λ _ h=>(by cases h)⟩⟩
      ·
       have aa:∀i,i<cap->∀j,j<e.a->∃v,W.cell? ((a.add (i*e.a)).add j)=some v:=by
        intro i r j K;obtain⟨p,y,w,_⟩:=ad i r;unfold pX at w;rw[if_pos (gE _)]at w;exact Dm w j j (by simp[K])
       obtain⟨b,off,sp⟩:=a;obtain⟨v0,E⟩:=aa 0 (by omega) 0 aq;have ai:(Addr.mk b off sp).add (0*e.a)= ⟨b,off,sp⟩:=by simp[qW]
       rw[ai,show(Addr.mk b off sp).add 0= ⟨b,off,sp⟩from rfl]at E;unfold mx at E;cases J:W.heap[b]? with
       |none=>simp only[J]at E;cases E
       |some o=>
        cases o with
        |cells C U fr=>
         simp only[J]at E;cases sp with
         |some s=>simp at E
         |none=>
          have Z:∀i j,(((Addr.mk b off none).add (i*e.a)).add j)= ⟨b,off+i*e.a+j,none⟩:=by
           intro i j;unfold qW;by_cases G:i*e.a=0<;>by_cases I:j=0<;>simp[G,I]
          have ae:∀i,i<cap->∀j,j<e.a->∃v,C[off+i*e.a+j]?=some v:=by
           intro i r j K;obtain⟨v,L⟩:=aa i r j K;rw[Z]at L;unfold mx at L;simp only[J]at L;exact⟨v,by simpa using L⟩
          have al:∀i,i<cap->∀p,W.cells? 0 ((Addr.mk b off none).add (i*e.a)) e.a=some p->p=aS C.toList (off+i*e.a) e.a:=by
           intro i r p w;unfold pX at w;rw[if_pos (gE _)]at w;have D:=NM w;rw[List.length_range]at D;apply List.ext_getElem?;intro j;by_cases K:j<e.a
           ·obtain⟨v,L⟩:=ae i r j K;have ac:p[j]?=some p[j]:=eL (by omega);have M:=KP w j j _ (by simp[K]) ac;rw[Z]at M;unfold mx at M;simp only[J]at M;simp only[Option.isSome_none,fb,if_false]at M;rw[ac,<-M];unfold aS;rw[hA K,jc];simp
           ·rw[mA (by omega),mA (by unfold aS;simp;omega)]
          obtain⟨l,S,af⟩:=Yo (n:=len) (Q:=λ i y=>aw P e W (λ b=>b<W.heap.size) (aS C.toList (off+i*e.a) e.a) y/\e.k y) λ i r=>by
           obtain⟨p,y,w,ah,az⟩:=ad i (by omega);rw[al i (by omega) p w]at ah;exact⟨y,ah,az⟩
          refine⟨l,⟨some ⟨b,off,none⟩,cap,by rw[S],by rw[S];exact ao,.inr ⟨b,off,C,U,fr,rfl,(dk.1 J).1,J,?_,.inr ak,λ i x Y=>(af i x Y).1⟩⟩,⟨by rw[S];omega,λ x Y=>?_⟩⟩
          ·obtain⟨v,L⟩:=ae (cap- 1) (by omega) (e.a- 1) (by omega);have:=(dk.1 L).1;have aA:cap*e.a=(cap- 1)*e.a+e.a:=by
            conv=>lhs;rw[show cap=(cap- 1)+1 from by omega]
            rw[mr]
           omega
          ·obtain⟨i,r,rfl⟩:=List.getElem_of_mem Y;exact(af i l[i] (eL r)).2
        |_=>simp only[J]at E;cases E
    ·cases c
  ·rename_i fs x y u;simp only[b2]at h;obtain⟨G,I⟩:=h;have N:=cU G;rw[u]at c;have A:(if cs.length=P.cellsOf T then(fs.toList.mapM λ f=>fz enc P W 0 (λ _=>true) held q f.type ((cs.drop f.offset).take (P.cellsOf f.type))).map λ xs=>((qF (xs.map (·.1)):p5 H),xs.flatMap (·.2))else none)=some (d,ps):=by
    match cs,c with
    | [],c=>exact c
    | [_],c=>exact c
    |_::_::_,c=>exact c
   split at A
   ·rename_i D;cases B:fs.toList.mapM λ f=>fz enc P W 0 (λ _=>true) held q f.type ((cs.drop f.offset).take (P.cellsOf f.type))with
    |none=>rw[B]at A;cases A
    |some xs=>
     have:=MP n fs.toList 0 (.aF x y) I q cs (by rw[D,N];simp) xs B;simpa using this
   ·cases A
  ·rename_i m g x y u;simp only[b2]at h;obtain⟨⟨⟨G,I⟩,O⟩,aj⟩:=h;have N:=cU G;have X:Ty.aF x y=Ty.e x m:=of_decide_eq_true I;have am:=cU O;rw[u]at c;have A:(if cs.length=P.cellsOf T then((iA m).mapM λ i=>fz enc P W 0 (λ _=>true) held q g ((cs.drop (i*P.cellsOf g)).take (P.cellsOf g))).map λ xs=>((qF (xs.map (·.1)):p5 H),xs.flatMap (·.2))else none)=some (d,ps):=by
    match cs,c with
    | [],c=>exact c
    | [_],c=>exact c
    |_::_::_,c=>exact c
   split at A
   ·rename_i D;cases B:(iA m).mapM λ i=>fz enc P W 0 (λ _=>true) held q g ((cs.drop (i*P.cellsOf g)).take (P.cellsOf g))with
    |none=>rw[B]at A;cases A
    |some xs=>
     have ap:=GU X;have au:(Ty.e x m).a=m*x.a:=by
      obtain⟨k,rfl⟩:∃k,m=k+1:= ⟨m- 1,by omega⟩;exact MY x k
     have V:cs.length=m*x.a:=by rw[D,N,X,au]
     rw[X];refine OI m cs ap V λ i r=>?_;obtain⟨z,F⟩:=Dm B i i (by simp[r]);rw[am]at F;exact xi n g x aj q _ z.1 z.2 F
   ·cases A
  ·cases h
theorem MP:(n:Nat)->(l:List j2)->(off:Nat)->(t:Ty)->rY P n l off t=true->∀(c:Nat)(cs:List eb),cs.length=off+t.a->∀xs:List (p5 H×List pc),
 (l.mapM λ f=>fz enc P W 0 (λ _=>true) held c f.type ((cs.drop f.offset).take (P.cellsOf f.type)))=some xs->∃x:t.b,aw P t W (λ b=>b<W.heap.size) (cs.drop off) x/\t.k x
 |0,l,off,t,h,c,cs,i,xs,e=>by simp[rY]at h
 |n+1,[],off,t,h,c,cs,i,xs,e=>by cases t<;>simp[rY]at h
 |n+1,[f],off,t,h,c,cs,i,xs,e=>by
  rw[rY]at h;simp only[b2]at h;obtain⟨⟨m,o⟩,p⟩:=h;have j:=cU m;have k:=cU o;obtain⟨y,r,d,_,_⟩:=ya e;rw[j,k,hF (by simp;omega)]at d;exact xi n f.type t p c _ y.1 y.2 d
 |n+1,f::g::r,off,t,h,c,cs,i,xs,e=>by
  cases t with
  |aF a b=>
   rw[rY]at h;simp only[b2]at h;obtain⟨⟨⟨m,o⟩,p⟩,s⟩:=h;have j:=cU m;have k:=cU o;obtain⟨y,r',d,q,_⟩:=ya e;rw[j,k]at d;obtain⟨z,k1,u⟩:=xi n f.type a p c _ y.1 y.2 d;obtain⟨A,v,w⟩:=MP n (g::r) (off+a.a) b s c cs (by rw[i];simp[Ty.a];omega) r' q;refine⟨(z,A),⟨k1,?_⟩,u,w⟩;rw[k6];exact v
  |_=>simp[rY]at h
end
end
end
section
variable{P:ee}[Dr]
def Fh:(a:List Ty)->ax a->Prop| [],_=>True| [t],x=>t.k x|t::u::a,(x,y)=>t.k x/\Fh (u::a) y
def qU(P:ee)(n:Nat):List Nat->List Ty->Bool| [],[]=>true|T::Ts,t::ts=>pw P n T t&&qU P n Ts ts|_,_=>false
theorem SN{n T t}(h:pw P n T t=true){w r e v}(d:l7 P w r e T v):v=t.d v.cells.toList:=by cases n with|zero=>trivial|succ n=>unfold pw at h;split at h;rename_i k k' b;obtain⟨m,rfl⟩:=okWide_int b d;rfl;rename_i b;obtain⟨m,rfl⟩:=okWide_bool b d;rfl;rename_i b;obtain⟨m,rfl⟩:=okWide_string b d;rfl;rename_i b;obtain⟨a,l,c,rfl⟩:=okWide_slice b d;rfl;rename_i b;obtain⟨cs,rfl,_⟩:=okWide_struct b d;rfl;rename_i b;unfold l7 at d;rw[b]at d;obtain⟨cs,rfl,_⟩:=d;rfl;trivial
section
variable{H:Type}{enc:mm×eb->H}{W:dr}{held:Bool}
theorem L4(n):(Ts:List Nat)->(e:List Ty)->qU P n Ts e=true->∀vs g ps f,(∀(j:Nat)T v,Ts[j]?=some T->vs[j]?=some v->l7 P W .any f T v)->lb enc P W 0 (λ _=>true) held Ts vs g ps->∃x,fe P W (λ b=>b<W.heap.size) e vs x/\Fh e x
 | [],[],_,vs,g,ps,f,_,h=>by obtain⟨rfl,_⟩:=pk h;exact⟨(),rfl,trivial⟩| [T],[t],a,vs,g,ps,f,i,h=>by obtain⟨v,s,d,o,p,q,rfl,rfl,rfl,c,l⟩:=nL h;obtain⟨rfl,_⟩:=pk l;simp[qU,Bool.and_true]at a;have⟨k,c⟩:=c;have⟨x,k1,m⟩:=xi n T t a k _ d p c;exact⟨x,⟨_,by rw[<-SN a (i 0 T v rfl rfl)],k1⟩,m⟩|T::U::Ts,t::u::e,a,vs,g,ps,f,i,h=>by obtain⟨v,s,d,o,p,q,rfl,rfl,rfl,c,l⟩:=nL h;rw[qU]at a;simp[b2]at a;have⟨r,z⟩:=a;have⟨k,c⟩:=c;have⟨x,k1,m⟩:=xi n T t r k _ d p c;have⟨y,A,B⟩:=L4 n (U::Ts) (u::e) z s o q f (λ j w v' hT C=>i (j+1) w v' (by trivial) (by trivial)) l;exact⟨(x,y),⟨_,_,by rw[<-SN r (i 0 T v rfl rfl)],k1,A⟩,m,B⟩| [],_::_,a,_,_,_,_,_,_=>by trivial|_::_,[],a,_,_,_,_,_,_=>by trivial| [_],_::_::_,a,_,_,_,_,_,_=>by simp[qU]at a|_::_::_,[_],a,_,_,_,_,_,_=>by simp[qU]at a
theorem Sq{c}(f:laidOutB P=true)(e:Below W.heap.size W c):(Ts:List Nat)->(∀T∈Ts,P.readableRec T=true/\T<P.types.size)->∀vs a ps,lb enc P W 0 (λ _=>true) true Ts vs a ps->(∀x∈ps,x.block<W.heap.size)->lb enc P c 0 (λ b=>decide (b<W.heap.size)) true Ts vs a ps
 | [],_,vs,a,ps,h,_=>by obtain⟨rfl,rfl,rfl⟩:=pk h;rfl|T::Ts,hT,vs,a,ps,h,hlt=>by obtain⟨v,m,d,l,p,q,rfl,rfl,rfl,j,k⟩:=nL h;have⟨g,i⟩:=hT T (gg ..);refine⟨p,q,Below.trod f g i j e (by grind),?_,rfl⟩;exact Sq f e _ (by grind) _ _ q k (by grind)
end
end
section
variable{P:ee}[Dr]
end
section
variable[Dr]
variable{P:ee}{E:aq}{R:Type}
variable {o:ko} {f t1 t2 p:Nat} {T:cf} {a:hM} {Q:gw->hM->dr->Prop} {F:List Nat} {X:List (dN×cf)} {K:hM->dr->Prop} {H:bT R} {e:Ty}
theorem BZ{r n i ops b w}(f:ops[i]?=some o)(e:o.guard=none)(d:∀c,o.op≠ .defer c)(h:o.wp P a w (kH (Fr r) n P ops Q b) Q):kH (Fr r) n P ops Q (i::b) a w:=by grind[eH,kV,kH,H7]
theorem QW{w w' v}(b:(j1 a.eval o).run P w= .ok (.value v) w')(h:K (a.put o.dst v) w'):o.wp P a w K Q:=by unfold Oper.wp;rw[b];exact h
theorem MW{w w' args}{R:eb->dr->Prop}(d:(j1 a.eval o).run P w= .ok (.enter f args) w')(c:Calls P f args w' λ e b=>∃v,e= .returned v/\R v b)(h:∀v b,R v b->K (a.put o.dst v) b):o.wp P a w K Q:=by unfold Oper.wp;rw[d];refine Calls.mono c ?_;grind
theorem Rk(c:lE P f){args b}(d:o.op= .call {callee:= .value (.func f),args,argTypes:=b})(a:hM)(w):(j1 a.eval o).run P w= .ok (.enter f (args.map a.eval)) w:=by unfold j1;rw[d];have h:(callFunc f (args.map a.eval++ #[])).run P w=_:=Hk c _;rw[Array.append_empty]at h;show(callFunc f (#[]++args.map _++ #[])).run P w=_;grind
def QR(P:ee)(e:Ty)(w:dr)(xs:List e.b)(v:eb)(a:dr):=∃(g:Nat)(d:Array eb)(A0:Nat->Prop),v= .func (.func g) #[] d/\lE P g/\w.heap.size<=a.heap.size/\(∀b,b<w.heap.size->a.heap[b]?=w.heap[b]?)/\(a.os=w.os/\a.tape=w.tape/\eW w a)/\(∀b,A0 b->w.heap.size<=b/\b<a.heap.size)/\∀c,c.heap.size=a.heap.size+2->(∀b,b<a.heap.size->c.heap[b]?=a.heap[b]?)->∀ok,(∀b,ok b->b<w.heap.size)->ET P (λ W o f x=>∃vs,f=vs.toArray/\fe P W o [e] vs x) g d A0 c ok xs
def Ej(P:ee)(f:Nat)(e:Ty)(b:List UInt8->List UInt8->Option (List e.b)):=lE P f/\∀w s t xs,b s t=some xs->Calls P f #[.string ⟨⟨s⟩⟩,.string ⟨⟨t⟩⟩] w λ a c=>∃v,a= .returned v/\QR P e w xs v c
def Pr:aU->RM (List UInt8)| .aE u d=> .nS (gN (t:=u) (t':= .aJ) d)|_=> .aa
def CV(i:Nat)(K:gw->au->Option R):gw->au->Option R| .exit j,st=>bif cr j i then K .normal st else K (.exit j) st|e,st=>K e st
def Eu(E:aq)(e:Ty)(x:fx)(a:List UInt8->Option (List e.b))(T:cf)(X:List (dN×cf))(body:cR T.b->e.b->(cR T.b->Option R)->iI R X->Option R)(i:Nat):Ev R:=λ st K=>((c9 [] x).aB Pr).jT st λ s=>(a s).bind λ xs=>(ky E T st).bind λ d=>la body (kK (CV i K) X) (λ d=>CV i K .normal (mk T d)) xs d
theorem VU(hE:al P E)(ac:H.c= []){Q:List UInt8->List UInt8->Option (List e.b)}(I:Ej P f e Q){sep:List UInt8}{x:fx}{az aA:mm}{ar au:String}{U V:Array Edge}{Y:Array mm}{aq i:Nat}
 {A B:ej} {Oa Ob:List (Ev R)} {body:cR T.b->e.b->(cR T.b->Option R)->iI R X->Option R}
 (D:qp P E [e] [p] A B Oa Ob T F X body) (aF:t1≠t2) (h1:t1<T.N) (h2:t2<T.N) (af:∀d k sl,Map.av (mk T d).a k=some sl->k≠t1/\k≠t2):
 eS P H false (.seq (.region aq #[⟨some t1,.move x,az,ar,U,none⟩,⟨some t2,.call {callee:= .value (.func f),args:= #[.tmp t1,.const (.string ⟨⟨sep⟩⟩)],argTypes:=Y},aA,au,V,none⟩] false) (.block i (.rangeFunc (.tmp t2) #[p] A B)))
  (Eu E e x (λ s=>Q s sep) T X body i):=by
 intro r J S C K W st a w w0 h l ag;have J:r=none:=by simp_all
 subst J;unfold Eu at h;rw[RM.sH]at h;obtain⟨s,M,h⟩:=eQ.1 h;obtain⟨xs,ap,h⟩:=eQ.1 h;obtain⟨d,G,h⟩:=eQ.1 h;obtain⟨Z,z⟩:=l;obtain⟨u,N,n⟩:=RM.aI M;have L:=dQ z (cG _) N;have aC:a.eval x= .string ⟨⟨s⟩⟩:=by
  cases u<;>simp only[Pr]at n<;>try(cases n;done)
  obtain⟨rfl,rfl⟩:=kC (RM.Ae n);obtain⟨vs,ab,t⟩:=L;have t:vs= [.string ⟨⟨s⟩⟩]:=t;rw[ab,t];rfl
 obtain⟨conc,l⟩:=Aa hE ⟨Z,z⟩ G;clear G z M N n L;obtain⟨am,aE,an⟩:=qw d;have aH:a.tmps.size=T.N:=l.n.trans am
 let m:Act:=a.put (some t1) (.string ⟨⟨s⟩⟩)
 have ao:∀o:ko,o.op= .move x->(j1 a.eval o).run P w= .ok (.value (.string ⟨⟨s⟩⟩)) w:=λ o aG=>by
  simp_all[j1]
 refine o0 (wpIn_region ?_);show kH _ 7 P _ _ [0,1] a w;refine BZ rfl rfl (by grind) (QW (v:= .string _) (w':=w) (ao _ rfl) ?_);show kH _ 7 P _ _ _ m w;refine BZ rfl rfl (by grind) (MW (Rk I.1 rfl _ w) (R:=QR P e w xs) ?_ ?_)
 have aa:(#[Operand.tmp t1,.const (.string ⟨⟨sep⟩⟩)]:Array fx).map m.eval= #[.string ⟨⟨s⟩⟩,.string ⟨⟨sep⟩⟩]:=by
  have:m.eval (.tmp t1)= .string ⟨⟨s⟩⟩:=by
   show(a.tmps.setIfInBounds _ _).getD _ _=_;simp_all
  simp only[List.map_toArray,lk,List.map_nil,this];rfl
 rw[aa];exact I.2 w s _ _ ap
 rintro v aM⟨g,O,A0,rfl,ad,av,aw,ax,ay,aK⟩
 let q:Act:=m.put (some t2) (.func (.func g) #[] O)
 show(Code.block i _).wpIn _ 7 P _ q _;have ae:q.eval (.tmp t2)= .func (.func g) #[] O:=by
  show((a.tmps.setIfInBounds _ _).setIfInBounds _ _).getD _ _=_;simp_all
 have ak:aD P (w0.c conc a w) ⟨conc.m,conc.B,conc.b⟩ (mk T d) q w:=l.y.G conc.B rfl (λ k sl c=> ⟨c,xS d c,by
  obtain⟨aI,aJ⟩:=af d k sl c;show((a.tmps.setIfInBounds _ _).setIfInBounds _ _)[k]?=_
  grind⟩) (λ _=>rfl) (by grind[Act.put]) rfl (λ k c=>absurd c (by rw[an,D.c];simp)) (df _) (λ _ _ _=>rfl) (λ b _ y=>y) rfl l.y.u.symm (λ b y=>y) rfl l.y.h
 have ai:S (w0.c conc a w) W:=C.d _ _ _ ag l.C;refine(wpIn_block (fl (M5 hE ac D C (K:=CV i K) h ak ai ae ad av aw ax (A0:=A0) ay (by grind)) ?_));rintro ex a' w'⟨⟨aL,aB,st',aj,ah,c⟩,_⟩;cases ex with
 |exit j=>
  grind[CV,gF,decide_true,l9,decide_false]
 |_=>exact⟨_,_,_,aj,ah,c⟩
def CD(k t1 t2 f i p:Nat)(sep:List UInt8):ej->Bool
 | .seq (.region _ ops false) (.block j (.rangeFunc (.tmp u) ps _ _))=>match ops.toList,ps.toList with
  | [⟨some d1,.move (.tmp x),_,_,_,none⟩,⟨some d2,.call {callee:= .value (.func g),args,.. },_,_,_,none⟩],[q]=>match args.toList with| [.tmp y,.const (.string b)]=>cr x k&&cr d1 t1&&cr d2 t2&&cr g f&&cr j i&&cr u t2&&cr q p&&cr y t1&& (b.data.toList==sep)|_=>false
  |_,_=>false
 |_=>false
def D8:ej->ej| .seq _ (.block _ (.rangeFunc _ _ a _))=>a|_=> .skip
def Dt:ej->ej| .seq _ (.block _ (.rangeFunc _ _ _ b))=>b|_=> .skip
theorem Hi{α:Type}{xs:Array α}{l}(h:xs.toList=l):xs= ⟨l⟩:=by grind
theorem Xl{k i sep c}(h:CD k t1 t2 f i p sep c=true):∃m r n a e s o d,c= .seq (.region m #[⟨some t1,.move (.tmp k),r,n,a,none⟩,⟨some t2,.call {callee:= .value (.func f),args:= #[.tmp t1,.const (.string ⟨⟨sep⟩⟩)],argTypes:=e},s,o,d,none⟩] false) (.block i (.rangeFunc (.tmp t2) #[p] (D8 c) (Dt c))):=by
 unfold CD at h;split at h;rename_i m ops j u ps D E;split at h;rename_i d1 x r n a d2 g args e s o d q t v;split at h;rename_i y b w;simp only[b2,gF,decide_eq_true_eq,beq_iff_eq]at h;obtain⟨⟨⟨⟨⟨⟨⟨⟨rfl,rfl⟩,rfl⟩,rfl⟩,rfl⟩,rfl⟩,rfl⟩,rfl⟩,l⟩:=h;have z:=Hi t;have A:=Hi v;have B:=Hi w;obtain⟨⟨C⟩⟩:=b;simp only at l;subst l z A B;exact⟨_,_,_,_,_,_,_,_,rfl⟩;trivial;trivial;trivial
theorem ab1(hE:al P E)(l:P.follows .mixedOrders=true){i j:ej}{Oa Ob:List (Ev R)}{body:cR T.b->e.b->(cR T.b->Option R)->iI R X->Option R}
 (o:T.c= []) (t:p<T.N) (s:p∉F) (r:(X.all λ x=>x.2.c.isEmpty)=true)
 (m:kO P (bT.b (R:=R)) true (gq i) 0 Oa) (n:kO P (bT.b (R:=R)) true (gq j) 0 Ob)
 (heq:∀d x again k,dv E bT.b i Oa (yO T F [p] [e] d x) (tH λ st=>dv E bT.b j Ob st (wR E T F X again k))=body d x again k):qp P E [e] [p] i j Oa Ob T F X body where
 c:=o
 g:=λ q u=>by grind
 e:=rfl
 f:=λ x v=>by grind
 a:=ji hE l i Oa (my m)
 b:=ji hE l j Ob (my n)
 h:=heq
def xP(E:aq)(H:bT R)(c:Ev R):Nat->ej->Ev R
 |0,.seq _ b=>λ st K=>c st λ| .normal,st=>dv E H b [] st K|e,st=>K e st
 |k+1,.seq a b=>λ st K=>dv E H a [] st λ| .normal,st=>xP E H c k b st K|e,st=>K e st
 |_,_=>λ _ _=>none
def pE:Nat->ej->ej|0,.seq a _=>a|k+1,.seq _ b=>pE k b|_,c=>c
def Hx:Nat->ej->Bool|0,.seq _ _=>true|k+1,.seq _ b=>Hx k b|_,_=>false
theorem Re(hE:al P E)(l:P.follows .mixedOrders=true){i:Bool}{q:Ev R}:(k:Nat)->(c:ej)->eS P H i (pE k c) q->Hx k c=true->eS P H i c (xP E H q k c)
 |0,.seq x y,o,p=>λ r j s d K t st a w w0 h n m=>by
  simp only[xP]at h;refine o0 (fl (o r j _ d _ _ _ _ _ _ h n m) ?_);rintro e a' w'⟨w1,u,st',g,f,b⟩;cases e with
  |normal=>exact ji hE l y [] (my trivial) r j _ d _ _ _ _ _ _ b g f
  |_=>exact⟨_,_,_,g,f,b⟩
 |k+1,.seq x y,o,p=>λ r j s d K t st a w w0 h n m=>by
  have v:=Re hE l k y o p;simp only[xP]at h;refine o0 (fl (ji hE l x [] (my trivial) r j _ d _ _ _ _ _ _ h n m) ?_);rintro e a' w'⟨w1,u,st',g,f,b⟩;cases e with
  |normal=>exact v r j _ d _ _ _ _ _ _ b g f
  |_=>exact⟨_,_,_,g,f,b⟩
theorem KF:{l:List (Nat×ki)}->{r:List iK}->{m:List (Nat×fX)}->{r':List iK}->pY l r=some (m,r')->∀p∈m,∃q∈l,q.1=p.1
 | [],r,m,r',h=>by grind[pY,Option.some.injEq,Prod.mk.injEq]| (d,t)::l,r,m,r',h=>by
  simp[pY]at h;split at h;split at h;rename_i m' e a;simp only[Option.some.injEq,Prod.mk.injEq]at h;obtain⟨rfl,_⟩:=h;intro p hp;rcases gl.1 hp with rfl|hp
  simp;obtain⟨q,b,c⟩:=KF a p hp
  grind
  trivial;trivial
theorem U7(h:(T.d.all λ q=>!(cr q.1 t1)&&!(cr q.1 t2))=true)(d)(k)(sl)(a:Map.av (mk T d).a k=some sl):k≠t1/\k≠t2:=by
 unfold mk at a;split at a;rename_i s r b;split at a;obtain⟨q,c,e⟩:=KF b _ (Map.ll a)
 grind[ew,gF,fv,decide_eq_false_iff_not]
 trivial;trivial
theorem ZQ(hE:al P E)(o:P.follows .mixedOrders=true){f:hB}{fn:pN}(u:P.funcs[f]?=some fn)(z:(fn.name== "runtime.NumGoroutine")=false)(q:fn.body.isSome=true)
 {ins a:List Ty} (w:hS (ins.length+ ([]:List Ty).length) fn.ntmps=true) {l:Nat} {n:List UInt8->List UInt8->Option (List (List UInt8))} (B:Ej P l .aJ n) {k i m:Nat} {sep:List UInt8}
 (j:CD k t1 t2 l i p sep (pE m (bd fn))=true) (h:Hx m (bd fn)=true) {body:cR T.b->List UInt8->(cR T.b->Option (ax a))->iI (ax a) X->Option (ax a)}
 (A:t1≠t2) (h1:t1<T.N) (h2:t2<T.N) (b:qp P E [.aJ] [p] (D8 (pE m (bd fn))) (Dt (pE m (bd fn))) [] [] T F X body) (v:∀d k sl,Map.av (mk T d).a k=some sl->k≠t1/\k≠t2)
 {g:ax ins->ax []->Option (ax a)} (heq:∀x y,xP E (bT.b (R:=ax a)) (Eu E .aJ (.tmp k) (λ s=>n s sep) T X body i) m (bd fn) (uN fn.ntmps ins [] x y) (xj E false fn.results.toList a)=g x y):
 jf P f ⟨ins,[],a,g,false⟩:=by
 obtain⟨c,t⟩:=hy.1 q;have r:bd fn=c:=by
  grind[bd]
 rw[r]at j h b heq;refine TO hE u z t (Re hE o m c ?_ h) w heq;obtain⟨H,K,I,C,G,L,J,D,e⟩:=Xl j;rw[e];exact VU hE rfl B b A h1 h2 v
end
end Go.Abs
