/- Part of a proof that the statement holds. No conditions. -/
import Derived.Calls
import Derived.KernelRfl
import Derived.CheckFast
import Derived.Orders
import Derived.Laws.AppendOwn
import Derived.OwnWalk
import Derived.RangeFuncSeq
import Derived.Maps.RangeRun
import Derived.Laws.Strings
import Derived.Laws.Entries
import Derived.Laws.Cells
import Derived.Laws.Rows
import Derived.Laws.Tables
import Derived.Laws.StructEq
import Derived.Laws.CopyRow
import Derived.Laws.IdiomCopy
import Derived.Laws.IdiomStrings
import Derived.OrdersIn
import Derived.Test.YtbppbacfffndaaaGreatDoorQc1
set_option linter.all false
open Go renaming Value->b2,Operand->dk,run_underlying->dr,World->eb,Program->ef,execOp->eo,IntKind->eV,Oper->gE,MapEntry->hq,typeInfo->ht,binOp->hS,grownCap->jA,sizeOf->ko,eqGuard->kH,zeroValue->k6,maxLen->l7,heap_alloc_new->l8,Act->np,yielded->nv,invoke->nH,setRow_heap->nL,resolve->nV,TypeId->pc,builtin->pH,asIntOf->p6,Calls->qi,bytesRow->qF,BinOp->q7,cell_of_row->sv,grownCap_ge->s0,grownCap_le_maxLen->tc,run_storeCells_at->tm,leftOf->vL,callFunc->xM,convert->x3
open Go.Sem renaming run_bind->cr,run_pure->kL,run->vi
open Nat renaming le_refl->df,mul_le_mul_right->eg,beq->ei,le_trans->eL,add_le_add_left->fz,lt_of_lt_of_le->gg,succ_mul->gw,testBit->hy,zero_add->hP,add_assoc->hU,add_mul->jc,ble->k8,add_zero->n3,le_mul_of_pos_right->qc,le_of_ble_eq_true->q0,lt_or_gt_of_ne->r3,blt->u0,add_comm->u2,mod_lt->w6
open List renaming getElem?_eq_some_iff->ea,length->en,mem_map->et,length_take->ew,mem_append->eH,length_drop->eQ,map_cons->fb,mem_append_right->fl,mem_append_left->fv,length_append->fx,take_append_drop->fR,getElem?_take->gf,mem_cons_of_mem->gl,drop_eq_getElem_cons->hh,replicate->hv,getElem?_map->hD,getElem?_cons_zero->hJ,getElem?_drop->hM,mem_cons->hR,append_assoc->hZ,ext_getElem?->ih,mem_singleton->j3,mem_cons_self->kk,all_eq_true->kR,drop_append_of_le_length->k3,take_append_of_le_length->k4,append_nil->k5,map_nil->k7,drop_take->lf,getElem?_append_left->lv,size_toArray->lA,length_cons->mb,getElem?_cons_succ->ml,map_toArray->mm,getElem?_set_self->mn,length_nil->mr,length_replicate->mx,mem_of_mem_drop->mZ,drop_drop->nb,getElem?_set_ne->nc,getElem?_append->ng,nodup_append->n1,eq_nil_of_length_eq_zero->o2,drop_left'->pk,take_left'->pn,length_map->pt,map_append->pv,take_take->pS,getElem?_eq_getElem->pX,take_of_length_le->p7,drop_of_length_le->p8,length_singleton->qq,mem_of_mem_take->qW,set_cons_succ->q9,set_cons_zero->re,pairwise_cons->rL,cons_append->r5,any_eq_true->sc,drop_append->sf,isEmpty_iff->sr,nil_append->sy,drop_zero->s5,map_map->tv,headD->vo
open Bool renaming and_eq_true->ee,not_eq_true'->hY,false_eq_true->kg,or_eq_true->s4
open Array renaming getElem?_eq_some_iff->ej,toArray_toList->gk,getElem?_eq_getElem->hg,length_toList->hz,range->kV,ext'->lb,toList_map->l9,size_append->rm,toList_push->rr
open Go.Result renaming andThen_ok->ep,andThen->hG
open Go.Value renaming int->fu,pointer->j1,cells->oj
open Option renaming map_some->gb,map_none->hN,map_eq_some_iff->kp,bind_some->n2,getD_some->rH
open Go.Instr renaming indexAt->gu,fill->j2,sameBits->kq,sliceBounds->lk,sliceAt->lB,mapUpdate->mo,sureAddr->mA,fieldAt->ny,lookup->nB,slice->o0,index->o1,checkKey->pz,makeFunc->pN,findKey->pV,loadAt->p5,makeInterface->qO,keyThatStays->q6,sliceBound->rV,buildSlice->r4,makeSlice->so,extract->s7,storeAt->s8,field->tl
open Go.Calls renaming mono->hA
open Go.Builtin renaming append_->hB,zeroCells->hQ,lenOf->nf,len_->nz,firstCells->qn
open Go.Region renaming wanted->hF,binds->hL,ready->p1
open LawfulMonad renaming pure_bind->iA
open BitVec renaming ofInt->ma
open Function renaming comp_def->qz
open Go.Fence renaming wide->q3
open Go.Act renaming eval->q4,put->u1
open ByteArray renaming size->q5
open Go.Made renaming depth->q8
open Go.Oper renaming wp->r1,upon->x0
open Go.Op renaming equal->tg,stringOp->vR,equalIn->x2
open Go.RowKit.Below renaming heap_alloc->vj
open Go.Next renaming value->vE
open Go.Addr renaming add->x1
namespace Go.Abs
section
variable {R:Type}
inductive Ty where|ay (k:eV)|aO|aJ|aH (e:Ty)|aF (a b:Ty)|dP (a r:Ty)|dX (a b:Ty)|cO (k v:Ty)|ec (e:Ty) deriving DecidableEq
@[reducible] def Ty.b:Ty->Type
 | .ay _=>Int
 | .aO=>Bool
 | .aJ=>List UInt8
 | .aH e=>List e.b
 | .aF a b=>a.b×b.b
 | .dP a r=>a.b->Option r.b
 | .dX a b=>List (a.b×b.b)
 | .cO k v=>List (k.b×v.b)
 | .ec e=>Option e.b
def Ty.a:Ty->Nat| .aF a b=>a.a+b.a|_=>1
def Ty.c:Ty->Bool| .aF _ _=>true|_=>false
def Ty.e(e:Ty):Nat->Ty|0|1=>e|n+2=> .aF e (Ty.e e (n+1))
def Ty.f:(t:Ty)->t.b->t.b->Bool| .ay _,x,y=>(x:Int)==y| .aO,x,y=>(x:Bool)==y| .aJ,x,y=>(x:List UInt8)==y| .aF a b,(x,c),(y,d)=>a.f x y&&b.f c d|_,_,_=>false
def Ty.i:Ty->Bool| .ay _| .aO| .aJ=>true| .aF a b=>a.i&&b.i|_=>false
def Ty.g:(t:Ty)->t.b| .ay _=>(0:Int)| .aO=>false| .aJ=>([]:List UInt8)| .aH _=> []| .aF a b=>(a.g,b.g)| .dP _ _=>λ _=>none| .dX _ _=> []| .cO _ _=> []| .ec _=>none
def Ty.h:Ty->Bool| .ay _| .aO| .aJ=>true| .aF a b=>a.h&&b.h|_=>false
def Ty.j:Ty->Bool| .dP _ _| .dX _ _| .cO _ _| .ec _=>false| .aF a b=>a.j&&b.j|_=>true
@[reducible] def ax:List Ty->Type
 | []=>Unit
 | [t]=>t.b
 |t::u::ts=>t.b×ax (u::ts)
def Rg:(a:List Ty)->ax a| []=>()| [t]=>t.g|t::u::a=>(t.g,Rg (u::a))
def gN{t t':Ty}(d:t.b):=if h:t=t' then some (h▸d)else none
inductive aU where|aE (t:Ty) (d:t.b)|js|dx (id ver off:Nat)|gB (t:Ty) (d:t.b)|rD (id ver:Nat) (e:Ty) (i:Int)|dj (id ver:Nat)|rN (f:Nat)|AN|sd (id ver off:Nat) (k:eV) (n:Nat) (i:Int)|Dq (id ver off:Nat) (k:eV) (n:Nat) (m:Int)|nX|ku|oH (f id ver:Nat)
inductive bQ where|v (a:aU)|ju (l:List aU)|oF (l:List aU)
structure fX where
 L:List (Nat×Bool)
 g:Bool
 s:bQ
inductive fJ where|eu (t:Ty) (cells:List aU)|c8 (e:Ty) (l:List e.b)|uj (t:Ty) (d:t.b)|tX (e:Ty) (l:List e.b)|kB (k v:Ty) (l:List (k.b×v.b))|xL (k v:Ty) (l:List (k.b×v.b))|it (k v:Ty) (c:Option (k.b×v.b)) (l:List (k.b×v.b))
namespace Map
variable{α:Type}
def av:List (Nat×α)->Nat->Option α| [],_=>none| (k',v)::r,k=>bif ei k' k then some v else av r k
def jw:List (Nat×α)->Nat->α->List (Nat×α)| [],k,v=> [(k,v)]| (k',v')::r,k,v=>bif u0 k k' then(k,v)::(k',v')::r else bif ei k' k then(k,v)::r else(k',v')::jw r k v
end Map
structure au where
 N:Nat
 d:List Nat
 a:List (Nat×fX)
 b:List (Nat×(Nat×fJ))
 c:List Nat
inductive RM(β:Type):Type 1 where|aA (b:β)|aa|nh (d:Nat) (f:Option fX->RM β)|dS (id:Nat) (f:Option (Nat×fJ)->RM β)|dG (α:Type) (m:Option α) (f:α->RM β)
namespace RM
variable{α β:Type}
def aB:RM α->(α->RM β)->RM β| .aA a,k=>k a| .aa,_=> .aa| .nh d f,k=> .nh d λ x=>(f x).aB k| .dS id f,k=> .dS id λ x=>(f x).aB k| .dG b m f,k=> .dG b m λ x=>(f x).aB k
def af:RM β->au->Option β| .aA b,_=>some b| .aa,_=>none| .nh d f,st=>(f (Map.av st.a d)).af st| .dS id f,st=>(f (Map.av st.b id)).af st| .dG _ m f,st=>m.bind λ x=>(f x).af st
def jT:RM β->au->(β->Option R)->Option R| .aA b,_,K=>K b| .aa,_,_=>none| .nh d f,st,K=>(f (Map.av st.a d)).jT st K| .dS id f,st,K=>(f (Map.av st.b id)).jT st K| .dG _ m f,st,K=>m.bind λ x=>(f x).jT st K
abbrev _root_.Go.Abs.pD:=Nat×Bool
def ij:RM β->au->List pD| .aA _,_=> []| .aa,_=> []| .nh d f,st=>(d,true)::(f (Map.av st.a d)).ij st| .dS id f,st=>(id,false)::(f (Map.av st.b id)).ij st| .dG _ m f,st=>match m with|some x=>(f x).ij st|none=> []
def si:RM β->au->(β->List pD->Option R)->Option R| .aA b,_,K=>K b []| .aa,_,_=>none| .nh d f,st,K=>(f (Map.av st.a d)).si st λ x ks=>K x ((d,true)::ks)| .dS id f,st,K=>(f (Map.av st.b id)).si st λ x ks=>K x ((id,false)::ks)| .dG _ m f,st,K=>m.bind λ x=>(f x).si st K
def nS:Option β->RM β|some b=> .aA b|none=> .aa
end RM
structure eZ where
 a:Ty
 b:Nat
 c:Bool
structure fc where
 c:List Ty
 b:List Ty
 a:List Ty
 g:ax c->ax b->Option (ax a)
 d:Bool
structure vT where
 a:List Ty
 b:Ty
 c:ax a->Option b.b
structure o9 where
 t:Ty
 ins:List Ty
 fn:t.b->ax ins->Option t.b
structure aq where
 G:List (Nat×eZ)
 C:List (Nat×fc)
 Q:List (Nat×Ty)
 I:List (Nat×vT)
 N:List Nat
 O:List (Nat×o9)
def aq.b(E:aq)(T:Nat):=(Map.av E.G T).map (·.a)
def aq.c(E:aq)(T:Nat):Option Ty:=match E.b T with|some (.aH e)=>some e|_=>none
def aU.a:b2->Option aU| .int k n=>some (.aE (.ay k) n)| .bool b=>some (.aE .aO b)| .string s=>some (.aE .aJ s.data.toList)| .slice none 0 0=>some .js| .nilFunc=>some .nX| .pointer none=>some .AN|_=>none
def tL:List b2->Option (List aU)| []=>some []|v::vs=>match aU.a v,tL vs with|some a,some l=>some (a::l)|_,_=>none
def bQ.b:b2->Option bQ| .agg cs=>(tL cs.toList).map .ju|x=>(aU.a x).map .v
def Ju(a L:List (Nat×Bool)):=a.all λ p=>L.any λ q=>ei p.1 q.1&& (bif p.2 then q.2 else !q.2)
def rd(L:List (Nat×Bool)):dk->RM bQ
 | .tmp t=> .nh t λ|some sl=>bif Ju sl.L L then .aA sl.s else .aa|none=> .aa
 | .const v=> .nS (bQ.b v)| .func f=> .aA (.v (.rN f))| .global _=> .aa
def bQ.c:bQ->RM aU| .v a=> .aA a|_=> .aa
def c9(L:List (Nat×Bool))(x:dk):=(rd L x).aB bQ.c
def sb(L:List (Nat×Bool)):List dk->RM (List bQ)| []=> .aA []|x::r=>(rd L x).aB λ s=>(sb L r).aB λ l=> .aA (s::l)
abbrev W:=List (Nat×(Nat×fJ))
def o8:Ty->Bool| .ec _=>true|_=>false
def akv:= [(190,254),(200,258)]
def afJ:= "criadera/round.proves"
def fc.f(c:fc)(a r:Ty):Option (a.b->Option r.b):=match c with| ⟨[a'],[],[r'],f,_⟩=>if h:a'=a/\r'=r then some (λ x=>h.2▸f (h.1▸x) ())else none|_=>none
def gX(E:aq)(t:Ty):aU->RM (t.b×W)
 | .aE u d=>match gN (t:=u) (t':=t) d with|some x=> .aA (x,[])|none=> .aa
 | .js=>match t with| .aH _=> .aA ([],[])|_=> .aa
 | .AN=>match t with| .ec _=> .aA (none,[])|_=> .aa
 | .dj id ver=> .dS id λ
  |some (cv,.c8 e l)=>bif ei cv ver then(match gN (t:= .aH e) (t':=t) l with|some x=> .aA (x,[(id,(cv,.tX e l))])|none=> .aa)else .aa|some (cv,.tX e l)=>bif ei cv ver then(match gN (t:= .aH e) (t':=t) l with|some x=> .aA (x,[])|none=> .aa)else .aa|some (cv,.kB k v l)=>bif ei cv ver then(match gN (t:= .cO k v) (t':=t) l with|some x=> .aA (x,[(id,(cv,.xL k v l))])|none=> .aa)else .aa|some (cv,.xL k v l)=>bif ei cv ver then(match gN (t:= .cO k v) (t':=t) l with|some x=> .aA (x,[])|none=> .aa)else .aa|_=> .aa
 | .rN f=>match t,Map.av E.C f with
  | .dP a r,some c=>bif o8 a then .aa else match c.f a r with|some g=> .aA (g,[])|none=> .aa
  |_,_=> .aa
 |_=> .aa
def iD(E:aq):(t:Ty)->List aU->RM ((t.b×W)×List aU)| .aF a b,l=>(iD E a l).aB λ x=>(iD E b x.2).aB λ y=> .aA (((x.1.1,y.1.1),x.1.2++y.1.2),y.2)| .ay k,a::l=>(gX E (.ay k) a).aB λ x=> .aA (x,l)| .aO,a::l=>(gX E .aO a).aB λ x=> .aA (x,l)| .aJ,a::l=>(gX E .aJ a).aB λ x=> .aA (x,l)| .aH e,a::l=>(gX E (.aH e) a).aB λ x=> .aA (x,l)| .dP p r,a::l=>(gX E (.dP p r) a).aB λ x=> .aA (x,l)| .dX p q,a::l=>(gX E (.dX p q) a).aB λ x=> .aA (x,l)| .cO p q,a::l=>(gX E (.cO p q) a).aB λ x=> .aA (x,l)| .ec p,a::l=>(gX E (.ec p) a).aB λ x=> .aA (x,l)|_,[]=> .aa
def jd(E:aq)(t:Ty):bQ->RM (t.b×W)| .v a=>gX E t a| .ju l=>bif t.c then(iD E t l).aB λ x=>match x.2 with| []=> .aA x.1|_=> .aa else .aa| .oF _=> .aa
def tn:(t:Ty)->t.b->List aU| .aF a b,(x,y)=>tn a x++tn b y| .ay k,d=> [.aE (.ay k) d]| .aO,d=> [.aE .aO d]| .aJ,d=> [.aE .aJ d]| .aH e,d=> [.aE (.aH e) d]| .dP a r,d=> [.aE (.dP a r) d]| .dX a b,d=> [.aE (.dX a b) d]| .cO a b,d=> [.aE (.cO a b) d]| .ec e,d=> [.aE (.ec e) d]
def bQ.a:bQ->RM (List aU)| .v (.aE t d)=> .aA (tn t d)| .v .nX=> .aa| .v a=> .aA [a]| .ju l=> .aA l| .oF _=> .aa
def rF:Ty->List aU| .aF a b=>rF a++rF b| .aH _=> [.js]| .ay k=> [.aE (.ay k) (0:Int)]| .aO=> [.aE .aO false]| .aJ=> [.aE .aJ ([]:List UInt8)]| .dP _ _| .dX _ _| .cO _ _| .ec _=> [.nX]
def aG{α:Type}(l:List α)(i:Int):=if 0<=i then l[i.toNat]? else none
def tD{α:Type}(l:List α)(i:Int)(x:α):=if 0<=i/\i.toNat<l.length then some (l.set i.toNat x)else none
def iB{α:Type}(l:List α)(lo a:Int):=if 0<=lo/\lo<=a/\a<=(l.length:Int)then some ((l.take a.toNat).drop lo.toNat)else none
def SM(k:eV)(x y:Int):=if y=0 then none else some (k.wrap (x.tdiv y))
def NL(x y:Int):=if y=0 then none else some (x.tmod y)
def iZ:=4294967296
def jk(n:Nat):=if n<=iZ then some ()else none
def CO(n:Int):=if 0<=n/\n<=(iZ:Int)then some ()else none
def U1(x y:Int):=if y>x then y else x
def bu(x y:Int):=if y<x then y else x
def DZ:List Nat->Bool| []=>true|i::r=>!r.any (ei i)&&DZ r
def yi(l:List Nat)(n:Nat):=l.any (ei n)
def bI{α:Type}(g:Bool)(m:Option α)(d:α):=bif g then m else some d
def mM:Ty->Option (eV×Nat)
 | .ay k=>some (k,1)| .aF (.ay k) r=>match mM r with|some (k',n)=>if k'=k then some (k,n+1)else none|none=>none
 |_=>none
def eZ.d(a:eZ):Option (eV×Nat):=match a.c,mM a.a with|true,some (k,m)=>bif ei a.b m then some (k,m)else none|_,_=>none
def cQ(i:Int)(n:Nat):=if 0<=i/\i< (n:Int)then some ()else none
def kZ(i:Int)(n:Nat):=if 0<=i/\i<=(n:Int)then some ()else none
def nU(k:eV):Nat->List aU->RM (List Int)|0,[]=> .aA []|n+1,.aE (.ay k') d::r=>if k'=k then(nU k n r).aB λ l=> .aA ((d:Int)::l)else .aa|_,_=> .aa
def tO(k:eV):Nat->List Int->Int->Int->List aU|_,[],_,_=> []|j,x::r,i,d=> .aE (.ay k) (bif decide (i=(j:Int))then d else x)::tO k (j+1) r i d
def su(k:eV):Nat->List Int->Int->List Int->List aU|_,[],_,_=> []|j,x::r,n,l=> .aE (.ay k) (bif decide ((j:Int)<n)then(l[j]?).getD x else x)::su k (j+1) r n l
def nJ:(n i:Nat)->(t:Ty)->t.b->Option (Σ u:Ty,u.b)|1,0,t,d=>some ⟨t,d⟩|_+2,0,.aF a _,(x,_)=>some ⟨a,x⟩|n+2,i+1,.aF _ b,(_,y)=>nJ (n+1) i b y|_,_,_,_=>none
def uH:(n i:Nat)->Ty->Option Ty|1,0,t=>some t|_+2,0,.aF a _=>some a|n+2,i+1,.aF _ b=>uH (n+1) i b|_,_,_=>none
def jm:(n i:Nat)->Ty->Option Nat
 |1,0,_=>some 0|_+2,0,.aF _ _=>some 0|n+2,i+1,.aF a b=>match jm (n+1) i b with|some o=>some (a.a+o)|none=>none
 |_,_,_=>none
def oX:Nat->Ty->List (Nat×Nat)|1,t=> [(0,t.a)]|n+2,.aF a b=>(0,a.a)::(oX (n+1) b).map λ p=>(a.a+p.1,p.2)|_,_=> []
def pI:(t:Ty)->t.b->t.b->Option Bool
 | .ay _,x,y=>some ((x:Int)==y)| .aO,x,y=>some ((x:Bool)==y)| .aJ,x,y=>some ((x:List UInt8)==y)| .aF a b,(x,c),(y,d)=>match pI a x y,pI b c d with|some p,some q=>some (p&&q)|_,_=>none
 |_,_,_=>none
def Qh(k:eV)(x y:Int):=k.wrap ((ma k.bits x&&&ma k.bits y).toNat:Nat)
def Ru(k:eV)(x y:Int):=k.wrap ((ma k.bits x|||BitVec.ofInt k.bits y).toNat:Nat)
def Kt(k:eV)(x y:Int):=k.wrap ((ma k.bits x^^^ma k.bits y).toNat:Nat)
def Rh(k:eV)(x y:Int):=if y<0 then none else some (k.wrap (x*2^ (min y.toNat k.bits)))
def PW(k:eV)(x y:Int):=if y<0 then none else some (x.fdiv (2^ (min y.toNat k.bits)))
def FX(g:Bool)(op:q7)(k:eV)(x y:Int):RM aU:=match op with| .shl=> .dG Int (bI g (Rh k x y) 0) λ q=> .aA (.aE (.ay k) q)| .shr=> .dG Int (bI g (PW k x y) 0) λ q=> .aA (.aE (.ay k) q)|_=> .aa
def Qc:q7->Bool| .shl| .shr=>true|_=>false
def G6(g:Bool)(op:q7)(k:eV)(x y:Int):RM aU:=match op with| .add=> .aA (.aE (.ay k) (k.wrap (x+y)))| .sub=> .aA (.aE (.ay k) (k.wrap (x- y)))| .mul=> .aA (.aE (.ay k) (k.wrap (x*y)))| .quo=> .dG Int (bI g (SM k x y) 0) λ q=> .aA (.aE (.ay k) q)| .rem=> .dG Int (bI g (NL x y) 0) λ q=> .aA (.aE (.ay k) q)| .and=> .aA (.aE (.ay k) (Qh k x y))| .or=> .aA (.aE (.ay k) (Ru k x y))| .xor=> .aA (.aE (.ay k) (Kt k x y))| .eql=> .aA (.aE .aO (x==y))| .neq=> .aA (.aE .aO (x !=y))| .lss=> .aA (.aE .aO (decide (x<y)))| .leq=> .aA (.aE .aO (decide (x<=y)))| .gtr=> .aA (.aE .aO (decide (x>y)))| .geq=> .aA (.aE .aO (decide (x>=y)))|_=> .aa
def Ik(g:Bool)(op:q7)(x y:List UInt8):RM aU:=match op with| .eql=> .aA (.aE .aO (x==y))| .neq=> .aA (.aE .aO (x !=y))| .add=> .dG Unit (bI g (jk (x.length+y.length)) ()) λ _=> .aA (.aE .aJ (x++y))|_=> .aa
def EB(E:aq)(op:q7)(t:Ty)(s s':bQ):RM aU:=(jd E t s).aB λ d=>(jd E t s').aB λ a=>match pI t d.1 a.1 with
 |some b=>match op with| .eql=> .aA (.aE .aO b)| .neq=> .aA (.aE .aO (!b))|_=> .aa
 |none=> .aa
def HP(E:aq)(g:Bool)(op:q7)(T:Nat)(s s':bQ):RM aU:=match E.b T with
 |some (.ay k)=>bif Qc op then(jd E (.ay k) s).aB λ x=>(match s' with| .v (.aE (.ay _) y)=>FX g op k x.1 y|_=> .aa)else(jd E (.ay k) s).aB λ x=>(jd E (.ay k) s').aB λ y=>G6 g op k x.1 y.1|some .aJ=>(jd E .aJ s).aB λ x=>(jd E .aJ s').aB λ y=>Ik g op x.1 y.1|some .aO=>EB E op .aO s s'|some (.aF a b)=>match Map.av E.Q T with|some t=>if t= .aF a b then EB E op (.aF a b) s s' else .aa|none=> .aa
 |_=> .aa
def Ef:aU->RM Nat
 | .aE (.aH _) l=> .aA (en l)| .js=> .aA 0| .dj id ver=> .dS id λ|some (cv,.c8 _ l)=>bif ei cv ver then .aA l.length else .aa|some (cv,.tX _ l)=>bif ei cv ver then .aA l.length else .aa|_=> .aa
 |_=> .aa
def CA:aU->RM Nat
 | .aE (.cO _ _) l=> .aA (en l)| .dj id ver=> .dS id λ|some (cv,.kB _ _ l)=>bif ei cv ver then .aA l.length else .aa|some (cv,.xL _ _ l)=>bif ei cv ver then .aA l.length else .aa|_=> .aa
 |_=> .aa
def BG(t:Ty)(l:List aU):RM bQ:=match t.c,l with|false,[c]=> .aA (.v c)|true,l=>bif ei l.length t.a then .aA (.ju l)else .aa|_,_=> .aa
def ug(g:Bool)(t:Ty):aU->RM bQ
 | .dx id ver off=> .dS id λ|some (cv,.eu u cells)=>bif ei cv ver then BG t ((cells.drop off).take t.a)else .aa|some (cv,.uj u d)=>bif ei cv ver then(if t=u/\off=0 then .aA (.v (.aE u d))else BG t (((tn u d).drop off).take t.a))else .aa|_=> .aa
 | .gB u d=>if t=u then .aA (.v (.aE u d))else .aa| .rD id ver u i=> .dS id λ|some (cv,.c8 e l)=>bif ei cv ver then(if t=e/\u=e then .dG e.b (bI g (aG l i) e.g) λ x=> .aA (.v (.aE e x))else .aa)else .aa|some (cv,.tX e l)=>bif ei cv ver then(if t=e/\u=e then .dG e.b (bI g (aG l i) e.g) λ x=> .aA (.v (.aE e x))else .aa)else .aa|_=> .aa
 | .sd id ver off k n i=> .dS id λ|some (cv,.eu _ cells)=>bif ei cv ver then(if t= .ay k then(nU k n ((cells.drop off).take n)).aB λ z=> .dG Int (bI g (aG z i) 0) λ x=> .aA (.v (.aE (.ay k) x))else .aa)else .aa|some (cv,.uj u d)=>bif ei cv ver then(if t= .ay k then(nU k n (((tn u d).drop off).take n)).aB λ z=> .dG Int (bI g (aG z i) 0) λ x=> .aA (.v (.aE (.ay k) x))else .aa)else .aa|_=> .aa
 |_=> .aa
def uQ(a:eZ)(i:Nat):aU->RM bQ
 | .dx id ver off=> .dS id λ
  |some (cv,_)=>bif ei cv ver then(match jm a.b i a.a with|some o=> .aA (.v (.dx id ver (off+o)))|none=> .aa)else .aa|none=> .aa
 | .gB t d=>if a.a=t then(match nJ a.b i t d with|some ⟨u,x⟩=> .aA (.v (.gB u x))|none=> .aa)else .aa|_=> .aa
def G3(g:Bool)(b:eZ)(n:Int)(a:aU):RM bQ:=match b.d,a with
 |some (k,m),.dx id ver off=> .dS id λ|some (cv,_)=>bif ei cv ver then .dG Unit (bI g (cQ n m) ()) λ _=> .aA (.v (.sd id ver off k m n))else .aa|none=> .aa
 |_,a=> .dG Unit (if 0<=n then some ()else none) λ _=>uQ b n.toNat a
def akK(g:Bool)(b:eZ)(n:Int)(a:aU)(i:dk):RM bQ:=match i,a,b.d with| .tmp _,.gB t d,some (k,m)=>if t=b.a then(nU k m (tn t d)).aB λ z=> .dG Int (bI g (aG z n) 0) λ x=> .aA (.v (.gB (.ay k) x))else .aa|_,_,_=>G3 g b n a
def DV(g:Bool)(e:Ty)(n:Int):aU->RM bQ
 | .aE (.aH u) l=>if e=u then .dG u.b (bI g (aG l n) u.g) λ x=> .aA (.v (.gB u x))else .aa| .dj id ver=> .dS id λ
  |some (cv,.c8 u l)=>bif ei cv ver then(if e=u then .dG u.b (bI g (aG l n) u.g) λ _=> .aA (.v (.rD id ver u n))else .aa)else .aa|some (cv,.tX u l)=>bif ei cv ver then(if e=u then .dG u.b (bI g (aG l n) u.g) λ x=> .aA (.v (.gB u x))else .aa)else .aa|_=> .aa
 |_=> .aa
def zI(L:List (Nat×Bool))(a:eZ)(cells:List aU):List (Nat×dk)->RM (List aU)| []=> .aA cells| (i,x)::r=>(rd L x).aB λ s=>s.a.aB λ l=>match(oX a.b a.a)[i]? with|some (o,n)=>bif ei l.length n&&k8 (o+n) cells.length then zI L a (cells.take o++l++cells.drop (o+n)) r else .aa|none=> .aa
def tu(L:List (Nat×Bool))(x:dk):=(c9 L x).aB λ| .aE (.ay _) n=> .aA n|_=> .aa
def lr(L:List (Nat×Bool))(a:Int):Option dk->RM Int|none=> .aA a|some x=>tu L x
def JX(L:List (Nat×Bool))(g:Bool)(t:Ty)(lo a:Option dk):aU->RM bQ| .aE (.aH u) l=>if t= .aH u then(lr L 0 lo).aB λ x=>(lr L (en l:Nat) a).aB λ y=>.dG (List u.b) (bI g (iB l x y) []) λ z=> .aA (.v (.aE (.aH u) z))else .aa| .aE .aJ l=>if t= .aJ then(lr L 0 lo).aB λ x=>(lr L (en (α:=UInt8) l:Nat) a).aB λ y=>.dG (List UInt8) (bI g (iB (α:=UInt8) l x y) []) λ z=> .aA (.v (.aE .aJ z))else .aa|_=> .aa
def j4{a α:Type}(eq:a->a->Bool):List (a×α)->a->Option α| [],_=>none|p::r,x=>bif eq p.1 x then some p.2 else j4 eq r x
def lz{a α:Type}(eq:a->a->Bool):List (a×α)->a->α->List (a×α)| [],x,y=> [(x,y)]|p::r,x,y=>bif eq p.1 x then(x,y)::r else p::lz eq r x y
@[reducible] def ajC{α:Type}(l:List (Int×α))(x:Int):Option α:=j4 (λ(a b:Int)=>a==b) l x
@[reducible] def ajK{α:Type}(l:List (Int×α))(x:Int)(y:α):List (Int×α):=lz (λ(a b:Int)=>a==b) l x y
def Bh(q:Ty)(u:Ty):aU->RM (List (q.b×u.b))
 | .aE t d=> .nS (gN (t:=t) (t':= .cO q u) d)| .dj id ver=> .dS id λ|some (cv,.kB k v l)=>bif ei cv ver then .nS (gN (t:= .cO k v) (t':= .cO q u) l)else .aa|some (cv,.xL k v l)=>bif ei cv ver then .nS (gN (t:= .cO k v) (t':= .cO q u) l)else .aa|_=> .aa
 |_=> .aa
def JM(E:aq)(q:Ty)(L:List (Nat×Bool))(x:dk):=(rd L x).aB λ s=>(jd E q s).aB λ d=>match d.2 with| []=> .aA d.1|_=> .aa
def DJ(u:Ty)(ok:Bool)(r:Option u.b):bQ:=bif ok then .oF [.aE u (r.getD u.g),.aE .aO r.isSome]else .v (.aE u (r.getD u.g))
def pL:aU->RM Bool| .aE .aO b=> .aA b|_=> .aa
def FY(L:List (Nat×Bool))(c a b:dk):RM bQ:=match c with
 | .tmp s=>(c9 L (.tmp s)).aB λ c=>(pL c).aB λ t=>match a,b with| .const (.bool true),_=>(c9 ((s,false)::L) b).aB λ y=>(pL y).aB λ y=> .aA (.v (.aE .aO (t||y)))|_,.const (.bool false)=>(c9 ((s,true)::L) a).aB λ x=>(pL x).aB λ x=> .aA (.v (.aE .aO (t&&x)))|_,_=> .aa
 |_=> .aa
def il(E:aq)(L:List (Nat×Bool))(g:Bool)(op:Op):=match op with
 | .move x| .assign x=>rd L x| .binOp b T x y _=>(rd L x).aB λ s=>(rd L y).aB λ s'=>(HP E g b T s s').aB λ a=> .aA (.v a)| .nilCheck x=>(c9 L x).aB λ
  | .aE (.ec e) d=> .dG e.b (bI g d e.g) λ x=> .aA (.v (.gB e x))
  | .gB e d=> .aA (.v (.gB e d))
  | .dx id ver off=> .dS id λ
   |some (cv,_)=>bif ei cv ver then .aA (.v (.dx id ver off))else .aa
   |none=> .aa
  |_=> .aa
 | .unOp u _ x=>(c9 L x).aB λ
  | .aE .aO b=>match u with
   | .not=> .aA (.v (.aE .aO (!b)))
   |_=> .aa
  | .aE (.ay k) n=>match u with
   | .neg=> .aA (.v (.aE (.ay k) (k.wrap (0- (n:Int)))))
   |_=> .aa
  |_=> .aa
 | .pick c a b=>FY L c a b| .load T a=>match E.b T with
  |some t=>(c9 L a).aB (ug g t)
  |none=> .aa
 | .fieldAddr T x i=>match Map.av E.G T with
  |some f=>bif f.a.c&&!f.c then(c9 L x).aB (uQ f i)else .aa
  |none=> .aa
 | .field T x i=>match Map.av E.G T with
  |some f=>bif f.a.c&&!f.c then(c9 L x).aB λ
   | .aE t d=>match gN (t:=t) (t':=f.a) d with
    |some d=>match nJ f.b i f.a d with
     |some u=> .aA (.v (.aE u.1 u.2))
     |none=> .aa
    |none=> .aa
   |_=> .aa else .aa
  |none=> .aa
 | .indexAddr T x i=>match Map.av E.G T with
  |some f=>bif f.c then(c9 L x).aB λ a=>(tu L i).aB λ n=>akK g f n a i else match f.a with
   | .aH e=>(c9 L x).aB λ a=>(tu L i).aB λ n=>DV g e n a
   |_=> .aa
  |none=> .aa
 | .index T x i=>match E.b T with
  |some .aJ=>(c9 L x).aB λ
   | .aE .aJ l=>(tu L i).aB λ n=> .dG UInt8 (bI g (aG (α:=UInt8) l n) 0) λ c=> .aA (.v (.aE (.ay .u8) (c.toNat:Int)))
   |_=> .aa
  |_=>match Map.av E.G T with
   |some f=>(match f.d with
    |some (k,m)=>(rd L x).aB λ s=>s.a.aB λ l=>(nU k m l).aB λ z=>(tu L i).aB λ n=> .dG Int (bI g (aG z n) 0) λ c=> .aA (.v (.aE (.ay k) c))
    |none=> .aa)
   |none=> .aa
 | .extract t i=>(rd L t).aB λ
  | .oF l=>match l[i]? with
   |some a=> .aA (.v a)
   |none=> .aa
  |_=> .aa
 | .slice T x lo h none=>match E.b T with
  |some t=>(c9 L x).aB (JX L g t lo h)
  |none=> .aa
 | .entry x=>(c9 L x).aB λ
  | .dj id ver=> .dS id λ
   |some (cv,.it k v (some y) _)=>bif ei cv ver then .aA (.oF [.aE k y.1,.aE v y.2])else .aa
   |_=> .aa
  |_=> .aa
 | .lookup T m k ok=>match E.b T with
  |some (.cO q u)=>bif u.j then(c9 L m).aB λ a=>(Bh q u a).aB λ l=>(JM E q L k).aB λ n=> .aA (DJ u ok (j4 q.f l n))else .aa
  |_=> .aa
 | .convert S T x=>match E.b S,E.b T with
  |some (.ay _),some (.ay k)=>(tu L x).aB λ n=> .aA (.v (.aE (.ay k) (k.wrap n)))
  |_,_=> .aa
 | .build T ps=>match Map.av E.G T with
  |some f=>bif f.a.c then(zI L f (rF f.a) ps.toList).aB λ l=> .aA (.ju l)else .aa
  |none=> .aa
 | .call {callee:= .builtin .len,args,argTypes}=>match args.toList,argTypes.toList with
  | [x],[T]=>match E.b T with
   |some (.aH _)=>(c9 L x).aB λ a=>(Ef a).aB λ n=> .aA (.v (.aE (.ay .i64) (n:Int)))
   |some .aJ=>(c9 L x).aB λ
    | .aE .aJ l=> .aA (.v (.aE (.ay .i64) (en (α:=UInt8) l:Nat)))
    |_=> .aa
   |some (.cO _ _)=>(c9 L x).aB λ a=>(CA a).aB λ n=> .aA (.v (.aE (.ay .i64) (n:Int)))
   |_=> .aa
  |_,_=> .aa
 | .call {callee:= .builtin .max,args,.. }=>match args.toList with
  | [x,y]=>(c9 L x).aB λ
   | .aE (.ay k) a=>(c9 L y).aB λ
    | .aE (.ay k') b=>if k=k' then .aA (.v (.aE (.ay k) (U1 a b)))else .aa
    |_=> .aa
   |_=> .aa
  |_=> .aa
 | .call {callee:= .builtin .min,args,.. }=>match args.toList with
  | [x,y]=>(c9 L x).aB λ
   | .aE (.ay k) a=>(c9 L y).aB λ
    | .aE (.ay k') b=>if k=k' then .aA (.v (.aE (.ay k) (bu a b)))else .aa
    |_=> .aa
   |_=> .aa
  |_=> .aa
 |_=> .aa
def qu(E:aq)(t:Ty):aU->RM (t.b×W)
 | .gB u d=> .nS ((gN (t:=u) (t':=t) d).map λ d=>(d,[]))| .dx id ver 0=> .dS id λ
  |some (cv,.eu u cells)=>bif ei cv ver then(iD E u cells).aB λ p=>match p.2 with| []=> .nS ((gN (t:=u) (t':=t) p.1.1).map λ d=>(d,p.1.2++ [(id,(cv,.uj u p.1.1))]))|_=> .aa else .aa|some (cv,.uj u d)=>bif ei cv ver then .nS ((gN (t:=u) (t':=t) d).map λ d=>(d,[]))else .aa|_=> .aa
 |_=> .aa
def EU(E:aq)(t:Ty)(s:bQ):RM (t.b×W):=match t,s with| .ec e,.v (.dx id ver off)=>(qu E e (.dx id ver off)).aB λ x=> .aA (some x.1,x.2)| .ec e,.v (.gB u d)=>(qu E e (.gB u d)).aB λ x=> .aA (some x.1,x.2)|t,s=>jd E t s
def rl(E:aq):(a:List Ty)->List bQ->RM (ax a×W)| [],[]=> .aA ((),[])| [t],[s]=>EU E t s|t::u::a,s::ss=>(EU E t s).aB λ x=>(rl E (u::a) ss).aB λ y=> .aA ((x.1,y.1),x.2++y.2)|_,_=> .aa
def mh:(a:List Ty)->ax a->List aU| [],_=> []| [t],x=> [.aE t x]|t::u::a,(x,y)=> .aE t x::mh (u::a) y
def oE:(a:List Ty)->ax a->bQ| [],_=> .oF []| [t],x=> .v (.aE t x)|t::u::a,r=> .oF (mh (t::u::a) r)
def zz:List Ty->Bool| [.aH e]=>e.h|_=>false
def fc.e(c:fc):=c.a.all Ty.h|| (c.d&&zz c.a)
def fc.h(c:fc)(x:ax c.c):Option (ax c.a):=match c,x with| ⟨_,[],_,f,_⟩,x=>f x ()|_,_=>none
def DX(E:aq)(L:List (Nat×Bool))(g:Bool)(f:Nat)(args:List dk):RM ((Bool×bQ)×W):=match Map.av E.C f with
 |some c=>(sb L args).aB λ l=>(rl E c.c l).aB λ x=>.dG (ax c.a) (bI g (c.h x.1) (Rg c.a)) λ r=> .aA ((c.d,oE c.a r),bif c.e then[]else x.2)|none=> .aa
def zW(E:aq)(L:List (Nat×Bool))(g:Bool)(f:dk)(args:List dk):=match f with
 | .func f=>DX E L g f args| .tmp t=>(c9 L (.tmp t)).aB λ
  | .rN f=>DX E L g f args| .aE (.dP a r) f=>bif o8 a then .aa else(sb L args).aB λ| [s]=>(jd E a s).aB λ x=> .dG r.b (bI g (f x.1) r.g) λ y=> .aA ((false,.v (.aE r y)),bif r.h then[]else x.2)|_=> .aa
  |_=> .aa
 |_=> .aa
def akq(E:aq)(x:dk)(name:String)(args:List dk):RM ((Bool×bQ)×W):=(c9 [] x).aB λ
 | .aE (.dP (.ec a) r) f=>if name=afJ then(sb [] args).aB λ| [s]=>(jd E (.ec a) s).aB λ x=> .dG r.b (bI true (f x.1) r.g) λ y=> .aA ((false,.v (.aE r y)),bif r.h then[]else x.2)|_=> .aa else .aa|_=> .aa
structure er where
 c:Option (Nat×fX)
 d:W
def er.a(d:Option Nat)(L:List (Nat×Bool))(g:Bool)(s:bQ)(w:W):er:= ⟨match d with|some d=>some (d,⟨L,g,s⟩)|none=>none,w⟩
def iY(d:Nat)(o:fJ)(a:Nat->aU)(w:W):RM er:= .dS d λ|none=> .aA ⟨some (d,⟨[],true,.v (a 0)⟩),w++ [(d,(0,o))]⟩|some (cv,_)=> .aA ⟨some (d,⟨[],true,.v (a (cv+1))⟩),w++ [(d,(cv+1,o))]⟩
def rE(E:aq)(L:List (Nat×Bool))(e:Ty)(l:List e.b)(w:W):List (Nat×dk)->RM (List e.b×W)| []=> .aA (l,w)| (i,x)::r=>(rd L x).aB λ s=>(jd E e s).aB λ d=>bif u0 i l.length then rE E L e (l.set i d.1) (w++d.2) r else .aa
def Cn(E:aq)(t:Ty)(x:dk):=(c9 [] x).aB (qu E t)
def uD(E:aq):(a:List Ty)->List dk->RM (ax a×W)| [],[]=> .aA ((),[])| [t],[x]=>Cn E t x|t::u::a,x::r=>(Cn E t x).aB λ d=>(uD E (u::a) r).aB λ y=> .aA ((d.1,y.1),d.2++y.2)|_,_=> .aa
def S9(E:aq):(ins caps b:List Ty)->(ax ins->ax caps->Option (ax b))->ax caps->List bQ->RM (aU×W)| [a],_,[r],f,caps,[]=>bif o8 a then .aa else .aA (.aE (.dP a r) λ x=>f x caps,[])| [t,a],_,[r],f,caps,[s]=>bif o8 a then .aa else(jd E t s).aB λ d=> .aA (.aE (.dP a r) λ x=>f (d.1,x) caps,d.2)|_,_,_,_,_,_=> .aa
def akw(E:aq):(ins caps b:List Ty)->(ax ins->ax caps->Option (ax b))->bQ->RM (aU×W)| [t,.ec a],[],[r],f,s=>(jd E t s).aB λ d=> .aA (.aE (.dP (.ec a) r) λ x=>f (d.1,x) (),d.2)|_,_,_,_,_=> .aa
def C6(E:aq)(c:fc)(caps:ax c.b)(first:List bQ):=S9 E c.c c.b c.a c.g caps first
def mU{α:Type}(l:List α)(off:Nat)(x:List α):=l.take off++x++l.drop (off+x.length)
def Ei(E:aq)(t:Ty)(x:dk):aU->RM er
 | .dx id ver off=>(rd [] x).aB λ s=>s.a.aB λ l=> .dS id λ
  |some (cv,.eu u cells)=>bif ei cv ver&&ei l.length t.a&&k8 (off+t.a) cells.length then .aA ⟨none,[(id,(cv,.eu u (mU cells off l)))]⟩else .aa|_=> .aa
 | .sd id ver off k n i=>(rd [] x).aB λ
  | .v (.aE (.ay k') d)=> .dS id λ|some (cv,.eu u cells)=>bif ei cv ver&&k8 (off+n) cells.length then(if t= .ay k/\k'=k then(nU k n ((cells.drop off).take n)).aB λ z=> .aA ⟨none,[(id,(cv,.eu u (mU cells off (tO k 0 z i d))))]⟩else .aa)else .aa|_=> .aa
  |_=> .aa
 | .rD id ver u i=>(rd [] x).aB λ s=>(jd E t s).aB λ d=> .dS id λ|some (cv,.c8 e l)=>bif ei cv ver&&d.2.all (λ p=>!ei p.1 id)then(if h:t=e/\u=e then .dG (List e.b) (tD l i (h.1▸d.1)) λ l'=> .aA ⟨none,d.2++ [(id,(cv,.c8 e l'))]⟩else .aa)else .aa|_=> .aa
 |_=> .aa
def Ht(E:aq)(T d:Nat)(x:dk):aU->RM er
 | .dj id ver=>(c9 [] x).aB λ a=> .dS id λ|some (cv,.c8 e l)=>bif ei cv ver then(if E.b T=some (.aH e)then(gX E (.aH e) a).aB λ m=>.dG Unit (jk (l.length+en m.1)) λ _=> .aA ⟨some (d,⟨[],true,.v (.dj id (cv+1))⟩),[(id,(cv+1,.c8 e (l++m.1)))]⟩else .aa)else .aa|_=> .aa
 | .js=>match E.b T with
  |some (.aH e)=>(c9 [] x).aB λ a=>(gX E (.aH e) a).aB λ m=>.dG Unit (jk (en m.1)) λ _=>iY d (.c8 e m.1) (.dj d) []|_=> .aa
 |_=> .aa
def kv(l:List UInt8):=l.map λ c=>(c.toNat:Int)
def uS(id:Nat):(t:Ty)->t.b->RM (List aU×W)
 | .aH e,l=> .dS id λ|none=> .aA ([.dj id 0],[(id,(0,.c8 e l))])|some (cv,_)=> .aA ([.dj id (cv+1)],[(id,(cv+1,.c8 e l))])
 | .aF a b,(x,y)=>(uS id a x).aB λ p=>(uS (id+a.a) b y).aB λ q=> .aA (p.1++q.1,p.2++q.2)|t,d=> .aA ([.aE t d],[])
def FL(d:Option Nat)(r:(Bool×bQ)×W):RM er:=match r.1.1,r.1.2,d with|true,.v (.aE (.aH e) l),some d=>iY d (.c8 e l) (.dj d) r.2|true,.v (.aE (.aF a b) x),some d=>(uS ((d+1)*4096) (.aF a b) x).aB λ p=> .aA ⟨some (d,⟨[],true,.ju p.1⟩),r.2++p.2⟩|_,s,d=> .aA (.a d [] true s r.2)
def BT(E:aq)(T:Nat)(m k x:dk):RM er:=match E.b T with
 |some (.cO q u)=>(c9 [] m).aB λ
  | .dj id ver=>(JM E q [] k).aB λ n=>(rd [] x).aB λ s=>(jd E u s).aB λ d=> .dS id λ|some (cv,.kB q' a l)=>bif ei cv ver&&d.2.all (λ p=>!ei p.1 id)then(if h:q'=q/\a=u then .aA ⟨none,d.2++ [(id,(cv,.kB q' a (lz q'.f l (h.1▸n) (h.2▸d.1))))]⟩else .aa)else .aa|_=> .aa
  |_=> .aa
 |_=> .aa
def akB(E:aq):dk->RM (Option (o9×Nat×Nat))
 | .tmp t=> .nh t λ|some ⟨[],_,.v (.oH g id ver)⟩=> .aA ((Map.av E.O g).map (·,id,ver))|_=> .aA none
 |_=> .aA none
def akL(E:aq)(d:Option Nat)(c:o9)(id ver:Nat)(args:List dk):RM er:=(sb [] args).aB λ a=>(rl E c.ins a).aB λ y=> .dS id λ
 |some (cv,.eu u cells)=>bif ei cv ver&&y.2.isEmpty&&u.h then(iD E u cells).aB λ p=>bif p.2.isEmpty&&p.1.2.isEmpty then (if h:u=c.t then .dG c.t.b (c.fn (h▸p.1.1) y.1) λ x=> .aA ⟨d.map λ d=>(d,⟨[],true,.oF []⟩),[(id,(cv,.eu c.t (tn c.t x)))]⟩else .aa)else .aa else .aa|_=> .aa
def EV(E:aq)(d:Nat)(k:eV)(m:Nat)(y:Int)(u:Ty)(id ver off:Nat):RM er:=(qu E u (.dx id ver 0)).aB λ p=>(nU k m (((tn u p.1).drop off).take m)).aB λ z=>bif k8 m 999 then .aA ⟨some (d,⟨[],true,.v (.aE (.aH (.ay k)) (z.take y.toNat))⟩),p.2⟩else .aa
def IT(E:aq)(d:Nat)(b:eZ)(a:Option dk)(id ver off:Nat):RM er:=match b.d with
 |some (k,m)=>(lr [] (m:Int) a).aB λ y=> .dG Unit (kZ y m) λ _=> .dS id λ|some (cv,.eu u cells)=>bif ei cv ver then(bif yi E.N d then(bif k8 (off+m) cells.length then .aA ⟨some (d,⟨[],true,.v (.Dq id ver off k m y)⟩),[]⟩else .aa)else EV E d k m y u id ver off)else .aa|some (cv,.uj u _)=>bif ei cv ver then EV E d k m y u id ver off else .aa|_=> .aa
 |none=> .aa
def Iv(E:aq)(T:Nat)(a:Option Nat)(x y:dk):RM er:=(c9 [] x).aB λ
 | .Dq id ver off k n m=>(c9 [] y).aB λ
  | .aE (.aH (.ay k')) l=> .dS id λ|some (cv,.eu u cells)=>bif ei cv ver&&k8 (off+n) cells.length then(if k'=k/\E.b T=some (.aH (.ay k))then(nU k n ((cells.drop off).take n)).aB λ z=>.aA ⟨a.map λ d=>(d,⟨[],true,.v (.aE (.ay .i64) (bu m (en l:Nat)))⟩),[(id,(cv,.eu u (mU cells off (su k 0 z m l))))]⟩else .aa)else .aa|_=> .aa
  |_=> .aa
 |_=> .aa
def D2(E:aq)(o:gE):RM er:=match o.op with
 | .assign (.const (.slice none 0 0))=>match o.dst,E.b o.type with
  |some d,some (.aH e)=>iY d (.c8 e []) (.dj d) []
  |_,_=> .aa
 | .alloc T=>match o.dst,E.b T with
  |some d,some t=>iY d (.eu t (rF t)) (λ v=> .dx d v 0) []
  |_,_=> .aa
 | .box T x=>match o.dst,E.b T with
  |some d,some t=>(rd [] x).aB λ s=>s.a.aB λ l=>bif ei l.length t.a then iY d (.eu t l) (λ v=> .dx d v 0) []else .aa
  |_,_=> .aa
 | .buildSlice T n ps=>match o.dst,E.c T with
  |some d,some e=>(rE E [] e (hv n e.g) [] ps.toList).aB λ l=>
   bif e.j&&k8 (n*e.a) 16777216 then iY d (.c8 e l.1) (.dj d) l.2 else .aa
  |_,_=> .aa
 | .makeSlice T (.tmp x) (.tmp y)=>match o.dst,E.b T with
  |some d,some (.aH e)=>(c9 [] (.tmp x)).aB λ
   | .aE (.ay .i64) n=>bif ei x y&&e.j then .dG Unit (CO n) λ _=>iY d (.c8 e (hv (n:Int).toNat e.g)) (.dj d) []else .aa
   |_=> .aa
  |_,_=> .aa
 | .store T a x=>match o.dst,E.b T with
  |none,some t=>(c9 [] a).aB (Ei E t x)
  |_,_=> .aa
 | .call {callee:= .builtin .append,args,argTypes}=>match o.dst,args.toList,argTypes.toList with
  |some d,[s,x],[T,g]=>bif ei T g then(c9 [] s).aB (Ht E T d x)else .aa
  |_,_,_=> .aa
 | .makeFunc (.func f) first cap=>match Map.av E.C f with
  |some c=>(uD E c.b cap.toList).aB λ y=>(sb [] first.toList).aB λ l=>(C6 E c y.1 l).aB λ a=>
   .aA (.a o.dst [] true (.v a.1) (y.2++a.2))
  |none=>match Map.av E.I f with
   |some c=>bif first.toList.isEmpty then(uD E c.a cap.toList).aB λ y=> .dG c.b.b (c.c y.1) λ xs=> .aA (.a o.dst [] true (.v (.aE c.b xs)) y.2)else .aa
   |none=>match Map.av E.O f,first.toList,cap.toList with
    |some c,[],[x]=>(c9 [] x).aB λ
     | .dx id ver 0=> .dS id λ
      |some (cv,.eu u _)=>bif ei cv ver&&decide (u=c.t)then .aA (.a o.dst [] true (.v (.oH f id ver)) [])else .aa
      |_=> .aa
     |_=> .aa
    |_,_,_=> .aa
 | .makeMap T none=>match o.dst,E.b T with
  |some d,some (.cO k u)=>iY d (.kB k u []) (.dj d) []
  |_,_=> .aa
 | .range T x=>match o.dst,E.b T with
  |some d,some (.cO k u)=>(c9 [] x).aB λ
   | .aE t l=>(RM.nS (gN (t:=t) (t':= .cO k u) l)).aB λ l=>iY d (.it k u none l) (.dj d) []
   |_=> .aa
  |_,_=> .aa
 | .mapUpdate T m k x=>match o.dst with
  |none=>BT E T m k x
  |some _=> .aa
 | .insert T m k x=>match o.dst with
  |none=>BT E T m k x
  |some _=> .aa
 | .slice T x lo b none=>(c9 [] x).aB λ a=>match a,o.dst with
  | .dj id ver,some d=> .dS id λ
   |some (cv,.c8 e l)=>bif ei cv ver then(if E.b T=some (.aH e)then(lr [] 0 lo).aB λ p=>(lr [] (en l:Nat) b).aB λ q=>
    .dG (List e.b) (iB l p q) λ z=> .aA ⟨some (d,⟨[],true,.v (.dj id (cv+1))⟩),[(id,(cv+1,.c8 e z))]⟩else .aa)else .aa
   |_=> .aa
  | .dx id ver off,some d=>match Map.av E.G T,lo with
   |some h,none=>IT E d h b id ver off
   |_,_=> .aa
  |_,_=>(il E [] true (.slice T x lo b none)).aB λ s=> .aA (.a o.dst [] true s [])
 | .call {callee:= .builtin .copy,args,argTypes}=>match args.toList,argTypes.toList with
  | [x,y],[T,_]=>Iv E T o.dst x y
  |_,_=> .aa
 | .call {callee:= .value f,args,.. }=>(akB E f).aB λ
  |some c=>akL E o.dst c.1 c.2.1 c.2.2 args.toList
  |none=>(zW E [] true f args.toList).aB (FL o.dst)
 | .call {callee:= .invoke x name,args,.. }=>(akq E x name args.toList).aB (FL o.dst)
 | .makeInterface T x=>match Map.av akv T with
  |some f=>match Map.av E.C f with
   |some c=>(rd [] x).aB λ s=>(akw E c.c c.b c.a c.g s).aB λ a=> .aA (.a o.dst [] true (.v a.1) a.2)
   |none=> .aa
  |none=> .aa
 | .convert S T x=>match E.b S,E.b T with
  |some .aJ,some (.aH (.ay .u8))=>(c9 [] x).aB λ
   | .aE .aJ l=> .aA (.a o.dst [] true (.v (.aE (.aH (.ay .u8)) (kv l))) [])
   |_=> .aa
  |_,_=>(il E [] true (.convert S T x)).aB λ s=> .aA (.a o.dst [] true s [])
 |op=>(il E [] true op).aB λ s=> .aA (.a o.dst [] true s [])
def CP(L:List (Nat×Bool))(g b:Bool):=match L with| []=>b|_::_=>g&&b
def zO(E:aq)(o:gE)(s:Nat)(want:Bool):RM er:= .nh s λ
 |some ⟨L,g,.v (.aE .aO b)⟩=>let c:=(s,want)::L;let g':Bool:=CP L g (bif want then b else !b)
  match o.op with
  | .call {callee:= .value f,args,.. }=>(zW E c g' f args.toList).aB λ r=>match r.2 with| []=> .aA (.a o.dst c g' r.1.2 [])|_=> .aa
  | .buildSlice T n ps=>match E.b T with
   |some (.aH e)=>(rE E c e (hv n e.g) [] ps.toList).aB λ l=>match l.2 with| []=>bif e.j&&k8 (n*e.a) 16777216 then .aA (.a o.dst c g' (.v (.aE (.aH e) l.1)) [])else .aa|_=> .aa
   |_=> .aa
  |op=>(il E c g' op).aB λ s=> .aA (.a o.dst c g' s [])
 |_=> .aa
def gx(E:aq)(ops:Array gE)(o:gE):=match o.guard with|none=>D2 E o|some (j,want)=>match(ops[j]?).bind (·.dst)with|some s=>zO E o s want|none=> .aa
def kS(ops:Array gE)(o:gE):Option Nat:=match o.guard with|none=>none|some (j,_)=>(ops[j]?).bind (·.dst)
def eX:List (Nat×(Nat×fJ))->W->List (Nat×(Nat×fJ))|h,[]=>h|h,(id,o)::r=>eX (Map.jw h id o) r
def au.e(st:au)(d:Nat):=u0 d st.N&&!st.d.any (ei d)&&!st.c.any (ei d)
def nT(m:Option Nat)(l:List Nat):=match m with|some s=>s::l|none=>l
def xY(m:Option Nat)(d:Nat):=match m with|some s=>ei d s|none=>false
def cD(st:au)(m:Option Nat)(u:er):Option au:=match u.c with
 |some (d,sl)=>bif st.e d&&!xY m d then some {N:=st.N,d:=nT m st.d,a:=Map.jw st.a d sl,b:=eX st.b u.d,c:=st.c}else none|none=>some {N:=st.N,d:=nT m st.d,a:=st.a,b:=eX st.b u.d,c:=st.c}
def Ge(E:aq)(ops:Array gE)(o:gE)(st:au)(K:au->Option R):=(gx E ops o).jT st λ u=>match cD st (kS ops o) u with|some st=>K st|none=>none
structure FP where
 r:List pD
 w:List pD
def er.b(u:er):List pD:=(match u.c with|some (d,_)=> [(d,true)]|none=> [])++u.d.map λ p=>(p.1,false)
def Od(k k':pD):=ei k.1 k'.1&& (bif k.2 then k'.2 else !k'.2)
def DO(l m:List pD):=l.all λ k=>!m.any (Od k)
def tW(f g:FP):=DO f.w g.r&&DO g.w f.r&&DO f.w g.w
def yh(a:Nat)(g:FP):Nat->List FP->Bool|_,[]=>true|i,f::r=>(hy a i||tW f g)&&yh a g (i+1) r
def Bd(E:aq)(ops:Array gE)(a:List Nat):List gE->List FP->au->(au->Option R)->Option R| [],_,st,K=>K st|o::r,fs,st,K=>(gx E ops o).si st λ u ks=>match cD st (kS ops o) u with|some st=>bif yh (a.getD fs.length 0) ⟨ks,u.b⟩ 0 fs then Bd E ops a r (fs++ [⟨ks,u.b⟩]) st K else none|none=>none
def tA(E:aq):List Nat->au->Option au
 | [],st=>some st|n::r,st=>bif k8 1000000 n then(match Map.av st.a (n- 1000000)with
  |some ⟨[],_,.v (.dx id ver 0)⟩=>match Map.av st.b id with|some (cv,.eu u cells)=>((qu E u (.dx id ver 0)).af st).bind λ d=>tA E r {N:=st.N,d:=st.d,a:=st.a,b:=eX st.b d.2,c:=st.c}|_=>tA E r st
  |_=>tA E r st)else tA E r st
def jO(st:au):au:={st with d:= [],a:=st.a.map λ p=>(p.1,if p.2.L.isEmpty then p.2 else⟨[],true,.v .nX⟩)}
def uR:List Edge->List Nat->Nat->Nat| [],_,s=>s|e::r,acc,s=>uR r acc (bif hL .any e then s|||2^e.on|||acc.getD e.on 0 else s)
def qo:List gE->List Nat->List Nat| [],a=>a|o::r,a=>CheckFast.force (uR o.after.toList a 0) λ v=>qo r (a++ [v])
def yq:Nat->List gE->Bool|_,[]=>true|i,o::r=>(o.after.toList.all λ e=>!hL .any e||Nat.blt e.on i)&&yq (i+1) r
abbrev Ev(R:Type):=au->(Exit->au->Option R)->Option R
def Oq(c:dk)(st:au)(x y:Option R):=((c9 [] c).aB pL).jT st λ t=>bif t then x else y
def po(E:aq):List ResultVar->RM (List bQ)| []=> .aA []| .tmp t::r=>(rd [] (.tmp t)).aB λ s=>(po E r).aB λ l=> .aA (s::l)| .cell a T::r=>match E.b T with|some t=>(c9 [] (.tmp a)).aB λ b=>(ug true t b).aB λ s=>(po E r).aB λ l=> .aA (s::l)|none=> .aa
def zV(t:Ty)(a:aU)(r:List aU):RM ((t.b×List Nat)×List aU):=match a with
 | .aE u d=>match gN (t:=u) (t':=t) d with|some x=> .aA ((x,[]),r)|none=> .aa
 |_=> .aa
def vt:(t:Ty)->List aU->RM ((t.b×List Nat)×List aU)
 | .aH e,.dj id ver::r=> .dS id λ
  |some (cv,.c8 c l)=>bif ei cv ver then(match gN (t:= .aH c) (t':= .aH e) l with|some x=> .aA ((x,[id]),r)|none=> .aa)else .aa|_=> .aa
 | .aH e,.js::r=> .aA ((([]:List e.b),[]),r)| .aF a b,l=>(vt a l).aB λ x=>(vt b x.2).aB λ y=> .aA (((x.1.1,y.1.1),x.1.2++y.1.2),y.2)| .ay k,x::r=>zV (.ay k) x r| .aO,x::r=>zV .aO x r| .aJ,x::r=>zV .aJ x r|_,_=> .aa
def zH:(d:List Ty)->List bQ->RM (ax d)
 | [.aH e],[.v (.dj id ver)]=> .dS id λ
  |some (cv,.c8 c l)=>bif ei cv ver then(match gN (t:= .aH c) (t':= .aH e) l with|some x=> .aA x|none=> .aa)else .aa|_=> .aa
 | [.aH e],[.v .js]=> .aA ([]:List e.b)| [.aF a b],[.ju l]=>(vt (.aF a b) l).aB λ x=>match x.2 with| []=>bif DZ x.1.2 then .aA x.1.1 else .aa|_=> .aa
 |_,_=> .aa
def xj(E:aq)(fresh:Bool)(b:List ResultVar)(a:List Ty):Exit->au->Option (ax a)| .normal,st| .ret,st=>bif fresh then((po E b).aB λ l=>zH a l).jT st some else((po E b).aB λ l=>rl E a l).jT st λ x=>some x.1|_,_=>none
def pA:List aU->List aU| []=> []| .aE t d::r=> .gB t d::pA r|a::r=>a::pA r
def yA(n:Nat):List aU->List (Nat×fX)| []=> []|a::r=>(n,⟨[],true,.v a⟩)::yA (n+1) r
def uN(N:Nat)(ins caps:List Ty)(x:ax ins)(y:ax caps):au:={N,d:= [],a:=yA 0 (mh ins x++pA (mh caps y)),b:= [],c:= []}
end
section
variable {w w' w1 w2:eb} {c:b2} {st:au} {a:np}
class Dr where
 b:Bool
variable[Dr]
theorem gF(a b:Nat):ei a b=decide (a=b):=by grind[Nat.beq_eq]
namespace Map
variable{α β:Type}
theorem lq(m)(k)(v:α)(k'):av (jw m k v) k'=if k=k' then some v else av m k':=by induction m with|nil=>grind[jw,av,gF]|cons p r a=>grind[jw,gF,av,decide_false]
theorem Fy(f:α->β)(m)(k):av (m.map λ p=>(p.1,f p.2)) k=(av m k).map f:=by induction m with|nil=>rfl|cons p r a=>grind[av,ei]
theorem afw(f:Nat->Bool)(m:List (Nat×α))(k):av (m.filter λ p=>f p.1) k=if f k then av m k else none:=by induction m with|nil=>simp[av]|cons p r a=>grind[av,gF]
end Map
def Ty.d(t:Ty)(vs:List b2):=if t.c then .agg vs.toArray else vs.headD undef
def aS(l:List b2)(off n:Nat):=(l.drop off).take n
structure eW(w w':eb):Prop where
 d:w'.output=w.output
 e:Dr.b=true->w.drawn<=w'.drawn
theorem eW.g(w):eW w w:= ⟨rfl,by omega⟩
theorem eW.b(a:eW w1 w2)(h:eW w w1):eW w w2:= ⟨a.d.trans h.d,λ d=>eL (h.e d) (a.e d)⟩
theorem eW.f(w):eW w w.drew:= ⟨rfl,by simp_all⟩
structure cm(w w':eb):Prop where
 m:w'.os=w.os
 i:w'.tape=w.tape
 g:eW w w'
 f:w.heap.size<=w'.heap.size
 e:∀b,b<w.heap.size->w'.heap[b]?=w.heap[b]?
theorem cm.h(w):cm w w:= ⟨rfl,rfl,⟨rfl,by omega⟩,df _,λ _ _=>rfl⟩
theorem cm.l(h:cm w w1)(a:cm w1 w2):cm w w2:= ⟨a.m.trans h.m,a.i.trans h.i,a.g.b h.g,eL h.f a.f,λ b c=>(a.e b (gg c h.f)).trans (h.e b c)⟩
theorem cm.d(w)(o):cm w (w.alloc o):= ⟨rfl,rfl,⟨rfl,by simp_all⟩,by simp,vj w o⟩
theorem cm.k(w):cm w w.drew:= ⟨rfl,rfl,.f _,df _,λ _ _=>rfl⟩
structure fN(ok:Nat->Prop)(w w':eb):Prop where
 e:w.heap.size<=w'.heap.size
 d:∀b,ok b->b<w.heap.size->w'.heap[b]?=w.heap[b]?
theorem cm.j(h:cm w w')(ok):fN ok w w':= ⟨h.f,λ b _ a=>h.e b a⟩
def cM(w:eb)(ok ok':Nat->Prop):=∀b,ok b->b<w.heap.size->ok' b
theorem cM.d(w)(ok):cM w ok ok:=λ _ h _=>h
theorem fN.f{ok ok'}(h:fN ok w w1)(c:fN ok' w1 w2)(e:cM w ok ok'):fN ok w w2:= ⟨eL h.e c.e,λ b d a=>(c.d b (e b d a) (gg a h.e)).trans (h.d b d a)⟩
theorem cM.b{ok ok1 a}(f:w.heap.size<=w1.heap.size)(h:cM w ok ok1)(c:cM w1 ok1 a):cM w ok a:=λ b d e=>c b (h b d e) (by omega)
def lE(P:ef)(f:Nat):=∃fn,P.funcs[f]?=some fn/\(fn.name== "runtime.NumGoroutine")=false/\fn.body.isNone=false
def ft(ok:Nat->Prop)(w:eb)(b:Nat):=ok b\/w.heap.size<=b
structure wm(A S:Nat->Prop)(w:eb)(A' a:Nat->Prop)(w':eb):Prop where
 l:w'.os=w.os
 g:w'.tape=w.tape
 e:eW w w'
 f:w.heap.size<=w'.heap.size
 d:∀b,b<w.heap.size->¬S b->w'.heap[b]?=w.heap[b]?
 m:∀b,A b->A' b
 j:∀b,A' b->A b\/w.heap.size<=b
 i:∀b,A' b->b<w'.heap.size
 k:∀b,a b->S b\/w.heap.size<=b
 h:∀b,a b->A' b
structure Le(K:Nat->Prop)(w w':eb):Prop where
 h:w'.os=w.os
 g:w'.tape=w.tape
 f:eW w w'
 d:w.heap.size<=w'.heap.size
 e:∀b,b<w.heap.size->K b->w'.heap[b]?=w.heap[b]?
def ET{α:Type}(P:ef)(AR:eb->(Nat->Prop)->Array b2->α->Prop)(g:FuncId)(h:Array b2)(A0:Nat->Prop)(w:eb)(ok:Nat->Prop)(xs:List α):=∀l(J:Nat->(Nat->Prop)->(Nat->Prop)->eb->Prop)(d:(Nat->Prop)->(Nat->Prop)->eb->Prop),(∀k A S W A' c a,J k A S W->wm A S W A' c a->J k A' c a)->(∀A S W A' c a,d A S W->wm A S W A' c a->d A' c a)->(∀k x A S W f,J k A S W->xs[k]?=some x->AR W (λ b=>(ok b/\b<w.heap.size)\/(A b/\¬S b)) f x->YieldAt q3 5 P l f W λ e a=>Le (λ b=>(ok b/\b<w.heap.size)\/A b) W a/\((e= .returned (.bool true)/\J (k+1) A S a)\/(e= .returned (.bool false)/\d A S a)))->J 0 A0 A0 w->qi P g (#[.func (.yield l) #[] #[]]++h) w λ e a=>(∃v,e= .returned v)/\((∃A S,J xs.length A S a)\/(∃A S,d A S a))
def alh(P:ef)(t f:Nat):=∀v w,(method (P.types.size+q8) t v afJ).run P w= .ok (f,v) w
def anJ(P:ef)(t:Nat):=∀u w,(qO t u).run P w= .ok (.iface t u) w
def o5(P:ef)(a:Ty)(vs:List b2)(fid:Nat)(first cap:Array b2):Prop:=match a with| .ec _=>∃t u,vs= [.iface t u]/\first= #[u]/\cap= #[]/\alh P t fid|_=>vs= [.func (.func fid) first cap]
theorem o5.one{P a vs fid first cap}(h:o5 P a vs fid first cap):∃v,vs= [v]/\(∀cs,v≠ .agg cs)/\∀cs,v≠ .tuple cs:=by unfold o5 at h;split at h;have⟨t,u,h,_⟩:=h;exact⟨_,h,by simp,by simp⟩;exact⟨_,h,by simp,by simp⟩
theorem o5.fn{P a vs fid first cap}(b:o8 a=false):o5 P a vs fid first cap↔vs= [.func (.func fid) first cap]:=by cases a<;>first|exact Iff.rfl|cases b
def u8T:Ty->Bool| .ay .u8=>true|_=>false
def x4(es:Array hq)(n:Nat):=(es.toList.map (·.born)).Nodup/\∀x∈es.toList,x.born<n
def aw(P:ef):(t:Ty)->eb->(Nat->Prop)->List b2->t.b->Prop
 | .ay k,_,_,vs,n=>vs= [.int k n]| .aO,_,_,vs,b=>vs= [.bool b]| .aJ,_,_,vs,s=>vs= [.string ⟨⟨s⟩⟩]| .aH e,w,ok,vs,l=>∃a cap,vs= [.slice a l.length cap]/\l.length<=cap/\(cap=0\/∃b off cs T fr,a=some ⟨b,off,none⟩/\ok b/\w.heap[b]?=some (.cells cs T fr)/\off+cap*e.a<=cs.size/\(u8T e=true\/cap<=l7)/\∀i x,l[i]?=some x->aw P e w ok (aS cs.toList (off+i*e.a) e.a) x)| .aF a b,w,ok,vs,(x,y)=>aw P a w ok (vs.take a.a) x/\aw P b w ok (vs.drop a.a) y| .dP a r,w,ok,vs,f=>∃fid first cap,o5 P a vs fid first cap/\lE P fid/\∀w' ok',fN ok w w'->cM w ok ok'->∀xs x,aw P a w' ok' xs x->∀y,f x=some y->qi P fid (first++ #[a.d xs]++cap) w' λ e j=>∃ys,e= .returned (r.d ys)/\cm w' j/\aw P r j (ft ok' w') ys y| .dX a b,w,ok,vs,xs=>∃g h,vs= [.func (.func g) #[] h]/\lE P g/\∀w' ok',fN ok w w'->cM w ok ok'->ET P (λ W o m x=>∃cs c,m= #[a.d cs,b.d c]/\aw P a W o cs x.1/\aw P b W o c x.2) g h (λ _=>False) w' ok' xs| .cO k v,w,ok,vs,l=>∃b es clock,vs= [.map (some b)]/\ok b/\w.heap[b]?=some (.map es clock)/\x4 es clock/\es.size=l.length/\∀(i:Nat) x e,l[i]?=some x->es[i]?=some e->(∃ks,e.key=k.d ks/\aw P k w ok ks x.1)/\∃us,e.val=v.d us/\aw P v w ok us x.2| .ec e,w,ok,vs,d=>(d=none/\vs= [.pointer none])\/∃x,d=some x/\∃b off cs T fr,vs= [.pointer (some ⟨b,off,none⟩)]/\ok b/\w.heap[b]?=some (.cells cs T fr)/\off+e.a<=cs.size/\aw P e w ok (aS cs.toList off e.a) x
variable{P:ef}
theorem aw.b:(t:Ty)->{w w':eb}->{ok ok':Nat->Prop}->{vs:List b2}->{d:t.b}->fN ok w w'->cM w ok ok'->aw P t w ok vs d->aw P t w' ok' vs d| .ay _,_,_,_,_,_,_,_,_,h=>h| .aO,_,_,_,_,_,_,_,_,h=>h| .aJ,_,_,_,_,_,_,_,_,h=>h| .aH e,w,w',ok,ok',vs,l,j,c,h=>by have⟨a,cap,o,n,m⟩:=h;refine⟨a,_,o,n,?_⟩;obtain m| ⟨b,off,cs,T,fr,q,p,K,F,H,G⟩:=m;grind;refine .inr ⟨b,_,_,T,fr,q,c b p (by grind),?_,F,H,λ i x u=>aw.b e j c (G i x u)⟩;rw[j.d b p (by grind)];omega| .aF a b,w,w',ok,ok',vs,(x,y),j,c,h=> ⟨aw.b a j c h.1,aw.b b j c h.2⟩| .dP a r,w,w',ok,ok',vs,f,j,c,h=>by have⟨fid,first,cap,o,n,m⟩:=h;exact⟨_,_,_,o,n,λ w2 J A z=>m _ _ (j.f A c) (c.b j.e z)⟩| .dX a b,w,w',ok,ok',vs,xs,j,c,h=>by have⟨g,L,o,n,m⟩:=h;exact⟨g,_,o,n,λ w2 J A z=>m _ _ (j.f A c) (c.b j.e z)⟩| .cO k v,w,w',ok,ok',vs,l,j,c,h=>by have⟨b,es,clock,o,n,m,h0,q,p⟩:=h;have s:=(ej.1 m).1;refine⟨b,es,clock,o,c b n s,(j.d b n s).trans m,h0,q,λ i x e u I=>?_⟩;have⟨⟨ks,B,C⟩,us,D,E⟩:=p i x e u I;exact⟨⟨_,B,aw.b k j c C⟩,_,D,aw.b v j c E⟩| .ec e,w,w',ok,ok',vs,d,j,c,h=>by obtain h| ⟨x,h0,b,off,cs,T,fr,o,n,m,q,p⟩:=h;exact .inl h;have s:=(ej.1 m).1;exact .inr ⟨x,h0,b,_,_,T,_,o,c b n s,(j.d b n s).trans m,q,aw.b e j c p⟩
theorem uI{t:Ty}(hp:t.c=false):t.a=1:=by cases t<;>first|rfl|cases hp
theorem aw.d:(t:Ty)->{w:eb}->{ok:Nat->Prop}->{vs:List b2}->{d:t.b}->aw P t w ok vs d->vs.length=t.a| .ay _,_,_,_,_,h=>by simp[aw]at h;subst h;rfl| .aO,_,_,_,_,h=>by simp[aw]at h;subst h;rfl| .aJ,_,_,_,_,h=>by simp[aw]at h;subst h;rfl| .aH e,_,_,_,_,h=>by have⟨a,cap,c,_⟩:=h;subst c;rfl| .dP a r,_,_,_,_,h=>by have⟨fid,first,cap,c,_⟩:=h;obtain⟨v,rfl,_⟩:=c.one;rfl| .dX _ _,_,_,_,_,h=>by have⟨fid,cap,c,_⟩:=h;subst c;rfl| .cO _ _,_,_,_,_,h=>by have⟨b,es,clock,c,_⟩:=h;subst c;rfl| .ec _,_,_,_,_,h=>by rcases h with⟨_,c⟩| ⟨_,_,b,off,cs,T,fr,c,_⟩<;>(subst c;rfl)| .aF a b,w,ok,vs,(x,y),h=>by have c:=aw.d a h.1;have f:=aw.d b h.2;grind[ew,eQ,Ty.a]
theorem aw.e:(t:Ty)->{w w':eb}->{ok ok':Nat->Prop}->{vs:List b2}->{d:t.b}->t.h=true->aw P t w ok vs d->aw P t w' ok' vs d| .ay _,_,_,_,_,_,_,_,h=>h| .aO,_,_,_,_,_,_,_,h=>h| .aJ,_,_,_,_,_,_,_,h=>h| .aH e,_,_,_,_,_,_,c,_=>by trivial| .dP a r,_,_,_,_,_,_,c,_=>by trivial| .dX _ _,_,_,_,_,_,_,c,_=>by trivial| .cO _ _,_,_,_,_,_,_,c,_=>by trivial| .ec _,_,_,_,_,_,_,c,_=>by trivial| .aF a b,_,_,_,_,_,(x,y),c,h=>by simp[Ty.h,ee]at c;exact⟨aw.e a c.1 h.1,aw.e b c.2 h.2⟩
def eY:b2->Bool| .agg _| .tuple _=>false|_=>true
theorem aw.f:(t:Ty)->{w:eb}->{ok:Nat->Prop}->{vs:List b2}->{d:t.b}->aw P t w ok vs d->∀v∈vs,eY v=true
 | .ay _,_,_,_,_,h=>by grind[aw,eY]| .aO,_,_,_,_,h=>by grind[aw,eY]| .aJ,_,_,_,_,h=>by grind[aw,eY]| .aH e,_,_,_,_,h=>by have⟨a,cap,c,_⟩:=h;subst c;simp[eY]| .dP a r,_,_,_,_,h=>by have⟨fid,first,cap,c,_⟩:=h;obtain⟨v,rfl,g,i⟩:=c.one;intro u f;rw[j3.1 f];cases v<;>first|rfl|exact absurd rfl (g _)|exact absurd rfl (i _)
 | .dX _ _,_,_,_,_,h=>by have⟨fid,cap,c,_⟩:=h;subst c;simp[eY]| .cO _ _,_,_,_,_,h=>by have⟨b,es,clock,c,_⟩:=h;subst c;simp[eY]| .ec _,_,_,_,_,h=>by rcases h with⟨_,c⟩| ⟨_,_,b,off,cs,T,fr,c,_⟩<;>(subst c;simp[eY])| .aF a b,w,ok,vs,(x,y),h=>by have c:=aw.f a h.1;have j:=aw.f b h.2;grind[fR]
def oi:b2->Option Nat| .pointer (some a)=>some a.block| .slice (some a) _ _=>some a.block| .map (some b)=>some b|_=>none
abbrev dB(c:b2)(b:Nat):=oi c=some b
theorem HE{b}(h:oi c=some b):dB c b:=h
structure bf where
 m:Nat->Option (Nat×b2×Bool)
 B:Nat->Prop
 b:Nat
instance:CoeFun bf λ _=>Nat->Option (Nat×b2×Bool):= ⟨bf.m⟩
structure bC where
 w:eb
 B:Nat->Prop
 M:Nat->Prop
 f:List Deferred
 b:Array b2
 e:Nat
 d:Nat
structure vQ(s:bC)(w:eb):Prop where
 i:w.os=s.w.os
 g:w.tape=s.w.tape
 f:eW s.w w
 d:s.w.heap.size<=w.heap.size
 e:∀b,b<s.w.heap.size->¬s.M b->w.heap[b]?=s.w.heap[b]?
theorem vQ.h{s}(h:vQ s w)(a:cm w w'):vQ s w':= ⟨a.m.trans h.i,a.i.trans h.g,a.g.b h.f,eL h.d a.f,λ b c d=>(a.e b (gg c h.d)).trans (h.e b c d)⟩
theorem vQ.j{s}(h:vQ s w)(c:∀b,¬s.M b):cm s.w w:= ⟨h.i,h.g,h.f,h.d,λ b a=>h.e b a (c b)⟩
structure sQ(s:bC):Prop where
 i:∀b,s.w.heap.size<=b->s.B b
 e:∀b,s.M b->s.B b
 f:∀d∈s.f,∃D,d={target:= .collected D,args:= #[]}/\s.w.heap[D]?=some (.deferred (some []))/\¬s.B D/\s.d<=D
 h:s.f.Nodup
 g:s.d<=s.w.heap.size
abbrev Nm(conc:bf)(id ver:Nat)(v:b2)(Q:b2->Prop):=∃cv c a,conc id=some (cv,c,a)/\ver<=cv/\eY v=true/\(ver=cv->Q c)
def bN(P:ef)(w:eb)(conc:bf)(ok:Nat->Prop):aU->b2->Prop| .aE t d,v=>∃vs,v=t.d vs/\aw P t w ok vs d| .js,v=>v= .slice none 0 0| .dx id ver off,v=>Nm conc id ver v λ c=>∃b,c= .pointer (some ⟨b,0,none⟩)/\v= .pointer (some ⟨b,off,none⟩)| .gB t d,v=>∃b off cs T fr,v= .pointer (some ⟨b,off,none⟩)/\ok b/\w.heap[b]?=some (.cells cs T fr)/\off+t.a<=cs.size/\aw P t w ok (aS cs.toList off t.a) d| .rD id ver e i,v=>Nm conc id ver v λ c=>∃b off n cap,c= .slice (some ⟨b,off,none⟩) n cap/\0<=i/\v= .pointer (some ⟨b,off+i.toNat*e.a,none⟩)| .dj id ver,v=>Nm conc id ver v λ c=>v=c| .rN f,v=>v= .func (.func f) #[] #[]| .AN,v=>v= .pointer none| .sd id ver off k n i,v=>Nm conc id ver v λ c=>∃b,c= .pointer (some ⟨b,0,none⟩)/\0<=i/\i< (n:Int)/\v= .pointer (some ⟨b,off+i.toNat,none⟩)| .Dq id ver off k n m,v=>Nm conc id ver v λ c=>∃b,c= .pointer (some ⟨b,0,none⟩)/\0<=m/\m<=(n:Int)/\v= .slice (some ⟨b,off,none⟩) m.toNat n| .nX,_=>True| .ku,v=>v= .func (.yield conc.b) #[] #[]| .oH f id ver,v=>∃p,v= .func (.func f) #[] #[p]/\Nm conc id ver p λ c=>∃b,c= .pointer (some ⟨b,0,none⟩)/\p= .pointer (some ⟨b,0,none⟩)
def bU{α β:Type}(R:α->β->Prop):List α->List β->Prop| [],[]=>True|a::l,b::m=>R a b/\bU R l m|_,_=>False
def di(P:ef)(w:eb)(conc:bf)(ok:Nat->Prop):bQ->b2->Prop| .v a,v=>bN P w conc ok a v| .ju l,v=>∃vs,v= .agg vs.toArray/\(∀v∈vs,eY v=true)/\bU (bN P w conc ok) l vs| .oF l,v=>∃vs,v= .tuple vs.toArray/\bU (bN P w conc ok) l vs
def eO(a:Array b2)(L:List (Nat×Bool)):=∀p∈L,a[p.1]?=some (.bool p.2)
structure G9(P:ef)(w:eb)(conc:bf)(ok:Nat->Prop)(a:Array b2)(sl:fX)(v:b2):Prop where
 b:eO a sl.L->sl.g=true/\di P w conc ok sl.s v
 d:¬eO a sl.L->v=undef
def fS(P:ef)(w:eb)(conc:bf)(ok:Nat->Prop)(c:b2)(a:Bool):fJ->Prop
 | .eu t l=>a=true/\∃b cs T,c= .pointer (some ⟨b,0,none⟩)/\w.heap[b]?=some (.cells cs T (0,0))/\l.length=t.a/\(∀v∈cs.toList,eY v=true)/\bU (bN P w conc ok) l cs.toList| .c8 e l=>a=true/\((c= .slice none 0 0/\l= [])\/∃b off cap cs T,c= .slice (some ⟨b,off,none⟩) l.length cap/\w.heap[b]?=some (.cells cs T (0,0))/\l.length<=cap/\cap<=l7/\off+cap*e.a<=cs.size/\∀i x,l[i]?=some x->aw P e w ok (aS cs.toList (off+i*e.a) e.a) x)| .uj t d=>a=false/\∃b cs T fr,c= .pointer (some ⟨b,0,none⟩)/\ok b/\w.heap[b]?=some (.cells cs T fr)/\t.a<=cs.size/\aw P t w ok (aS cs.toList 0 t.a) d| .tX e l=>a=false/\aw P (.aH e) w ok [c] l| .kB k v l=>a=true/\∃b es clock,c= .map (some b)/\w.heap[b]?=some (.map es clock)/\x4 es clock/\es.size=l.length/\∀(i:Nat) x e,l[i]?=some x->es[i]?=some e->(∃ks,e.key=k.d ks/\aw P k w ok ks x.1)/\∃us,e.val=v.d us/\aw P v w ok us x.2| .xL k v l=>a=false/\aw P (.cO k v) w ok [c] l| .it k v y l=>a=true/\∃r m es clock g f h,c= .pointer (some ⟨r,0,none⟩)/\w.heap[r]?=some (.mapIter (some m) g f h)/\ok m/\w.heap[m]?=some (.map es clock)/\x4 es g/\g<=h/\g<=clock/\(vL es f).size=l.length/\(∀(i:Nat) x e,l[i]?=some x->(vL es f)[i]?=some e->(∃ks,e.key=k.d ks/\aw P k w ok ks x.1)/\∃us,e.val=v.d us/\aw P v w ok us x.2)/\∀x,y=some x->h=clock/\∃e∈es.toList,∃j:Array Nat,f=j.push e.born/\(∃ks,e.key=k.d ks/\aw P k w ok ks x.1)/\∃us,e.val=v.d us/\aw P v w ok us x.2
def ae(conc:bf)(b:Nat):=conc.B b/\∀id ver c,conc id=some (ver,c,true)->¬dB c b
structure aD(P:ef)(w0:bC)(conc:bf)(st:au)(a:np)(w:eb):Prop where
 g:a.defers=w0.f
 n:a.tmps.size=st.N
 m:∀d sl,Map.av st.a d=some sl->∀p∈sl.L,p.1∈st.d
 k:∀d sl,Map.av st.a d=some sl->∃v,a.tmps[d]?=some v/\G9 P w conc (ae conc) a.tmps sl v
 q:∀id ver o,Map.av st.b id=some (ver,o)->∃c z,conc id=some (ver,c,z)/\fS P w conc (ae conc) c z o
 r:∀id,Map.av st.b id=none->conc id=none
 t:∀i j y A c c' b,conc i=some (y,c,true)->conc j=some (A,c',true)->dB c b->dB c' b->i=j
 f:∀i y c b,conc i=some (y,c,true)->dB c b->(w0.w.heap.size<=b\/w0.M b)/\b<w.heap.size
 e:vQ w0 w
 u:conc.B=w0.B
 x:conc.b=w0.e
 h:sQ w0
 l:∀s∈st.c,a.tmps[s]?=w0.b[s]?
theorem aD.F{P w0 conc}(h:aD P w0 conc st a w):∀b,w0.w.heap.size<=b->w0.B b:=h.h.i
theorem aD.z{P w0 conc}(h:aD P w0 conc st a w){i e b}(g:conc i=some (e,c,true))(f:dB c b):w0.B b:=by rcases(h.f i e c b g f).1 with d|d;exact h.h.i b d;exact h.h.e b d
def cT(P:ef)(w0:bC)(st:au)(a:np)(w:eb):=∃conc,aD P w0 conc st a w
theorem bU.e{α β R S}:{l:List α}->{m:List β}->(∀a b,R a b->S a b)->bU R l m->bU S l m| [],[],_,_=>trivial|_::_,_::_,h,⟨h1,h2⟩=> ⟨h _ _ h1,bU.e h h2⟩| [],_::_,_,h=>h.elim|_::_,[],_,h=>h.elim
theorem bU.b{α β R}:{l:List α}->{m:List β}->bU R l m->l.length=m.length| [],[],_=>rfl|_::l,_::m,⟨_,h2⟩=>by simp[bU.b h2]| [],_::_,h=>h.elim|_::_,[],h=>h.elim
theorem bU.d{α β R}:{l l':List α}->{m m':List β}->bU R l m->bU R l' m'->bU R (l++l') (m++m')| [],_,[],_,_,h=>h|_::_,_,_::_,_,⟨h1,h2⟩,h=> ⟨h1,bU.d h2 h⟩| [],_,_::_,_,h,_=>h.elim|_::_,_,[],_,h,_=>h.elim
theorem bU.g{α β R}:{l:List α}->{m:List β}->(n:Nat)->bU R l m->bU R (l.take n) (m.take n)|_,_,0,_=>by trivial| [],[],_+1,_=>trivial|_::_,_::_,n+1,⟨h1,h2⟩=> ⟨h1,bU.g n h2⟩| [],_::_,_+1,h=>h.elim|_::_,[],_+1,h=>h.elim
theorem bU.f{α β R}:{l:List α}->{m:List β}->(n:Nat)->bU R l m->bU R (l.drop n) (m.drop n)|_,_,0,h=>h| [],[],_+1,_=>trivial|_::_,_::_,n+1,⟨_,h2⟩=>bU.f n h2| [],_::_,_+1,h=>h.elim|_::_,[],_+1,h=>h.elim
theorem bU.h{α β R}:{l:List α}->{m:List β}->(n:Nat)->(a:α)->bU R l m->l[n]?=some a->∃b,m[n]?=some b/\R a b| [],[],_,_,_,h=>by trivial|_::_,b::_,0,a,⟨h1,_⟩,h=>by grind|_::_,_::_,n+1,a,⟨_,h2⟩,h=>by simpa using bU.h n a h2 (by trivial)| [],_::_,_,_,h,_=>h.elim|_::_,[],_,_,h,_=>h.elim
theorem bU.i{α β R S}(f:α->α):{l:List α}->{m:List β}->(∀a b,R a b->S (f a) b)->bU R l m->bU S (l.map f) m| [],[],_,_=>trivial|_::_,_::_,h,⟨h1,h2⟩=> ⟨h _ _ h1,bU.i f h h2⟩| [],_::_,_,h=>h.elim|_::_,[],_,h=>h.elim
def fU(conc b:bf):=b.b=conc.b/\∀id cv c d,conc id=some (cv,c,d)->∃a c' e,b id=some (a,c',e)/\(cv<a\/(a=cv/\c'=c))
theorem fU.b(conc):fU conc conc:= ⟨rfl,by grind⟩
theorem Nm.b{conc a id ver v Q}(d:fU conc a)(h:Nm conc id ver v Q):Nm a id ver v Q:=by have⟨cv,c,e,b,j,l,k⟩:=h;have⟨f,c',m,g,i⟩:=d.2 id cv c e b;grind
theorem bN.b{conc l ok ok'}(k:fN ok w w')(j:cM w ok ok') (c:fU conc l):(a:aU)->{v:b2}->bN P w conc ok a v->bN P w' l ok' a v| .aE t d,v,⟨vs,g,e⟩=> ⟨vs,g,e.b t k j⟩| .js,v,h=>h| .dx ..,v,h=>Nm.b c h| .gB t d,v,⟨b,off,cs,T,fr,g,e,i,m,n⟩=>⟨b,off,cs,T,fr,g,j b e (ej.1 i).1,(k.d b e (ej.1 i).1).trans i,m,n.b t k j⟩| .rD ..,v,h=>Nm.b c h| .AN,v,h=>h| .sd ..,v,h=>Nm.b c h| .Dq ..,v,h=>Nm.b c h| .dj ..,v,h=>Nm.b c h| .rN f,v,h=>h| .nX,_,_=>trivial| .ku,v,h=>by show v=_;rw[c.1];exact h| .oH ..,v,⟨p,g,e⟩=> ⟨p,g,Nm.b c e⟩
theorem di.b{conc i ok ok'}(g:fN ok w w')(f:cM w ok ok')(e:fU conc i):(s:bQ)->{v:b2}->di P w conc ok s v->di P w' i ok' s v| .v a,v,h=>bN.b g f e a h| .ju l,v,⟨vs,c,h0,d⟩=> ⟨vs,c,h0,d.e λ a b h=>bN.b g f e a h⟩| .oF l,v,⟨vs,c,d⟩=> ⟨vs,c,d.e λ a b h=>bN.b g f e a h⟩
theorem fS.b{conc J ok ok' I}(j:fN ok w w')(g:cM w ok ok') (G:fU conc J) (E:I=true->∀b,dB c b->w'.heap[b]?=w.heap[b]?):(o:fJ)->fS P w conc ok c I o->fS P w' J ok' c I o| .eu t l,⟨h0,b,cs,T,f,q,n,p,s⟩=> ⟨h0,b,cs,T,f,(E h0 b (by rw[f];rfl)).trans q,n,p,s.e λ a b h=>bN.b j g G a h⟩| .c8 e l,⟨h0,.inl h⟩=> ⟨h0,.inl h⟩| .c8 e l,⟨h0,.inr ⟨b,off,cap,cs,T,f,q,n,p,s,F⟩⟩=>⟨h0,.inr ⟨b,off,cap,cs,T,f,(E h0 b (by rw[f];rfl)).trans q,n,p,s,λ i x D=>(F i x D).b e j g⟩⟩| .uj t d,⟨h0,b,cs,T,fr,f,q,n,p,s⟩=>⟨h0,b,cs,T,fr,f,g b q (ej.1 n).1,(j.d b q (ej.1 n).1).trans n,p,s.b t j g⟩| .tX e l,⟨h0,f⟩=> ⟨h0,f.b _ j g⟩| .kB k v l,⟨h0,b,es,clock,f,q,H,n,p⟩=> ⟨h0,b,es,clock,f,(E h0 b (by rw[f];rfl)).trans q,H,n,λ i x e D C=>by have⟨⟨ks,u,z⟩,us,A,B⟩:=p i x e D C;exact⟨⟨_,u,z.b k j g⟩,_,A,B.b v j g⟩⟩| .xL k v l,⟨h0,f⟩=> ⟨h0,f.b _ j g⟩| .it k v y l,⟨h0,r,m,es,clock,S,R,K,f,q,n,p,s,F,M,N,O,L⟩=> ⟨h0,r,m,es,clock,S,R,K,f,(E h0 r (by rw[f];rfl)).trans q,g m n (ej.1 p).1,(j.d m n (ej.1 p).1).trans p,s,F,M,N,λ i x e D C=>by have⟨⟨ks,u,z⟩,us,A,B⟩:=O i x e D C;exact⟨⟨_,u,z.b k j g⟩,_,A,B.b v j g⟩,λ x Q=>by have⟨G,e,C,U,H,⟨ks,u,z⟩,us,A,B⟩:=L x Q;exact⟨G,e,C,U,H,⟨_,u,z.b k j g⟩,_,A,B.b v j g⟩⟩
theorem aD.D{w0 conc}(h:aD P w0 conc st a w)(p:cm w w'):aD P w0 conc st a w' where
 g:=h.g
 n:=h.n
 m:=h.m
 k:=λ d sl C=>by have⟨v,s,j⟩:=h.k d sl C;exact⟨v,s,λ A=> ⟨(j.b A).1,(j.b A).2.b (p.j _) (cM.d _ _) (fU.b _)⟩,j.d⟩
 q:=λ id ver o D=>by have⟨c,E,s,j⟩:=h.q id ver o D;exact⟨c,_,s,j.b (p.j _) (cM.d _ _) (fU.b _) (λ e b y=>by subst e;exact p.e b (h.f _ _ c b s y).2)⟩
 r:=h.r
 t:=h.t
 f:=λ i B c b z y=> ⟨(h.f i B c b z y).1,gg (h.f i B c b z y).2 p.f⟩
 e:=h.e.h p
 u:=h.u
 x:=h.x
 h:=h.h
 l:=h.l
theorem ajj(a:np)(d)(v)(b:d<a.tmps.size):(a.put (some d) v).tmps[d]?=some v:=by simp[u1,b]
theorem DE(a:np)(d)(v)(k:Nat)(h:d≠some k):(a.put d v).tmps[k]?=a.tmps[k]?:=by cases d with|none=>rfl|some d=>grind[u1,Array.getElem?_setIfInBounds_ne]
theorem UH(a:np)(d:Option Nat)(v):(a.put d v).tmps.size=a.tmps.size:=by cases d<;>simp[u1]
end
section
variable[Dr]
variable{P:ef}
variable {st:au} {w:eb} {a:np} {d:Nat} {w0:bC} {F:List Nat} {c v:b2} {ms:List Nat}
theorem RN{L}(h:∀p∈L,p.1≠d):eO (a.put (some d) v).tmps L↔eO a.tmps L:=by
 constructor;intro b p hp;have:=b p hp
 grind[DE]
 intro b p hp;rw[DE _ _ _ _ (by grind)];exact b p hp
theorem MM{l:List Nat}:l.any (ei d)=false↔d∉l:=by grind[ei,sc,gF]
theorem pa:st.e d=true↔d<st.N/\d∉st.d/\d∉st.c:=by simp only[au.e,ee,hY,MM,and_assoc];simp
theorem aD.K{conc}(h:aD P w0 conc st a w){sl}(z:st.e d=true)(D:∀m∈st.d,m∈ms)(C:∀p∈sl.L,p.1∈ms/\p.1≠d)(A:G9 P w conc (ae conc) a.tmps sl v):aD P w0 conc {N:=st.N,d:=ms,a:=Map.jw st.a d sl,b:=st.b,c:=st.c} (a.put (some d) v) w where
 g:=h.g
 l:=λ s F=>by have⟨_,_,I⟩:=pa.1 z;rw[DE _ _ _ _ (by grind)];exact h.l s F
 n:=by rw[UH];exact h.n
 m:=λ k j i p hp=>by simp[Map.lq]at i;split at i;grind;exact D _ (h.m k _ i p hp)
 k:=λ k j i=>by have⟨H,E,_⟩:=pa.1 z;simp[Map.lq]at i;split at i;rename_i e;subst e;cases i;have o:=RN (a:=a) (v:=v) (L:=sl.L) λ p hp=>(C p hp).2;refine⟨v,ajj a d v (by rw[h.n];omega),λ g=>A.b (o.1 g),λ g=>A.d (by grind)⟩;rename_i e;have⟨u,G,y⟩:=h.k k j i;have o:=RN (a:=a) (v:=v) (L:=j.L) λ p hp B=>E (by have:=h.m k j i p hp;rwa [B]at this);refine⟨u,by grind[DE],λ g=>y.b (o.1 g),λ g=>y.d (by grind)⟩
 q:=h.q
 r:=h.r
 t:=h.t
 f:=h.f
 e:=h.e
 u:=h.u
 x:=h.x
 h:=h.h
theorem aD.E{conc}(h:aD P w0 conc st a w)(c:∀m∈st.d,m∈ms):aD P w0 conc {st with d:=ms} a w where
 g:=h.g
 n:=h.n
 m:=λ k i b p hp=>c _ (h.m k i b p hp)
 k:=h.k
 q:=h.q
 r:=h.r
 t:=h.t
 f:=h.f
 e:=h.e
 u:=h.u
 x:=h.x
 h:=h.h
 l:=h.l
theorem aD.I{w' conc}(h:aD P w0 conc st a w){id ver o}(al:∀cv s V,conc id=some (cv,s,V)->cv<ver\/(ver=cv/\c=s))(ac:w'.os=w.os)(af:w'.tape=w.tape)(ad:eW w w')(T:w.heap.size<=w'.heap.size)(Q:∀b,b<w.heap.size->(∀cv s,conc id=some (cv,s,true)->¬dB s b)->w'.heap[b]?=w.heap[b]?)(J:∀b,dB c b->(w.heap.size<=b\/∃cv s,conc id=some (cv,s,true)/\dB s b)/\b<w'.heap.size)(aj:∀A,fU conc A->A id=some (ver,c,true)->fN (ae conc) w w'->cM w (ae conc) (ae A)->(∀b,w.heap.size<=b->¬dB c b->ae A b)->fS P w' A (ae A) c true o):∃A,aD P w0 A {st with b:=Map.jw st.b id (ver,o)} a w'/\A id=some (ver,c,true)/\fU conc A/\fN (ae conc) w w'/\cM w (ae conc) (ae A):=by
 let A:bf:= ⟨λ j=>if j=id then some (ver,c,true)else conc j,conc.B,conc.b⟩;have F:A id=some (ver,c,true):=by grind
 have C:∀j,j≠id->A j=conc j:=λ j p=>by grind
 have R:fU conc A:=by refine⟨rfl,?_⟩;grind
 have U:fN (ae conc) w w':= ⟨T,λ b y I=>Q b I λ cv s z=>y.2 id cv s z⟩;have S:cM w (ae conc) (ae A):=by
  intro b y I;refine⟨y.1,λ j cv s p E=>?_⟩;by_cases e:j=id;subst e;rw[F]at p;cases p;rcases(J b E).1 with L| ⟨ai,c',L,H⟩
  omega;exact y.2 _ _ _ L H;rw[C j e]at p;exact y.2 j _ _ p E
 have am:∀b,w.heap.size<=b->¬dB c b->ae A b:=by
  intro b y ak;refine⟨by rw[h.u];exact h.F b (eL h.e.d y),λ j cv s p E=>?_⟩;by_cases e:j=id
  grind
  rw[C j e]at p;have:=(h.f j cv s b p E).2;omega
 refine⟨_,?_,F,R,U,S⟩;refine{g:=h.g,n:=h.n,m:=h.m,k:=?_,q:=?_,r:=?_,t:=?_,f:=?_,e:=?_,u:=h.u,x:=h.x,h:=h.h,l:=h.l};intro d sl ab;obtain⟨v,L,H⟩:=h.k d sl ab;exact⟨v,L,⟨λ I=> ⟨(H.b I).1,(H.b I).2.b U S R⟩,H.d⟩⟩;intro j O ag p;simp only[Map.lq]at p;split at p
 grind
 rename_i e;obtain⟨s,V,B,D⟩:=h.q j O ag p;refine⟨s,V,by grind,D.b U S R λ Y b y=>?_⟩;subst Y;refine Q b (h.f j O s b B y).2 λ cv ah z aa=>e ?_;exact h.t _ j _ _ _ _ b z B aa y;intro j p;simp only[Map.lq]at p;split at p;trivial;rename_i e;rw[C j (by omega)];exact h.r j p;intro i j W O ci X b z p M N;by_cases G:i=id;by_cases K:j=id;omega;subst G;rw[F]at z;cases z;rw[C j K]at p;rcases(J b M).1 with g| ⟨cv,s,B,D⟩
 have:=(h.f j O X b p N).2;omega;exact h.t _ _ _ _ _ _ b B p D N;rw[C i G]at z;by_cases K:j=id;subst K;rw[F]at p;cases p;rcases(J b N).1 with g| ⟨cv,s,B,D⟩
 have:=(h.f i W ci b z M).2;omega;exact h.t _ _ _ _ _ _ b z B M D;rw[C j K]at p;exact h.t i j _ _ _ _ b z p M N;intro i W ci b z y;by_cases G:i=id;subst G;rw[F]at z;cases z;refine⟨?_,(J b y).2⟩;rcases(J b y).1 with g| ⟨cv,s,B,D⟩
 exact .inl (eL h.e.d g);exact(h.f _ _ _ _ B D).1;rw[C i G]at z;exact⟨(h.f i _ _ b z y).1,gg (h.f i _ _ b z y).2 T⟩;refine⟨ac.trans h.e.i,af.trans h.e.g,ad.b h.e.f,eL h.e.d T,λ b y Z=>?_⟩;rw[Q b (gg y h.e.d) λ cv s z E=>?_];exact h.e.e b y Z;rcases(h.f _ _ _ _ z E).1 with g|g
 all_goals grind
def bB(conc:bf)(F:List Nat):bf:= ⟨λ id=>match conc id with|some (cv,c,a)=>some (cv,c,a&&!F.contains id)|none=>none,conc.B,conc.b⟩
theorem I1(conc)(F):fU conc (bB conc F):=by refine⟨rfl,?_⟩;grind[id,bB]
theorem sX(w)(conc)(F):cM w (ae conc) (ae (bB conc F)):=by intro b d _;refine⟨d.1,λ id cv c a=>?_⟩;unfold bB at a;cases e:conc id with|none=>grind|some q=>have⟨f,c',g⟩:=q;simp[e]at a;obtain⟨rfl,rfl,rfl,_⟩:=a;exact d.2 id _ _ e
theorem Aq{conc id cv}(h:bB conc F id=some (cv,c,true)):conc id=some (cv,c,true)/\id∉F:=by grind[bB]
theorem mT(conc):bB conc []=conc:=by have⟨m,B,a⟩:=conc;grind[bB,bf.mk.injEq,id]
theorem HX{conc}(h:aD P w0 conc st a w){id cv b}(k:id∈F)(e:conc id=some (cv,c,true))(d:dB c b):ae (bB conc F) b:=by refine⟨by show conc.B b;rw[h.u];exact h.z e d,λ j n m l i=>?_⟩;have⟨f,g⟩:=Aq l;exact g (h.t _ j _ _ _ _ b e f d i▸k)
def aV(W:W):=W.map (·.1)
def da(P:ef)(conc:bf)(st:au)(w:eb)(F:List Nat)(l:W):=∀id cv o,(id,(cv,o))∈l->(∃a,Map.av st.b id=some (cv,a))/\∃c,conc id=some (cv,c,true)/\fS P w (bB conc F) (ae (bB conc F)) c false o
theorem DM(h)(l m):eX h (l++m)=eX (eX h l) m:=by induction l generalizing h with|nil=>rfl|cons p l a=>grind[id,eX]
theorem vy(h)(l)(id):(Map.av (eX h l) id=Map.av h id/\id∉aV l)\/∃o,Map.av (eX h l) id=some o/\(id,o)∈l:=by induction l generalizing h with|nil=>exact .inl ⟨rfl,by simp[aV]⟩|cons p l a=>grind[Map.jw,eX,Map.lq,aV,gl]
theorem aD.A{w0 w conc st a}(h:aD P w0 conc st a w){l}(G:da P conc st w (aV l) l):aD P w0 (bB conc (aV l)) {st with b:=eX st.b l} a w where
 g:=h.g
 n:=h.n
 m:=h.m
 k:=λ d sl y=>by have⟨v,s,p⟩:=h.k d sl y;exact⟨v,s,λ g=> ⟨(p.b g).1,(p.b g).2.b ⟨df _,λ _ _ _=>rfl⟩ (sX w _ _) (I1 _ _)⟩,p.d⟩
 q:=λ id ver o z=>by
  rcases vy st.b l id with⟨s,p⟩| ⟨H,s,p⟩;simp only[s]at z;obtain⟨c,J,D,A⟩:=h.q id ver o z;refine⟨c,_,?_,A.b ⟨df _,λ _ _ _=>rfl⟩ (sX w _ _) (I1 _ _) (λ _ _ _=>rfl)⟩;simp[bB,D,p];simp only[s,Option.some.injEq]at z;subst z;obtain⟨_,c,D,A⟩:=G id ver o p;refine⟨c,_,?_,A⟩
  grind[aV,bB]
 r:=λ id y=>by
  rcases vy st.b l id with⟨s,p⟩| ⟨H,s,p⟩;simp only[s]at y;simp[bB,h.r id y];grind
 t:=λ i j C I ci E b B F=>h.t i j C I ci E b (Aq B).1 (Aq F).1
 f:=λ i C c b B=>h.f i C c b (Aq B).1
 e:=h.e
 u:=h.u
 x:=h.x
 h:=h.h
 l:=h.l
theorem da.e{conc l m}(h:da P conc st w F l)(b:da P conc st w F m):da P conc st w F (l++m):=by intro id cv o a;rcases eH.1 a with a|a;exact h _ _ o a;exact b _ _ o a
theorem da.b{conc}:da P conc st w F []:=λ _ _ _ h=>by trivial
theorem jZ(l m):aV (l++m)=aV l++aV m:=by simp[aV]
end
section
variable[Dr]
variable{P:ef}
namespace RM
variable{α β:Type}
variable{t:Ty}{v:b2}{id cv:Nat}{L:List (Nat×Bool)}{ok:Nat->Prop}{o:fJ}{vs:List b2}{y:β}{b:aU}{c:b2}{F:List Nat}{s:bQ}{x:dk}{e:Ty}{ow:Bool}{f:Nat}{Q:b2->Prop}{d:t.b}
theorem ai5(m:RM α)(k:α->RM β)(st):(m.aB k).af st=(m.af st).bind λ x=>(k x).af st:=by induction m with|aA b=>rfl|aa=>rfl|nh d f a=>grind[RM.aB,RM.af]|dS id f a=>grind[RM.aB,RM.af]|dG c m f a=>grind[RM.aB,RM.af]
theorem sH{R}(m:RM β)(st)(K:β->Option R):m.jT st K=(m.af st).bind K:=by induction m with|aA b=>rfl|aa=>rfl|nh d f a=>grind[RM.jT,RM.af]|dS id f a=>grind[RM.jT,RM.af]|dG c m f a=>grind[RM.jT,RM.af]
theorem aI{m:RM α}{k st}{y:β}(h:(m.aB k).af st=some y):∃x,m.af st=some x/\(k x).af st=some y:=by rw[ai5]at h;cases a:m.af st with|none=>grind|some x=>grind
theorem iV{a m f st}(h:(RM.dG a m f).af st=some y):∃x,m=some x/\(f x).af st=some y:=by cases m with|none=>cases h|some x=>exact⟨x,rfl,h⟩
theorem Ae{m st}(h:(RM.nS m).af st=some y):m=some y:=by cases m with|none=>cases h|some x=>exact h
end RM
theorem kC{t t':Ty}{d}{x:t'.b}(h:gN d=some x):∃e:t=t',x=e▸d:=by grind[gN]
theorem dE{α b st}{m:RM α}{y}(h:(bif b then m else .aa).af st=some y):b=true/\m.af st=some y:=by cases b with|false=>cases h|true=>trivial
theorem cU{a b:Nat}(h:ei a b=true):a=b:=by simp_all
theorem aev{c a L}(h:Ju a L=true)(f:eO c L):eO c a:=by
 intro p hp;unfold Ju at h;have⟨q,g,b⟩:=sc.1 (kR.1 h p hp);simp only[ee]at b;have d:=cU b.1;have e:p.2=q.2:=by grind
 rw[d,e];exact f q g
theorem M9{w conc ok v a}(h:aU.a v=some a):bN P w conc ok a v:=by unfold aU.a at h;split at h;cases h;exact⟨_,rfl,rfl⟩;cases h;exact⟨_,rfl,rfl⟩;cases h;exact⟨_,rfl,rfl⟩;cases h;rfl;cases h;trivial;cases h;rfl;trivial
theorem Pc{w conc ok}:{vs:List b2}->{l:List aU}->tL vs=some l->bU (bN P w conc ok) l vs| [],l,h=>by cases h;trivial|v::vs,l,h=>by simp[tL]at h;split at h;rename_i a m b c;cases h;exact⟨M9 b,Pc c⟩;trivial
theorem ah6{v a}(h:aU.a v=some a):eY v=true:=by unfold aU.a at h;split at h;rfl;rfl;rfl;rfl;rfl;rfl;cases h
theorem TS:{vs:List b2}->{l:List aU}->tL vs=some l->∀v∈vs,eY v=true| [],l,h=>by simp|v::vs,l,h=>by simp[tL]at h;split at h;rename_i a m c d;cases h;intro u b;rcases hR.1 b with rfl|b;exact ah6 c;exact TS d u b;trivial
theorem afh{w conc ok v s}(h:bQ.b v=some s):di P w conc ok s v:=by
 unfold bQ.b at h;split at h;rename_i cs;cases b:tL cs.toList with
 |none=>grind
 |some l=>
  rw[b]at h;cases h;exact⟨_,by simp,TS b,Pc b⟩
 cases b:aU.a v with
 |none=>rw[b]at h;cases h
 |some a=>rw[b]at h;cases h;exact M9 b
section
variable{w0:bC}{w:eb}{conc:bf}{st:au}{a:np}
theorem jJ(h:aD P w0 conc st a w){L}(k:eO a.tmps L){x s}(b:(rd L x).af st=some s):di P w conc (ae conc) s (a.eval x):=by cases x with
 |tmp t=>simp[rd,RM.af]at b;cases c:Map.av st.a t with|none=>rw[c]at b;cases b|some sl=>
  rw[c]at b;have⟨i,j⟩:=dE b;cases j;have⟨v,d,e⟩:=h.k t sl c;have:a.eval (.tmp t)=v:=by simp[q4,d]
  rw[this];exact(e.b (aev i k)).2
 |const v=>exact afh (RM.Ae b)|func f=>cases b;exact rfl|global g=>trivial
theorem dQ(h:aD P w0 conc st a w){L}(f:eO a.tmps L){x b}(g:(c9 L x).af st=some b):bN P w conc (ae conc) b (a.eval x):=by have⟨s,e,d⟩:=RM.aI g;have:=jJ h f e;cases s with|v c=>cases d;exact this|ju l=>trivial|oF l=>cases d
theorem yZ(h:aD P w0 conc st a w){L}(c:eO a.tmps L):{xs:List dk}->{l:List bQ}->(sb L xs).af st=some l->bU (di P w conc (ae conc)) l (xs.map a.eval)| [],l,b=>by cases b;trivial|x::xs,l,b=>by have⟨s,d,e⟩:=RM.aI b;have⟨m,f,g⟩:=RM.aI e;cases g;exact⟨jJ h c d,yZ h c f⟩
theorem pW(h:aD P w0 conc st a w){id cv o}(b:Map.av st.b id=some (cv,o)):∃c ow,conc id=some (cv,c,ow)/\fS P w conc (ae conc) c ow o:=h.q _ cv o b
def mO(P:ef)(conc:bf)(st:au)(w:eb)(t:Ty)(d:t.b)(vs:List b2)(l:W):=∀F,(∀id∈aV l,id∈F)->da P conc st w F l/\aw P t w (ae (bB conc F)) vs d
theorem aw.g{t d vs}(h:aw P t w (ae conc) vs d)(F):aw P t w (ae (bB conc F)) vs d:=h.b t ⟨df _,λ _ _ _=>rfl⟩ (sX w conc F)
theorem aw.h{e ok}:aw P (.aH e) w ok [.slice none 0 0] ([]:List e.b):= ⟨_,0,rfl,df _,.inl rfl⟩
theorem Ya(h:aD P w0 conc st a w){id cv e l c ow}(o:conc id=some (cv,c,ow))(d:fS P w conc (ae conc) c ow (.c8 e l)){F}(n:id∈F):ow=true/\aw P (.aH e) w (ae (bB conc F)) [c] l:=by obtain⟨rfl,d⟩:=d;refine⟨rfl,?_⟩;obtain⟨rfl,rfl⟩| ⟨b,off,cap,cs,T,rfl,f,g,j,k,m⟩:=d;exact aw.h;refine⟨some ⟨b,off,none⟩,cap,rfl,g,.inr ⟨b,off,cs,T,(0,0),rfl,HX h n o rfl,f,k,.inr j,λ i x p=>(m i x p).g F⟩⟩
theorem aha(h:aD P w0 conc st a w){id cv k u l c ow}(q:conc id=some (cv,c,ow))(t:fS P w conc (ae conc) c ow (.kB k u l)) {F} (p:id∈F):ow=true/\aw P (.cO k u) w (ae (bB conc F)) [c] l:=by obtain⟨rfl,b,es,clock,rfl,m,h0,n,o⟩:=t;refine⟨rfl,b,es,clock,rfl,HX h p q rfl,m,h0,n,λ i x e s r=>?_⟩;have⟨⟨ks,d,f⟩,us,g,j⟩:=o i x e s r;exact⟨⟨_,d,f.g F⟩,us,g,j.g F⟩
end
def fe(P:ef)(w:eb)(ok:Nat->Prop):(a:List Ty)->List b2->ax a->Prop| [],vs,_=>vs= []| [t],vs,x=>∃cs,vs= [t.d cs]/\aw P t w ok cs x|t::u::a,vs,(x,y)=>∃cs r,vs=t.d cs::r/\aw P t w ok cs x/\fe P w ok (u::a) r y
def kQ(P:ef)(w:eb)(ok:Nat->Prop)(t:Ty)(v:b2)(d:t.b):=∃b off cs T fr,v= .pointer (some ⟨b,off,none⟩)/\ok b/\w.heap[b]?=some (.cells cs T fr)/\off+t.a<=cs.size/\aw P t w ok (aS cs.toList off t.a) d
def oO(P:ef)(w:eb)(ok:Nat->Prop):(a:List Ty)->List b2->ax a->Prop| [],vs,_=>vs= []| [t],vs,x=>∃v,vs= [v]/\kQ P w ok t v x|t::u::a,vs,(x,y)=>∃v r,vs=v::r/\kQ P w ok t v x/\oO P w ok (u::a) r y
def iL(P:ef)(w:eb)(ok:Nat->Prop):(a:List Ty)->b2->ax a->Prop| [],v,_=>v= .tuple #[]| [t],v,x=>∃cs,v=t.d cs/\aw P t w ok cs x|t::u::a,v,r=>∃vs,v= .tuple vs.toArray/\fe P w ok (t::u::a) vs r
def rj(P:ef)(size:Nat)(w:eb)(ok:Nat->Prop)(e:Ty)(v:b2)(l:List e.b):=(v= .slice none 0 0/\l= [])\/∃b off cap cs T,v= .slice (some ⟨b,off,none⟩) l.length cap/\size<=b/\w.heap[b]?=some (.cells cs T (0,0))/\l.length<=cap/\cap<=l7/\off+cap*e.a<=cs.size/\∀i x,l[i]?=some x->aw P e w (λ a=>ok a/\a≠b) (aS cs.toList (off+i*e.a) e.a) x
def kP(P:ef)(size:Nat)(w:eb)(ok:Nat->Prop):(t:Ty)->List b2->t.b->List Nat->Prop| .aH e,vs,l,c=>(vs= [.slice none 0 0]/\l= []/\c= [])\/∃b off cap cs T,vs= [.slice (some ⟨b,off,none⟩) l.length cap]/\c= [b]/\size<=b/\w.heap[b]?=some (.cells cs T (0,0))/\l.length<=cap/\cap<=l7/\off+cap*e.a<=cs.size/\∀i x,l[i]?=some x->aw P e w ok (aS cs.toList (off+i*e.a) e.a) x| .aF a b,vs,(x,y),c=>∃f g,c=f++g/\kP P size w ok a (vs.take a.a) x f/\kP P size w ok b (vs.drop a.a) y g|t,vs,d,c=>c= []/\aw P t w ok vs d
def yr(P:ef)(size:Nat)(w:eb)(ok:Nat->Prop)(t:Ty)(v:b2)(d:t.b):=∃vs a,v=t.d vs/\(∀v∈vs,eY v=true)/\a.Nodup/\vs.length=t.a/\kP P size w (λ b=>ok b/\b∉a) t vs d a
def kz(P:ef)(size:Nat)(w:eb)(ok:Nat->Prop):(c:List Ty)->b2->ax c->Prop| [.aH e],v,l=>rj P size w ok e v l| [.aF a b],v,x=>yr P size w ok (.aF a b) v x|_,_,_=>True
def jf(P:ef)(f:Nat)(c:fc):=lE P f/\∀w ok vs cs x y r,fe P w ok c.c vs x->oO P w ok c.b cs y->c.g x y=some r->qi P f (vs++cs).toArray w λ e w'=>∃v,e= .returned v/\cm w w'/\iL P w' (ft ok w) c.a v r/\(c.d=true->kz P w.heap.size w' (ft ok w) c.a v r)
def dM:Ty->List b2| .aF a b=>dM a++dM b| .aH _=> [.slice none 0 0]| .ay k=> [.int k 0]| .aO=> [.bool false]| .aJ=> [.string ⟨⟨[]⟩⟩]| .dP _ _| .dX _ _=> [.nilFunc]| .cO _ _=> [.map none]| .ec _=> [.pointer none]
def jy(P:ef)(T:Nat)(t:Ty):=∃i,P.info? T=some i/\i.size=t.a/\i.bytes<=32768/\i.zero=some (t.d (dM t))/\0<t.a
def nF(k:Ty)(x:k.b):List k.b->List hq->Nat->Option (Nat×b2)|y::ys,e::es,i=>bif k.f y x then some (i,e.val)else nF k x ys es (i+1)|_,_,_=>none
structure Ad(P:ef)(K:Nat)(k:Ty):Prop where
 g:k.i=true
 h:∀(w:eb)ok ks x b,aw P k w ok ks x->(pz b 10000 K (k.d ks)).run P w= .ok () w
 j:∀(w:eb)ok ks x ys es,aw P k w ok ks x->es.length=ys.length->(∀(i:Nat)y e,ys[i]?=some y->es[i]?=some e->∃us,e.key=k.d us/\aw P k w ok us y)->
  (pV K (k.d ks) es).run P w= .ok (nF k x ys es 0) w
def pP(P:ef)(T:Nat):=(P.underlying T).map λ| .struct _=>true| .array _ _=>true|_=>false
structure je(P:ef)(T:Nat)(a:eZ):Prop where
 j:jy P T a.a
 g:match a.a with
  | .ay k=>P.underlying T=some (.int k)
  | .aO=>P.underlying T=some .bool
  | .aJ=>P.underlying T=some .string
  | .aH e=>∃b,P.underlying T=some (.slice b)/\jy P b e
  | .aF _ _=>bif a.c then∃n b e,P.underlying T=some (.array n b)/\a.a=Ty.e e n/\a.b=n/\jy P b e else∃fs,P.underlying T=some (.struct fs)/\fs.size=a.b
  | .cO k v=>∃K V,P.underlying T=some (.map K V)/\Ad P K k/\jy P V v
  | .ec e=>∃b,P.underlying T=some (.pointer b)/\(a.b≠1->∃d k,P.underlying b=some (.array a.b d)/\e=Ty.e (.ay k) a.b/\jy P d (.ay k))
  |_=>∃ps l v,P.underlying T=some (.func ps l v)
 h:∀fs,P.underlying T=some (.struct fs)->(∀i f,fs[i]?=some f->jm a.b i a.a=some f.offset/\∃c,P.info? f.type=some c/\c.size≠0)/\
  fs.toList.mapM (λ f=>(P.info? f.type).map λ i=>(f.offset,i.size))=some (oX a.b a.a)
 m:a.c=true->a.a.c=true
 r:∀fs,P.underlying T=some (.struct fs)->∀i f u,fs[i]?=some f->uH a.b i a.a=some u->pP P f.type=some u.c/\∃c,P.info? f.type=some c/\c.size=u.a
 q:a.c=true->∀n b,P.underlying T=some (.array n b)->∀k,a.a=Ty.e (.ay k) n->pP P b=some false
 p:a.a= .aH (.ay .u8)->∃b,P.underlying T=some (.slice b)/\P.underlying b=some (.int .u8)
theorem je.l{P T a}(h:je P T a):0<a.a.a:=by have⟨_,_,_,_,_,h⟩:=h.j;exact h
def yk(P:ef)(f:Nat)(c:vT):=c.b.c=false/\∀w ok cs y xs,oO P w ok c.a cs y->c.c y=some xs->aw P c.b w ok [.func (.func f) #[] cs.toArray] xs
structure aeE(v:b2)(w w':eb):Prop where
 os:w'.os=w.os
 tape:w'.tape=w.tape
 output:eW w w'
 size:w.heap.size<=w'.heap.size
 block:∀b,b<w.heap.size->¬dB v b->w'.heap[b]?=w.heap[b]?
def adL(P:ef)(w:eb)(ok:Nat->Prop)(t:Ty)(p:b2)(d:t.b):=∃b cs T,p= .pointer (some ⟨b,0,none⟩)/\w.heap[b]?=some (.cells cs T (0,0))/\aw P t w ok cs.toList d
def aiT(P:ef)(f:Nat)(c:o9):=lE P f/\∀w(ok:Nat->Prop)p vs(d:c.t.b)y r,adL P w ok c.t p d->fe P w ok c.ins vs y->(∀b,dB p b->¬ok b)->c.fn d y=some r->qi P f (vs++ [p]).toArray w λ e w'=>e= .returned (.tuple #[])/\aeE p w w'/\adL P w' (ft ok w) c.t p r
structure al(P:ef)(E:aq):Prop where
 k:∀f c,Map.av E.O f=some c->aiT P f c
 meth:∀t f,Map.av akv t=some f->alh P t f/\anJ P t
 g:∀T e,Map.av E.G T=some e->je P T e
 h:∀f c,Map.av E.C f=some c->jf P f c
 j:∀f c,Map.av E.I f=some c->yk P f c
 i:∀T t,Map.av E.Q T=some t->∀w ok vs a d b r,aw P t w ok vs d->aw P t w ok a b->pI t d b=some r->∀x y,
  (do kH .eql T x y (t.d vs) (t.d a);hS .eql T (t.d vs) (t.d a)).run P w= .ok (.bool r) w/\
  (do kH .neq T x y (t.d vs) (t.d a);hS .neq T (t.d vs) (t.d a)).run P w= .ok (.bool (!r)) w
section
variable{E:aq}{w0:bC}{w:eb}{conc:bf}{st:au}{a:np}
theorem Calls.imp{f:Nat}{args R a}(h:qi P f args w R)(b:∀e w',R e w'->a e w'):qi P f args w a:=hA h b
theorem acD(hE:al P E){f c x r g}(m:Map.av E.C f=some c)(a:c.f x r=some g)(hp:o8 x=false)(ok):aw P (.dP x r) w ok [.func (.func f) #[] #[]] g:=by unfold fc.f at a;split at a;rename_i a' r' fn fr;split at a;rename_i e;obtain⟨rfl,rfl⟩:=e;cases a;have⟨l,n⟩:=hE.h f _ m;refine⟨f,#[],#[],(o5.fn hp).2 rfl,l,λ w' ok' _ _ xs d o y p=>?_⟩;have:=n w' ok' [a'.d xs] [] d () y ⟨xs,rfl,o⟩ rfl p;refine hA (by simpa using this) ?_;rintro e q⟨v,b,h,i,_⟩;have⟨cs,j,k⟩:=i;exact⟨cs,by rw[b,j],h,k⟩;trivial;trivial
theorem sR(h:aD P w0 conc st a w){id cv o v Q}(e:Map.av st.b id=some (cv,o))(f:Nm conc id cv v Q):∃c ow,conc id=some (cv,c,ow)/\fS P w conc (ae conc) c ow o/\Q c:=by have⟨c,ow,b,d⟩:=pW h e;have⟨i,c',k,k1,j,_,g⟩:=f;rw[b]at k1;cases k1;exact⟨c,ow,b,d,g rfl⟩
theorem iQ{α}(h:aD P w0 conc st a w){id ver cv:Nat}{o v Q}{m:RM α}{y}(d:Map.av st.b id=some (cv,o))(b:(bif ei cv ver then m else .aa).af st=some y)(f:Nm conc id ver v Q):m.af st=some y/\ver=cv/\∃c ow,conc id=some (cv,c,ow)/\fS P w conc (ae conc) c ow o/\Q c:=
 have e:=cU (dE b).1
 ⟨(dE b).2,e.symm,sR h d (e▸f)⟩
theorem da.g{id cv o a c F}(h:Map.av st.b id=some (cv,a))(b:conc id=some (cv,c,true))(e:fS P w (bB conc F) (ae (bB conc F)) c false o):da P conc st w F [(id,(cv,o))]:=by intro i f a d;cases j3.1 d;exact⟨⟨_,h⟩,c,b,e⟩
theorem Ca(hE:al P E)(h:aD P w0 conc st a w){t b v d}(i:(gX E t b).af st=some d)(k:bN P w conc (ae conc) b v):∃vs,v=t.d vs/\mO P conc st w t d.1 vs d.2:=by cases b with
 |aE u x=>
  simp[gX]at i;split at i;rename_i y A;cases i;obtain⟨e,rfl⟩:=kC A;subst e;have⟨vs,s,j⟩:=k;exact⟨vs,s,λ F _=> ⟨da.b,j.g F⟩⟩;cases i|js=>
  simp[gX]at i;split at i;cases i;exact⟨[v],rfl,λ F _=> ⟨da.b,by rw[show v=_ from k];exact aw.h⟩⟩;cases i|dj id ver=>
  simp[gX,RM.af]at i;split at i;all_goals try(cases i;done)
  all_goals
   rename_i p;obtain⟨j,rfl,c,ow,l,m,rfl⟩:=iQ h p i k;split at j;rename_i x z;cases j;obtain⟨e,rfl⟩:=kC z;subst e;refine⟨[v],rfl,λ F q=>?_⟩
   first
   |exact⟨da.b,aw.g m.2 F⟩
   |obtain⟨rfl,r⟩:=Ya h l m (q id (by simp[aV]))
    exact⟨.g p l ⟨rfl,r⟩,r⟩
   |obtain⟨rfl,r⟩:=aha h l m (q id (by simp[aV]))
    exact⟨.g p l ⟨rfl,r⟩,r⟩
   cases j|rN f=>cases t with
  |dP x r=>
   simp[gX]at i;cases n:Map.av E.C f with
   |none=>simp[n]at i;cases i
   |some c=>
    simp[n]at i;cases hp:o8 x with
    |true=>rw[hp]at i;cases i
    |false=>
     rw[hp]at i;simp[cond_false]at i;cases o:c.f x r with
     |none=>simp[o]at i;cases i
     |some g=>
      simp[o]at i;cases i;exact⟨[v],rfl,λ F _=> ⟨da.b,by rw[show v=_ from k];exact acD hE n o hp _⟩⟩
  |_=>simp[gX]at i;cases i
 |AN=>simp[gX]at i;split at i;cases i;exact⟨[v],rfl,λ F _=> ⟨da.b,.inl ⟨rfl,by rw[show v=_ from k]⟩⟩⟩;cases i|_=>cases i
theorem mO.h{t u x y vs us l m}(h:mO P conc st w t x vs l)(c:mO P conc st w u y us m)(f:vs.length=t.a):mO P conc st w (.aF t u) (x,y) (vs++us) (l++m):=by intro F a;have d:=h F λ id b=>a id (by rw[jZ];exact fv _ b);have e:=c F λ id b=>a id (by grind[jZ,fl]);refine⟨d.1.e e.1,?_⟩;grind[aw,pn,pk]
theorem mO.g{t x vs l}(h:mO P conc st w t x vs l):vs.length=t.a:=(h _ λ _ a=>a).2.d
theorem sP(hE:al P E)(h:aD P w0 conc st a w){t}(o:t.c=false){b l vs d}(m:((gX E t b).aB λ x=> .aA (x,l)).af st=some d)(c:bU (bN P w conc (ae conc)) (b::l) vs)(h1:∀v∈vs,eY v=true)(n:t.a=1):∃us g,vs=us++g/\mO P conc st w t d.1.1 us d.1.2/\bU (bN P w conc (ae conc)) d.2 g:=by have⟨x,j,k⟩:=RM.aI m;cases k;cases vs with|nil=>exact c.elim|cons v vs=>
 have⟨us,i,e⟩:=Ca hE h j c.1;refine⟨[v],_,rfl,?_,c.2⟩;have f:=e.g;rw[n]at f
 match us,f with
 | [u],_=>
  have:v=u:=by rw[i];simp[Ty.d,o]
  rw[this];exact e
theorem CY(hE:al P E)(h:aD P w0 conc st a w):(t:Ty)->{l:List aU}->{vs:List b2}->{d:(t.b×W)×List aU}->(iD E t l).af st=some d->bU (bN P w conc (ae conc)) l vs->(∀v∈vs,eY v=true)->∃us i,vs=us++i/\mO P conc st w t d.1.1 us d.1.2/\bU (bN P w conc (ae conc)) d.2 i| .aF x y,l,vs,d,c,g,f=>by simp[iD]at c;have⟨p,z,A⟩:=RM.aI c;have⟨q,B,C⟩:=RM.aI A;cases C;have⟨us,i,j,m,n⟩:=CY hE h x z g f;have⟨F,ws',o,s,u⟩:=CY hE h y B n λ v D=>f v (by rw[j];exact fl _ D);exact⟨us++F,ws',by rw[j,o,hZ],m.h s m.g,u⟩| .ay k,b::l,vs,d,c,g,f=>sP hE h rfl (by simpa[iD]using c) g f rfl| .aO,b::l,vs,d,c,g,f=>sP hE h rfl (by simpa[iD]using c) g f rfl| .aJ,b::l,vs,d,c,g,f=>sP hE h rfl (by simpa[iD]using c) g f rfl| .aH e,b::l,vs,d,c,g,f=>sP hE h rfl (by simpa[iD]using c) g f rfl| .dP p r,b::l,vs,d,c,g,f=>sP hE h rfl (by simpa[iD]using c) g f rfl| .dX p q,b::l,vs,d,c,g,f=>sP hE h rfl (by simpa[iD]using c) g f rfl| .cO p q,b::l,vs,d,c,g,f=>sP hE h rfl (by simpa[iD]using c) g f rfl| .ec p,b::l,vs,d,c,g,f=>sP hE h rfl (by simpa[iD]using c) g f rfl| .ay k,[],vs,d,c,g,f=>by simp[iD,RM.af]at c| .aO,[],vs,d,c,g,f=>by simp[iD,RM.af]at c| .aJ,[],vs,d,c,g,f=>by simp[iD,RM.af]at c| .aH e,[],vs,d,c,g,f=>by simp[iD,RM.af]at c| .dP p r,[],vs,d,c,g,f=>by simp[iD,RM.af]at c| .dX p q,[],vs,d,c,g,f=>by simp[iD,RM.af]at c| .cO p q,[],vs,d,c,g,f=>by simp[iD,RM.af]at c| .ec p,[],vs,d,c,g,f=>by simp[iD,RM.af]at c
end
end
section
variable[Dr]
variable{P:ef}{E:aq}{w0:bC}{w:eb}{conc:bf}{st:au}{a:np}
variable {ok:Nat->Prop} {t:Ty} {v:b2} {vs:List b2} {s:bQ} {d:t.b}
theorem nO(hE:al P E)(h:aD P w0 conc st a w){t s v d}(c:(jd E t s).af st=some d)(f:di P w conc (ae conc) s v):∃vs,v=t.d vs/\mO P conc st w t d.1 vs d.2:=by cases s with
 |v b=>exact Ca hE h c f|ju l=>
  simp[jd]at c;have⟨p,q⟩:=dE c;have⟨x,o,e⟩:=RM.aI q;have⟨vs,g,i,j⟩:=f;have⟨us,u,k,m,n⟩:=CY hE h t o j i;split at e;rename_i r;cases e;rw[r]at n;cases u with|nil=>exact⟨us,by rw[g,k,k5];simp[Ty.d,p],m⟩|cons _ _=>trivial
  trivial|oF l=>trivial
theorem mO.b{x l}(h:mO P conc st w t x vs l):aw P t w (λ _=>True) vs x:=(h _ λ _ a=>a).2.b t ⟨df _,λ _ _ _=>rfl⟩ λ _ _ _=>trivial
theorem Tv(b:t.c=false)(h:aw P t w ok vs d):bU (bN P w conc ok) [.aE t d] vs:=by
 have a:=h.d;rw[uI b]at a
 match vs,a with| [v],_=>exact⟨⟨_,by simp[Ty.d,b],h⟩,trivial⟩
theorem Al(t){d}(h:aw P t w ok vs d):bU (bN P w conc ok) (tn t d) vs:=by induction t generalizing vs with|aF x y a b=>rw[<-fR x.a vs];exact(a h.1).d (b h.2)|_=>exact Tv rfl h
theorem Mm(h:aw P t w ok vs d):(t.d vs).cells.toList=vs:=by
 by_cases hp:t.c=true
 grind[Ty.d,oj]
 have a:=h.d;have b:=h.f;simp at hp;rw[uI hp]at a
 match vs,a with
 | [v],_=>
  have c:=b v (by simp);simp only[Ty.d,hp,kg,if_false,vo];cases v<;>first|rfl|cases c
theorem abS(h:eY v=true):v.cells.toList= [v]:=by cases v<;>first|rfl|cases h
def aU.b:aU->Bool| .aE _ _| .nX=>false|_=>true
theorem UA{b}(h:bN P w conc ok b v)(a:b.b=true):eY v=true:=by cases b<;>first| (cases a;done)| (have⟨_,_,_,_,_,h,_⟩:=h;exact h)| (have⟨_,_,_,_,_,h,_⟩:=h;rw[h];rfl)| (have⟨_,h,_⟩:=h;rw[h];rfl)| (rw[show v=_ from h];rfl)
theorem Cg{l}(c:s.a.af st=some l)(e:di P w conc ok s v):∃vs,v.cells.toList=vs/\(∀u∈vs,eY u=true)/\bU (bN P w conc ok) l vs:=by cases s with
 |v b=>
  by_cases g:b.b=true;have i:=UA e g;have:l= [b]:=by
   cases b<;>first| (cases g;done)| (simp only[bQ.a,RM.af]at c;cases c;rfl)
  subst this;exact⟨_,abS i,by grind,e,trivial⟩;cases b with
  |aE t d=>
   cases c;obtain⟨vs,f,a⟩:=e;exact⟨_,by grind[Mm],a.f,Al t a⟩
  |nX=>trivial
  |_=>trivial
 |ju m=>cases c;have⟨vs,f,a,h⟩:=e;exact⟨_,by rw[f];rfl,a,h⟩|oF m=>trivial
end
section
variable[Dr]
variable{P:ef}{E:aq}{w0:bC}{w:eb}{conc:bf}{st:au}{a:np}
variable {T:Nat} {ok:Nat->Prop} {v:b2} {k:eV} {op:q7} {r:aU} {s:bQ} {t:Ty} {te:eZ} {l vs:List b2} {α:Type}
theorem aiE(h:E.b T=some t):∃te,Map.av E.G T=some te/\te.a=t:=by simp_all[aq.b,Map.av]
theorem al.b(hE:al P E)(h:E.b T=some t):∃te,te.a=t/\je P T te:=by have⟨te,a,b⟩:=aiE h;exact⟨_,b,hE.g T _ a⟩
theorem qf(b off n):(⟨b,off,none⟩:Addr).add n= ⟨b,off+n,none⟩:=by grind[x1]
theorem KO(h:je P T te):(ko T).run P w= .ok te.a.a w:=by have⟨i,a,b,_⟩:=h.j;simp_all[ko,ht]
theorem adM(h:je P T te):(isAgg T).run P w= .ok te.a.c w:=by
 have a:=h.g;unfold isAgg;rw[cr];cases c:te.a<;>rw[c]at a<;>dsimp only at a;case aF=>cases b:te.c<;>rw[b]at a<;>first| (have⟨_,a,_⟩:=a;rw[dr a w];rfl)| (have⟨_,_,_,a,_⟩:=a;rw[dr a w];rfl)
 all_goals first| (rw[dr a w];rfl)| (have⟨_,a,_⟩:=a;rw[dr a w];rfl)| (have⟨_,_,a,_⟩:=a;rw[dr a w];rfl)| (have⟨_,_,_,a⟩:=a;rw[dr a w];rfl)
theorem Nt{off}(h:off<l.length):aS l off 1= [l[off]]:=by grind[aS,hh]
theorem J9{off n}(h:off+n<=l.length):(aS l off n).length=n:=by grind[aS,ew,eQ]
theorem Ct{off n j}(h:(aS l off n)[j]?=some v):j<n/\l[off+j]?=some v:=by grind[aS]
theorem acy(h:je P T te){b off cs}{U:Nat}{fr}(c:w.heap[b]?=some (.cells cs U fr)) (f:off+te.a.a<=cs.size):(loadVar T ⟨b,off,none⟩).run P w= .ok (te.a.d (aS cs.toList off te.a.a)) w:=by
 unfold loadVar;rw[cr,adM h];simp only[ep];by_cases hp:te.a.c=true;rw[if_pos hp,cr,KO h];simp[ep];have i:(aS cs.toList off te.a.a).length=te.a.a:=J9 (by omega);have:=run_loadCells_list (P:=P) w ⟨b,off,none⟩ (aS cs.toList off te.a.a) λ j v d=>by have⟨a,g⟩:=Ct d;grind[qf,sv]
 simp_all[cr,Ty.d];have e:te.a.c=false:=by grind
 have a:=uI e;rw[a]at f;have k:off<cs.size:=by omega
 rw[if_neg hp,run_load,sv w b _ _ U _ c,a,Nt (by omega)];grind[hg,Ty.d]
theorem cG(t):eO t []:=λ _ h=>by trivial
theorem jN{c}[Decidable c]{m:RM α}{y}(h:(if c then m else .aa).af st=some y):c/\m.af st=some y:=by split at h;all_goals trivial
theorem rU(m)(d:α):bI true m d=m:=rfl
theorem agu(x):(ByteArray.mk ⟨x⟩).toList=x:=ByteArray.toList_mk x
theorem vb{x:Int}(a:v=(Ty.ay k).d vs)(h:aw P (.ay k) w ok vs x):v= .int k x:=by simp[aw]at h;subst h;trivial
theorem Cr{x:List UInt8}(a:v=Ty.aJ.d vs)(h:aw P .aJ w ok vs x):v= .string ⟨⟨x⟩⟩:=by simp[aw]at h;subst h;trivial
theorem tM{x:Bool}(a:v=Ty.aO.d vs)(h:aw P .aO w ok vs x):v= .bool x:=by simp[aw]at h;subst h;trivial
theorem oc(n:Int):bN P w conc ok (.aE (.ay k) n) (.int k n):= ⟨_,rfl,rfl⟩
theorem lR(n:Bool):bN P w conc ok (.aE .aO n) (.bool n):= ⟨_,rfl,rfl⟩
theorem LG(s:List UInt8):bN P w conc ok (.aE .aJ s) (.string ⟨⟨s⟩⟩):= ⟨_,rfl,rfl⟩
theorem afV{x y}(X Y)(a:(G6 true op k x y).af st=some r):∃v,(do kH op T X Y (.int k x) (.int k y);hS op T (.int k x) (.int k y)).run P w= .ok v w/\bN P w conc ok r v:=by
 cases op<;>simp[G6]at a;case quo|rem=>have⟨q,c,b⟩:=RM.iV a;cases b;simp_all[rU,SM,NL,kH,hS,Op.intDiv,oc]
 all_goals cases a
 case and|or|xor|add|sub|mul=>simp_all[kH,hS,Op.intBits,Op.intArith,Qh,Ru,Kt,oc]
 all_goals exact⟨.bool _,by simp only[kH,hS,Op.intCmp,ne_eq,not_true_eq_false,if_false];rfl,lR _⟩
theorem Xv{k' x y}(X Y)(b:(FX true op k x y).af st=some r):∃v,(do kH op T X Y (.int k x) (.int k' y);hS op T (.int k x) (.int k' y)).run P w= .ok v w/\bN P w conc ok r v:=by
 cases op<;>simp[FX]at b;case shl|shr=>have⟨q,a,c⟩:=RM.iV b;cases c;simp only[rU,Rh,PW]at a;split at a;trivial;rename_i d;cases a;exact⟨_,by simp[kH,hS,Op.shift,d],oc _⟩
 all_goals cases b
theorem ach{x y}(X Y)(a:(Ik true op x y).af st=some r):∃v,(do kH op T X Y (.string ⟨⟨x⟩⟩) (.string ⟨⟨y⟩⟩);hS op T (.string ⟨⟨x⟩⟩) (.string ⟨⟨y⟩⟩)).run P w= .ok v w/\bN P w conc ok r v:=by
 cases op<;>simp[Ik]at a;case add=>
  have⟨q,b,c⟩:=RM.iV a;cases c;rw[rU,jk]at b;split at b;rename_i d;unfold iZ at d;refine⟨_,?_,LG _⟩;have g:¬((((⟨⟨x⟩⟩:ByteArray).size+ (⟨⟨y⟩⟩:ByteArray).size:Nat):Int)>IntKind.i64.max):=by
   have e:IntKind.i64.max=9223372036854775807:=by decide
   grind[q5,lA]
  have f:(⟨⟨x⟩⟩:ByteArray)++ ⟨⟨y⟩⟩= ⟨⟨x++y⟩⟩:=by
   rfl
  simp_all[kH,hS,vR,if_false];trivial;all_goals first| (cases a;done)|skip
 all_goals cases a;all_goals exact⟨.bool _,by simp only[kH,hS,vR,agu];rfl,lR _⟩
theorem Uh(a:P.underlying T=some .bool)(x y):(tg T (.bool x) (.bool y)).run P w= .ok (x==y) w:=by
 have:∀d,(x2 (d+1) T (.bool x) (.bool y)).run P w= .ok (x==y) w:=by simp_all[x2,cr,dr]
 exact this _
theorem KZ(a:P.underlying T=some .bool)(x y)(X Y):(do kH .eql T X Y (.bool x) (.bool y);hS .eql T (.bool x) (.bool y)).run P w= .ok (.bool (x==y)) w/\(do kH .neq T X Y (.bool x) (.bool y);hS .neq T (.bool x) (.bool y)).run P w= .ok (.bool (!(x==y))) w:=by have h:=Uh (w:=w) a x y;constructor;show(tg T _ _>>=λ b=>pure _).run P w=_;simp_all;show(tg T _ _>>=λ b=>pure _).run P w=_;simp_all
theorem Hm(hE:al P E)(h:aD P w0 conc st a w){d:Int×W}(e:(jd E (.ay k) s).af st=some d)(f:di P w conc (ae conc) s v):v= .int k d.1:=by have⟨vs,b,c⟩:=nO hE h e f;exact vb b c.b
theorem Sb(hE:al P E)(h:aD P w0 conc st a w){d:List UInt8×W}(e:(jd E .aJ s).af st=some d)(f:di P w conc (ae conc) s v):v= .string ⟨⟨d.1⟩⟩:=by have⟨vs,b,c⟩:=nO hE h e f;exact Cr b c.b
theorem RL(hE:al P E)(h:aD P w0 conc st a w){op t s s' v v' r}(i:(EB E op t s s').af st=some r) (q:di P w conc (ae conc) s v) (u:di P w conc (ae conc) s' v'):∃vs f d e b,v=t.d vs/\v'=t.d f/\aw P t w (λ _=>True) vs d/\aw P t w (λ _=>True) f e/\pI t d e=some b/\((op= .eql/\r= .aE .aO b)\/(op= .neq/\r= .aE .aO (!b))):=by unfold EB at i;have⟨d,n,o⟩:=RM.aI i;have⟨e,p,c⟩:=RM.aI o;have⟨vs,j,k⟩:=nO hE h n q;have⟨f,l,m⟩:=nO hE h p u;cases g:pI t d.1 e.1 with|none=>simp[g]at c;cases c|some b=>
  simp[g]at c;refine⟨vs,f,_,_,b,j,l,k.b,m.b,g,?_⟩;cases op<;>first| (cases c;done)|skip
  cases c;simp;cases c;simp
theorem ahm(hE:al P E)(h:aD P w0 conc st a w){s' v'}(X Y)(c:(HP E true op T s s').af st=some r) (g:di P w conc (ae conc) s v) (i:di P w conc (ae conc) s' v'):∃u,(do kH op T X Y v v';hS op T v v').run P w= .ok u w/\bN P w conc (ae conc) r u:=by
 unfold HP at c;split at c;cases C:Qc op with|true=>rw[C]at c;have⟨x,f,e⟩:=RM.aI c;split at e;rename_i k' y;have⟨vs,j,k⟩:=i;rw[Hm hE h f g,vb j k];exact Xv X Y e;trivial|false=>rw[C]at c;have⟨x,f,e⟩:=RM.aI c;have⟨y,o,p⟩:=RM.aI e;rw[Hm hE h f g,Hm hE h o i];exact afV X Y p
 have⟨x,f,e⟩:=RM.aI c;have⟨y,o,p⟩:=RM.aI e;rw[Sb hE h f g,Sb hE h o i];exact ach X Y p;rename_i hT;have⟨vs,D,d,A,b,j,k,m,n,l,B⟩:=RL hE h c g i;rw[tM j m,tM k n];have⟨te,F,G⟩:=hE.b hT;have z:=G.g;rw[F]at z;simp[pI,Option.some.injEq]at l;subst l;obtain⟨rfl,rfl⟩| ⟨rfl,rfl⟩:=B;exact⟨_,(KZ z d _ X Y).1,lR _⟩;exact⟨_,(KZ z d _ X Y).2,lR _⟩;cases q:Map.av E.Q T with|none=>simp[q]at c;trivial|some t=>simp[q]at c;have⟨rfl,H⟩:=jN c;have⟨vs,D,d,A,b,j,k,m,n,l,B⟩:=RL hE h H g i;have⟨k1,I⟩:=hE.i T _ q w _ vs D d A b m n l X Y;grind[lR]
 trivial
end
section
variable[Dr]
variable{P:ef}{E:aq}{w0:bC}{w:eb}{conc:bf}{st:au}{a:np}
variable{T:Nat}{v:b2}{te:eZ}{s:bQ}{b:aU}{ok:Nat->Prop}{i:Nat}{n:Int}{k:eV}{e:Ty}{m:Nat}{t:Ty}{vs:List b2}{α:Type}{l:List α}{x:e.b}
theorem Mh(hp:0<t.a){l off}(b:(BG t ((l.drop off).take t.a)).af st=some s)(d:bU (bN P w conc ok) l vs)(h1:∀u∈vs,eY u=true):off+t.a<=vs.length/\di P w conc ok s (t.d (aS vs off t.a)):=by
 have a:bU (bN P w conc ok) ((l.drop off).take t.a) (aS vs off t.a):=(d.f off).g t.a;have k:=d.b;unfold BG at b;split at b;rename_i c hp heq;have m:=uI hp;rw[heq]at a;have f:=a.b;simp only[aS,ew,eQ,mb,mr]at f;cases b;refine⟨by omega,?_⟩
 match j:aS _ _ _,a with
 | [v],⟨h,_⟩=>grind[Ty.d,di]
 rename_i l' hp;obtain⟨g,e⟩:=dE b;have:=cU g;rw[ew,eQ]at this;cases e;exact⟨by omega,_,by grind[Ty.d,aS],λ u i=>h1 u (mZ (qW i)),a⟩;trivial
theorem HM{i x}(h:aG l i=some x):0<=i/\i.toNat<l.length/\l[i.toNat]?=some x:=by grind[aG,ea]
theorem EI{d}(h:aw P t w ok vs d):di P w conc ok (.v (.aE t d)) (t.d vs):= ⟨_,rfl,h⟩
theorem Fg{l a n b}(h:b+m<=n):aS (aS l a n) b m=aS l (a+b) m:=by grind[aS,lf,nb]
theorem wq:(n:Nat)->(l:List aU)->{vs:List b2}->{z:List Int}->(nU k n l).af st=some z->bU (bN P w conc ok) l vs->vs=z.map (fu k)/\z.length=n
 |0,[],vs,z,h,a=>by cases h;cases vs with|nil=>trivial|cons _ _=>trivial
 |0,_::_,vs,z,h,a=>by trivial|n+1,[],vs,z,h,a=>by trivial|n+1,x::r,vs,z,h,a=>by cases x with
  |aE t d=>cases t with
   |ay k'=>simp[nU]at h;have⟨j,h⟩:=jN h;have⟨l',g,i⟩:=RM.aI h;cases i;cases vs with|nil=>trivial|cons v vs=>have⟨⟨us,b,c⟩,m⟩:=a;have⟨f,o⟩:=wq n r g m;subst j;have e:us= [.int k' d]:=c;refine⟨?_,by grind⟩;rw[b,e,f];rfl
   |_=>trivial
  |_=>trivial
theorem Ly{off n z}(h:i<n)(k:off+n*z<=m):off+i*z+z<=m:=by refine eL ?_ k;rw[hU,<-gw];exact fz (eg _ h) _
theorem zb{β i d f}{y:β}(h:(RM.dG α (bI true (aG l i) d) f).af st=some y):∃x,(f x).af st=some y/\0<=i/\i.toNat<l.length/\l[i.toNat]?=some x:=by have⟨x,a,b⟩:=RM.iV h;exact⟨x,b,HM a⟩
theorem aw.j{l:List e.b}(h:aw P (.aH e) w ok [v] l)(c:l[i]?=some x):∃b off cap cs T fr,v= .slice (some ⟨b,off,none⟩) l.length cap/\ok b/\w.heap[b]?=some (.cells cs T fr)/\off+i*e.a+e.a<=cs.size/\aw P e w ok (aS cs.toList (off+i*e.a) e.a) x:=by have⟨a,cap,d,f,g⟩:=h;cases d;have o:=(ea.1 c).1;obtain rfl| ⟨b,off,cs,T,fr,rfl,j,k,m,_,n⟩:=g;omega;exact⟨b,_,_,_,T,_,rfl,j,k,Ly (gg o f) m,n i x c⟩
theorem fS.c{c k l}(h:fS P w conc ok c k (.c8 e l))(a:l[i]?=some x):∃b off cap cs T,c= .slice (some ⟨b,off,none⟩) l.length cap/\w.heap[b]?=some (.cells cs T (0,0))/\off+i*e.a+e.a<=cs.size/\aw P e w ok (aS cs.toList (off+i*e.a) e.a) x:=by have o:=(ea.1 a).1;obtain⟨_,⟨rfl,rfl⟩| ⟨b,off,cap,cs,T,d,f,m,n,g,j⟩⟩:=h;trivial;exact⟨b,_,_,_,T,d,f,Ly (by omega) g,j i x a⟩
theorem Rr(hE:al P E)(h:aD P w0 conc st a w)(hT:E.b T=some t)
 (j:(ug true t b).af st=some s) (C:bN P w conc (ae conc) b v):∃u,(p5 T v).run P w= .ok u w/\di P w conc (ae conc) s u:=by
 obtain⟨⟨ty,ai⟩,rfl,L⟩:=hE.b hT;have key:∀{g off:Nat}{cs:Array b2}{U:Nat}{fr:Nat×Nat},w.heap[g]?=some (.cells cs U fr)->off+ty.a<=cs.size->
  (p5 T (.pointer (some ⟨g,off,none⟩))).run P w= .ok (ty.d (aS cs.toList off ty.a)) w:=by
  intro g off cs U fr W B;exact acy L W B
 cases b with
 |dx id ver off=>
  simp only[ug,RM.af]at j;split at j
  rename_i m;obtain⟨e,rfl,c,H,G,⟨_,F,cs,U,f,p,r,D,y⟩,g,o,rfl⟩:=iQ h m j C;rw[o]at f;cases f;have⟨M,N⟩:=Mh L.l e y D
  grind
  rename_i cv u d m;obtain⟨e,rfl,c,H,G,⟨_,F,cs,U,fr,f,p,r,D,y⟩,g,o,rfl⟩:=iQ h m j C;rw[o]at f;cases f;split at e;rename_i ab;have⟨rfl,rfl⟩:=ab;cases e
  grind[EI]
  obtain⟨M,N⟩:=Mh L.l e (Al u y) y.f;rw[J9 (by grind)]at M;rw[Fg M,hP]at N;exact⟨_,by grind,N⟩
  trivial
 |gB u d=>
  simp only[ug]at j;have⟨rfl,e⟩:=jN j;cases e;obtain⟨g,off,cs,U,fr,rfl,A,O,Q,ag⟩:=C
  grind[EI]
 |rD id ver u i=>
  simp only[ug,RM.af]at j;split at j
  rename_i m;obtain⟨e,rfl,c,H,G,J,g,off,n,cap,o,A,rfl⟩:=iQ h m j C;obtain⟨⟨rfl,rfl⟩,B⟩:=jN e;have⟨x,K,R,S,I⟩:=zb B;cases K;have⟨F,af,V,cs,U,f,p,r,D⟩:=J.c I
  grind[EI]
  rename_i m;obtain⟨e,rfl,c,H,G,J,g,off,n,cap,o,A,rfl⟩:=iQ h m j C;obtain⟨⟨rfl,rfl⟩,B⟩:=jN e;have⟨x,K,R,S,I⟩:=zb B;cases K;obtain⟨F,af,V,cs,U,fr,f,_,p,r,D⟩:=J.2.j I
  grind[EI]
  trivial
 |sd id ver off k n i=>
  simp only[ug,RM.af]at j;have fin:∀{g:Nat}{cs:Array b2}{U:Nat}{fr:Nat×Nat}{l:List aU}{us:List b2},w.heap[g]?=some (.cells cs U fr)->bU (bN P w conc (ae conc)) l us->(∃q,us=cs.toList.take q)->
   (if ty= .ay k then(nU k n ((l.drop off).take n)).aB λ z=> .dG Int (bI true (aG z i) 0) λ x=> .aA (.v (.aE (.ay k) x))else .aa:RM bQ).af st=some s->v= .pointer (some ⟨g,off+i.toNat,none⟩)->
   ∃u,(p5 T v).run P w= .ok u w/\di P w conc (ae conc) s u:=by
   intro g cs U fr l us f p ⟨q,r⟩ e ac;obtain⟨rfl,B⟩:=jN e;obtain⟨z,ad,X⟩:=RM.aI B;obtain⟨x,Y,R,S,I⟩:=zb X;cases Y;obtain⟨o,A⟩:=wq n _ ad ((p.f off).g n);have O:((us.drop off).take n)[i.toNat]?=some (.int k x):=by grind
   rw[r]at O;have Q:cs.toList[off+i.toNat]?=some (.int k x):=by grind
   have ah:off+i.toNat<cs.toList.length:=(ea.1 Q).1;have Z:aS cs.toList (off+i.toNat) 1= [.int k x]:=by grind[Nt,ea]
   rw[ac];refine⟨_,key f (by trivial),?_⟩;show di P w _ _ _ (Ty.d _ (aS _ _ 1));rw[Z];exact⟨_,rfl,rfl⟩
  split at j
  rename_i m;obtain⟨e,rfl,c,H,G,⟨_,F,cs,U,f,p,r,D,y⟩,g,o,_,_,A⟩:=iQ h m j C;rw[o]at f;cases f;exact fin p y ⟨cs.toList.length,by grind⟩ e A;rename_i cv u d m;obtain⟨e,rfl,c,H,G,⟨_,F,cs,U,fr,f,p,r,D,y⟩,g,o,_,_,A⟩:=iQ h m j C;rw[o]at f;cases f;exact fin r (Al u y) ⟨u.a,by rfl⟩ e A
  trivial
 |_=>trivial
theorem Hg:(n i:Nat)->(t:Ty)->{d:t.b}->{u:Ty}->{x:u.b}->{vs:List b2}->nJ n i t d=some ⟨u,x⟩->aw P t w ok vs d->∃o,jm n i t=some o/\o+u.a<=t.a/\aw P u w ok (aS vs o u.a) x
 |1,0,t,d,u,x,vs,h,c=>by
  simp[nJ,Option.some.injEq,Sigma.mk.injEq]at h;have⟨rfl,h⟩:=h;cases h;refine⟨0,rfl,by omega,?_⟩;have:=c.d;grind[aS,p7]|n+2,0,t,d,u,x,vs,h,c=>by
  cases t<;>simp only[nJ]at h<;>first| (cases h;done)|skip
  rename_i a b;simp[Option.some.injEq,Sigma.mk.injEq]at h;have⟨rfl,h⟩:=h;cases h;refine⟨0,rfl,by simp[Ty.a],?_⟩;exact c.1|n+2,i+1,t,d,u,x,vs,h,c=>by
  cases t<;>simp[nJ]at h<;>first| (cases h;done)|skip;rename_i a b;have⟨o,e,f,g⟩:=Hg (n+1) i b h c.2
  grind[jm,Ty.a,aS,nb]|0,i,t,d,u,x,vs,h,c=>by trivial|1,i+1,t,d,u,x,vs,h,c=>by trivial
theorem Jv:∀n i t o,jm n i t=some o->i<n:=by
 intro n
 induction n with|zero=>simp_all[jm]|succ n a=>intro i t o h;cases n with
  |zero=>cases i with|zero=>omega|succ i=>trivial
  |succ n=>cases i with|zero=>omega|succ i=>cases t<;>simp[jm]at h<;>first| (cases h;done)|skip;grind
theorem Iw(e):∀n i,i<n->jm n i (Ty.e e n)=some (i*e.a)|0,i,h=>by omega|1,i,h=>by grind[jm]|n+2,0,_=>by simp[Ty.e,jm]|n+2,i+1,h=>by have:=Iw e (n+1) i (by omega);grind[Ty.e,jm,Option.some.injEq,gw]
theorem ai0(h:je P T te)(l:te.c=false){o}(d:jm te.b i te.a=some o)(hp:te.a.c=true){b off}:(ny T (.pointer (some ⟨b,off,none⟩)) i).run P w= .ok (.pointer (some ⟨b,off+o,none⟩)) w:=by
 have a:=h.g;cases n:te.a<;>rw[n]at hp a<;>first| (cases hp;done)|skip
 dsimp only at a;rw[l]at a;have⟨fs,e,m⟩:=a;have c:i<fs.size:=by rw[m];exact Jv _ _ _ _ d
 have⟨f,p,j,k⟩:=(h.h fs e).1 i fs[i] (hg c);rw[d]at f;have g:fs[i].offset=o:=by grind
 simp[ny,dr e,hg c,mA,fieldPlace,ko,ht,j,k,qf,g]
theorem Qf(h:je P T te)(c:te.c=true){o}(h0:0<=n)(d:jm te.b n.toNat te.a=some o)(k){b off}:(gu T (.pointer (some ⟨b,off,none⟩)) (.int k n)).run P w= .ok (.pointer (some ⟨b,off+o,none⟩)) w:=by have a:=h.g;have hp:=h.m c;cases f:te.a<;>rw[f]at hp a<;>first| (cases hp;done)|skip;dsimp only at a;rw[c]at a;have⟨m,g,e,s,j,l,i,p,r,_⟩:=a;have q:=Jv _ _ _ _ d;simp_all[Iw,gu,p6,dr,mA,ko,ht,qf]
theorem La{X:b2->Sem b2}(k:∀h off o,jm te.b i te.a=some o->(X (.pointer (some ⟨h,off,none⟩))).run P w= .ok (.pointer (some ⟨h,off+o,none⟩)) w)(g:(uQ te i b).af st=some s)(l:bN P w conc (ae conc) b v)(r:aD P w0 conc st a w):∃u,(X v).run P w= .ok u w/\di P w conc (ae conc) s u:=by cases b with
 |dx id ver off=>
  simp[uQ,RM.af]at g;split at g;rename_i cv o z;obtain⟨e,rfl,c,G,q,_,h,C,rfl⟩:=iQ r z g l;split at e;rename_i f A;cases e;exact⟨_,k _ _ _ A,_,_,_,q,df _,rfl,by grind⟩;trivial;trivial|gB t d=>
  simp[uQ]at g;have⟨y,e⟩:=jN g;split at e;rename_i u x B;cases e;obtain⟨h,off,cs,U,fr,rfl,m,n,D,p⟩:=l;obtain⟨o,j,E,F⟩:=Hg te.b i t B p;rw[<-y]at j;refine⟨_,k _ _ _ j,_,_,_,U,_,rfl,m,n,by omega,?_⟩
  grind[Fg];trivial|_=>trivial
theorem adK(h:je P T te)(d:te.c=false)(hp:te.a.c=true)(f:(uQ te i b).af st=some s)(g:bN P w conc (ae conc) b v)(c:aD P w0 conc st a w):∃u,(ny T v i).run P w= .ok u w/\di P w conc (ae conc) s u:=La (X:=λ v=>ny T v i) (λ _ _ _ e=>ai0 h d e hp) f g c
theorem Yx(h:je P T te)(d:te.c=true)(h0:0<=n)(k)(f:(uQ te n.toNat b).af st=some s)(g:bN P w conc (ae conc) b v)(c:aD P w0 conc st a w):∃u,(gu T v (.int k n)).run P w= .ok u w/\di P w conc (ae conc) s u:=La (X:=λ v=>gu T v _) (λ _ _ _ e=>Qf h d h0 e k) f g c
theorem Hy:(t:Ty)->{k:eV}->{n:Nat}->mM t=some (k,n)->1<=n
 | .ay _,k,n,h=>by cases h;omega| .aF a b,k,n,h=>by
  cases a<;>simp[mM]at h<;>first| (cases h;done)|skip
  grind| .aO,_,_,h| .aJ,_,_,h| .aH _,_,_,h| .dP _ _,_,_,h| .dX _ _,_,_,h| .cO _ _,_,_,h| .ec _,_,_,h=>by cases h
theorem ajg:(m:Nat)->{e:Ty}->{k:eV}->mM (Ty.e e m)=some (k,m)->e= .ay k
 |0,e,k,h=>by have:=Hy _ h;omega|1,e,k,h=>by
  cases e<;>simp[Ty.e,mM]at h<;>first| (cases h;done)|skip
  grind
  rename_i a b;cases a<;>simp only[mM]at h<;>first| (cases h;done)|skip
  cases c:mM b with
  |none=>grind
  |some q=>
   rw[c]at h;dsimp only at h;obtain⟨_,h⟩:=Option.ite_none_right_eq_some.1 h;have:=Hy b c
   grind
 |m+2,e,k,h=>by simp[Ty.e]at h;cases e<;>simp[mM]at h<;>first| (cases h;done)|skip;grind
theorem D7(h:je P T te)(d:te.d=some (k,m)):te.c=true/\te.b=m/\te.a=Ty.e (.ay k) m/\∃a,P.underlying T=some (.array m a)/\jy P a (.ay k)/\pP P a=some false:=by
 unfold eZ.d at d;split at d;rename_i k' m' b g;have⟨o,d⟩:=(show ei te.b m'=true/\some (k',m')=some (k,m)from by grind);cases d;have q:=Nat.eq_of_beq_eq_true o;have c:=h.g;have hp:=h.m b;cases i:te.a<;>rw[i]at hp c g<;>first| (cases hp;done)|skip;dsimp only at c;rw[b]at c;have⟨n,a,e,j,f,s,l⟩:=c;have r:n=m:=by omega
 subst r;rw[f]at g;have p:=ajg n g;subst p;exact⟨b,q,i▸f,_,j,l,h.q b n _ j _ (i▸f)⟩;trivial
theorem Zz(h:je P T te)(a:te.d=some (k,m))(d:cQ n m=some ()):0<=n/\n< (m:Int)/\jm te.b n.toNat te.a=some n.toNat:=by have⟨_,b,c,_⟩:=D7 h a;grind[cQ,Iw,Ty.a]
theorem U5(h:je P T te)(i:te.c=true)(k) (d:(G3 true te n b).af st=some s) (j:bN P w conc (ae conc) b v) (g:aD P w0 conc st a w):∃u,(gu T v (.int k n)).run P w= .ok u w/\di P w conc (ae conc) s u:=by unfold G3 at d;split at d;rename_i B m id ver off q;simp[RM.af]at d;split at d;rename_i cv o r;obtain⟨p,rfl,c,C,l,_,y,z,rfl⟩:=iQ g r d j;have⟨u,e,f⟩:=RM.iV p;cases f;have⟨t,A,x⟩:=Zz h q e;exact⟨_,Qf h i t x k,_,_,_,l,df _,rfl,by grind⟩;trivial;have⟨u,e,f⟩:=RM.iV d;split at e;rename_i h0;exact Yx h i h0 k f j g;trivial
theorem amY{i}(h:je P T te)(j:te.c=true)(k) (c:(akK true te n b i).af st=some s) (p:bN P w conc (ae conc) b v) (E:aD P w0 conc st a w):∃u,(gu T v (.int k n)).run P w= .ok u w/\di P w conc (ae conc) s u:=by
 unfold akK at c;split at c;rename_i t d f m F;obtain⟨rfl,c⟩:=jN c;have⟨z,D,c⟩:=RM.aI c;have⟨x,g,c⟩:=RM.iV c;cases c;rw[rU]at g;have⟨q,K,G⟩:=HM g;obtain⟨r,off,cs,U,fr,rfl,y,A,I,B⟩:=p;have⟨C,J⟩:=wq (conc:=conc) m _ D (Al (conc:=conc) te.a B);have⟨_,_,H⟩:=Zz h F (n:=n) (by unfold cQ;rw[if_pos ⟨q,by omega⟩]);have e:(aS cs.toList off te.a.a)[n.toNat]?=some (.int f x):=by rw[C,hD,G];rfl
 have l:cs.toList[off+n.toNat]?=some (.int f x):=by unfold aS at e;rw[gf]at e;split at e<;>simp_all
 have o:off+n.toNat<cs.toList.length:=(ea.1 l).1;refine⟨_,Qf h j q H k,r,_,cs,U,fr,rfl,y,A,by rw[hz]at o;simp[Ty.a];omega,?_⟩;show aS _ _ _= [_];unfold aS;rw[hh o];have:cs.toList[off+n.toNat]=.int f x:=(ea.1 l).2;rw[this];rfl;exact U5 h j k c p E
theorem ML(h:∃a,P.underlying T=some (.slice a)/\∃i,P.info? a=some i/\i.size=e.a){b off len cap}(h0:0<=n)(d:n.toNat<len):(gu T (.slice (some ⟨b,off,none⟩) len cap) (.int k n)).run P w= .ok (.pointer (some ⟨b,off+n.toNat*e.a,none⟩)) w:=by have⟨a,g,i,c,f⟩:=h;simp_all[gu,p6,dr,ko,ht,qf]
theorem Bm(hE:al P E)(hT:E.b T=some (.aH e)):∃a,P.underlying T=some (.slice a)/\∃i,P.info? a=some i/\i.size=e.a:=by have⟨te,c,b⟩:=hE.b hT;have:=b.g;rw[c]at this;have⟨a,d,i,f,g,_⟩:=this;grind
theorem afg(hE:al P E)(h:aD P w0 conc st a w){T e}(hT:E.b T=some (.aH e)){k n b v s}(d:(DV true e n b).af st=some s)(g:bN P w conc (ae conc) b v):∃u,(gu T v (.int k n)).run P w= .ok u w/\di P w conc (ae conc) s u:=by
 have B:=Bm hE hT;have fin:∀{l:List e.b},(RM.dG e.b (bI true (aG l n) e.g) λ x=> .aA (.v (.gB e x)):RM bQ).af st=some s->aw P (.aH e) w (ae conc) [v] l->∃u,(gu T v (.int k n)).run P w= .ok u w/\di P w conc (ae conc) s u:=by intro l j g;have⟨x,o,q,r,y⟩:=zb j;cases o;obtain⟨z,off,cap,cs,U,fr,rfl,f⟩:=g.j y;exact⟨_,ML B q r,z,_,cs,U,fr,rfl,f⟩
 cases b with|aE t l=>
  cases t<;>simp[DV]at d<;>first| (cases d;done)|skip
  have⟨rfl,i⟩:=jN d;have⟨vs,C,g⟩:=g;exact fin i (by obtain⟨a,cap,rfl,_⟩:=id g;rw[C];trivial)|dj id ver=>simp[DV,RM.af]at d;split at d;rename_i p;obtain⟨i,rfl,c,D,A,m,rfl⟩:=iQ h p d g;have⟨rfl,j⟩:=jN i;have⟨x,o,q,r,y⟩:=zb j;cases o;obtain⟨z,off,cap,cs,U,rfl,_⟩:=m.c y;exact⟨_,ML B q r,_,_,_,A,df _,rfl,by grind⟩;rename_i p;obtain⟨i,rfl,c,D,A,m,rfl⟩:=iQ h p d g;have⟨rfl,j⟩:=jN i;exact fin j m.2;trivial|_=>trivial
theorem YM(h:aD P w0 conc st a w){T:Nat}{b v n}(d:(Ef b).af st=some n)(e:bN P w conc (ae conc) b v):∃ad cap,v= .slice ad n cap:=by cases b with
 |aE t l=>
  cases t<;>simp[Ef]at d<;>first| (cases d;done)|skip
  cases d;obtain⟨vs,i,ad,cap,rfl,_⟩:=e;exact⟨_,_,i⟩|js=>cases d;exact⟨_,0,e⟩|dj id ver=>
  simp[Ef,RM.af]at d;split at d
  ·rename_i g;obtain⟨f,rfl,c,m,j,k,rfl⟩:=iQ h g d e;cases f;obtain⟨_,⟨rfl,rfl⟩| ⟨o,off,cap,cs,U,q,_⟩⟩:=k;all_goals grind
  ·rename_i g;obtain⟨f,rfl,c,m,j,⟨_,ad,cap,p,_⟩,rfl⟩:=iQ h g d e;cases f;grind
  trivial|_=>trivial
end
section
variable[Dr]
variable{P:ef}{E:aq}{w0:bC}{w:eb}{conc:bf}{st:au}{a:np}
variable {L:List (Nat×Bool)} {v:b2} {T:Nat} {n:Int} {ok:Nat->Prop} {te:eZ} {b:aU} {s:bQ} {t:Ty}
theorem vu(h:aD P w0 conc st a w)(i:eO a.tmps L){x}(d:(tu L x).af st=some n):∃k,a.eval x= .int k n:=by unfold tu at d;have⟨b,g,c⟩:=RM.aI d;have j:=dQ h i g;split at c;cases c;have⟨vs,e,f⟩:=j;exact⟨_,vb e f⟩;trivial
theorem F9{t}(a:(pL b).af st=some t)(e:bN P w conc ok b v):v= .bool t/\b= .aE .aO t:=by unfold pL at a;split at a;cases a;have⟨vs,c,d⟩:=e;exact⟨tM c d,rfl⟩;trivial
def LA(P:ef)(conc:bf)(st:au)(a:np)(w:eb)(o:gE)(s:bQ):=∃v,(eo a.eval o).run P w= .ok (.value v) w/\di P w conc (ae conc) s v
theorem lJ{o x}(d:eo a.eval o=(do pure (.value (<-x))))(h:∃v,x.run P w= .ok v w/\di P w conc (ae conc) s v):LA P conc st a w o s:=by have⟨v,c,b⟩:=h;refine⟨v,?_,b⟩;simp_all
theorem EY{k}(a:v= .int k n){y:Nat}{c}(h0:0<=n)(h1:n<=(y:Int)):(rV v y c).run P w= .ok n.toNat w:=by simp_all[rV,p6]
theorem F6(h:aD P w0 conc st a w)(c:eO a.tmps L){d x}(b:(lr L d x).af st=some n):(x=none/\n=d)\/∃y k,x=some y/\a.eval y= .int k n:=by cases x with|none=>cases b;simp|some y=>have⟨k,e⟩:=vu h c b;grind
theorem Dl(h:aD P w0 conc st a w)(d:eO a.tmps L){lo f x y}{n cap:Nat}{b}(i:n<=cap)(h1:(lr L 0 lo).af st=some x)(h2:(lr L (n:Int) f).af st=some y)(h3:0<=x)(h4:x<=y)(h5:y<=(n:Int)):(lk b n cap (lo.map a.eval) (f.map a.eval) none).run P w= .ok (x.toNat,y.toNat,cap) w:=by
 have j:(y.toNat:Int)=y:=by omega
 rcases F6 h d h1 with⟨rfl,rfl⟩| ⟨l,k,rfl,e⟩;rcases F6 h d h2 with⟨rfl,rfl⟩| ⟨g,k',rfl,c⟩;rfl;simp only[lk,hN,gb];simp[EY c (by omega:(0:Int)<=y) (by omega:y<=(cap:Int))];rcases F6 h d h2 with⟨rfl,rfl⟩| ⟨g,k',rfl,c⟩;simp only[lk,hN,gb];simp[EY e h3 (by omega:x<=(n:Int))];simp only[lk,gb];simp[EY c (by omega:(0:Int)<=y) (by omega:y<=(cap:Int)),EY e h3 (by omega:x<=(y.toNat:Int))]
theorem FO{α l lo a}{z:List α}(h:iB l lo a=some z):0<=lo/\lo<=a/\a<=(l.length:Int)/\z=(l.take a.toNat).drop lo.toNat:=by grind[iB]
theorem Fb(hE:al P E)(hT:E.b T=some t)(f:(∃e,t= .aH e)\/t= .aJ){x lo b c}:(lB T x lo b c).run P w=(o0 T x lo b c).run P w:=by have⟨te,g,d⟩:=hE.b hT;have a:=d.g;unfold lB;obtain⟨e,rfl⟩|rfl:=f;rw[g]at a;have⟨h,i,_⟩:=a;simp_all[cr,dr];simp_all[cr,dr]
theorem agQ(hE:al P E)(h:aD P w0 conc st a w)(p:eO a.tmps L)(hT:E.b T=some t){lo o} (c:(JX L true t lo o b).af st=some s) (r:bN P w conc (ae conc) b v):∃u,(lB T v (lo.map a.eval) (o.map a.eval) none).run P w= .ok u w/\di P w conc (ae conc) s u:=by cases b with
 |aE u l=>
  cases u<;>simp[JX]at c<;>first| (cases c;done)|skip
  obtain⟨rfl,c⟩:=jN c;have⟨x,f,c⟩:=RM.aI c;have⟨y,g,c⟩:=RM.aI c;have⟨z,j,c⟩:=RM.iV c;cases c;obtain⟨k1,k,m,rfl⟩:=FO j;have⟨vs,d,B⟩:=r;rw[Cr d B,Fb hE hT (.inr rfl)];have⟨te,O,M⟩:=hE.b hT;have J:=M.g;rw[O]at J;have I:=Dl (P:=P) (w:=w) h p (b:=false) (df _) f g k1 k m;refine⟨.string ((⟨⟨l⟩⟩:ByteArray).extract x.toNat y.toNat),?_,?_⟩;have Y:(⟨⟨l⟩⟩:ByteArray).size=l.length:=rfl;simp_all[o0,cr,dr,ep,Option.isSome_none,kg,if_false,kL];refine⟨_,?_,rfl⟩;have:(⟨⟨l⟩⟩:ByteArray).extract x.toNat y.toNat= ⟨⟨(l.take y.toNat).drop x.toNat⟩⟩:=by apply ByteArray.ext;grind[ByteArray.data_extract,lf]
  rw[this];rfl;rename_i e;obtain⟨rfl,N⟩:=jN c;have⟨x,f,c⟩:=RM.aI N;have⟨y,g,c⟩:=RM.aI c;have⟨z,j,c⟩:=RM.iV c;cases c;obtain⟨k1,k,m,rfl⟩:=FO j;obtain⟨vs,d,ad,cap,rfl,C,n⟩:=r;have⟨R,Z,i,V,W⟩:=Bm hE hT;rw[d,Fb hE hT (by grind)];have I:=Dl (P:=P) (w:=w) h p (b:=true) C f g k1 k m;have K:((l.take y.toNat).drop x.toNat).length=y.toNat- x.toNat:=by grind
  refine⟨_,?_,[.slice (if cap=x.toNat then ad else ad.map (·.add (x.toNat*e.a))) (y.toNat- x.toNat) (cap- x.toNat)],rfl,?_⟩;simp_all[o0,Ty.d,Ty.c,kg,if_false,vo,cr,dr,ep,ko,ht,kL];rw[<-K];refine⟨_,_,rfl,by omega,?_⟩;by_cases Q:cap- x.toNat=0;exact .inl Q;right;obtain n| ⟨A,off,cs,U,fr,rfl,D,F,G,H,S⟩:=n;omega;refine⟨A,off+x.toNat*e.a,cs,U,fr,?_,D,F,?_,H.imp id λ h=>by omega,λ i q X=>?_⟩;grind[qf];refine eL ?_ G;rw[hU,<-jc];exact fz (eg _ (by omega)) _;grind|_=>trivial
theorem Fi(t):(dM t).length=t.a:=by induction t<;>simp_all [dM,Ty.a]
theorem Rb{ok}(t)(a:t.j=true):aw P t w ok (dM t) t.g:=by induction t with|aF x y b c=>grind[Ty.j,dM,Ty.g,aw,pn,Fi,pk]|aH=>exact aw.h|_=>first|rfl|cases a
theorem LB{ok}(t):bU (bN P w conc ok) (rF t) (dM t):=by induction t with|aF x y a b=>exact a.d b|_=>first|exact⟨trivial,trivial⟩|exact⟨rfl,trivial⟩|exact⟨oc _,trivial⟩|exact⟨lR _,trivial⟩|exact⟨LG _,trivial⟩
theorem Gs(t):∀v∈dM t,eY v=true:=by induction t with|aF x y b c=>exact λ v a=>(eH.1 a).elim (b v) (c v)|_=>simp[dM,eY]
theorem Rt(off):(vs:List b2)->(k:Nat)->(cs:Array b2)->off+k+vs.length<=cs.size->((vs.zipIdx k).foldl (λ cs(p:b2×Nat)=>cs.setIfInBounds (off+p.2) p.1) cs).toList=cs.toList.take (off+k)++vs++cs.toList.drop (off+k+vs.length)
 | [],k,cs,h=>by simp|v::vs,k,cs,h=>by
  simp[mb]at h;rw[List.zipIdx_cons,List.foldl_cons,Rt _ _ _ _ (by grind)];have c:off+k<cs.toList.length:=by grind
  have a:(cs.setIfInBounds (off+k) v).toList=cs.toList.set (off+k) v:=by simp
  rw[a,List.take_set,List.drop_set];have b:off+ (k+1)=(off+k)+1:=by omega
  rw[b,if_pos (by omega)];have d:(cs.toList.take (off+k+1)).set (off+k) v=cs.toList.take (off+k)++ [v]:=by
   rw[List.take_succ_eq_append_getElem c,List.set_append_right _ _ (by grind)];have:(off+k)- (cs.toList.take (off+k)).length=0:=by grind
   grind
  grind
theorem KT{place cells i o n rest vs}(hp:place i=some (o,n))(d:v.cells.toList=vs)(a:vs.length=n)(b:o+n<=cells.size):j2 place cells ((i,v)::rest)=j2 place (cells.toList.take o++vs++cells.toList.drop (o+n)).toArray rest:=by
 have c:v.cells.size=n:=by grind
 rw[j2,hp];dsimp only;rw[if_neg (by grind)]
 congr 1;apply lb;have:=Rt o vs 0 cells (by omega);grind[Array.toList_zipIdx]
theorem bU.c{α β R}{l m:List α}{l' m':List β}(o n)(h:bU R l l')(a:bU R m m'):bU R (l.take o++m++l.drop (o+n)) (l'.take o++m'++l'.drop (o+n)):=((h.g o).d a).d (h.f _)
theorem Qt(h:aD P w0 conc st a w){L}(g:eO a.tmps L){te}:{ps:List (Nat×dk)}->{cells l:List aU}->{cs:Array b2}->(zI L te cells ps).af st=some l->bU (bN P w conc (ae conc)) cells cs.toList->(∀v∈cs.toList,eY v=true)->∃cs',j2 (λ i=>(oX te.b te.a)[i]?) cs (ps.map λ p=>(p.1,a.eval p.2))=some cs'/\bU (bN P w conc (ae conc)) l cs'.toList/\(∀v∈cs'.toList,eY v=true)
 | [],cells,l,cs,b,c,f=>by cases b;exact⟨cs,rfl,c,f⟩| (i,x)::ps,cells,l,cs,b,c,f=>by simp only[zI]at b;have⟨s,j,b⟩:=RM.aI b;have⟨m,k,b⟩:=RM.aI b;cases hp:(oX te.b te.a)[i]? with|none=>rw[hp]at b;cases b|some q=>
  have⟨o,n⟩:=q;rw[hp]at b;have⟨e,b⟩:=dE b;simp only[ee]at e;have k1:=cU e.1;have A:o+n<=cells.length:=by simp_all
  have⟨vs,r,t,d⟩:=Cg k (jJ h g j);have u:=c.b;have y:=d.b;have z:vs.length=n:=by omega
  have:=Qt h g (cs:=(cs.toList.take o++vs++cs.toList.drop (o+n)).toArray) b (c.c o n d) (by grind);grind[KT]
theorem Uu(h:je P T te):(k6 T).run P w= .ok (te.a.d (dM te.a)) w:=by have⟨i,a,_,_,b,_⟩:=h.j;simp_all[k6,ht]
theorem O4{g g'}(h:∀i p,g i=some p->g' i=some p):∀ps cs cs',j2 g cs ps=some cs'->j2 g' cs ps=some cs'| [],_,_,a=>a| (i,v)::ps,cs,cs',a=>by unfold j2 at a⊢;cases b:g i with|none=>grind|some p=>rw[b]at a;rw[h i p b];dsimp only at a⊢;split at a;trivial;rename_i c;rw[if_neg c];exact O4 h _ _ _ a
theorem TJ(e):∀n i p,(oX n (Ty.e e n))[i]?=some p->p=(i*e.a,e.a)
 |0,i,p,h=>by trivial|1,i,p,h=>by grind[oX,Ty.e]|n+2,0,p,h=>by grind[oX,Ty.e]|n+2,i+1,p,h=>by simp only[Ty.e,oX,ml,hD,kp]at h;obtain⟨q,a,rfl⟩:=h;rw[TJ e _ i q a,gw,u2]
theorem XM(hE:al P E)(h:aD P w0 conc st a w)(r:eO a.tmps L)(hT:Map.av E.G T=some te)(hp:te.a.c=true) {ps:Array (Nat×dk)} {l} (s:(zI L te (rF te.a) ps.toList).af st=some l):∃v,(Instr.build T (ps.map λ(i,x)=>(i,a.eval x))).run P w= .ok v w/\di P w conc (ae conc) (.ju l) v:=by
 have f:=hE.g T te hT;have⟨i,B,_,_,C,_⟩:=f.j;have b:=f.g;have t:(∃fs,P.underlying T=some (.struct fs))\/∃n c e d,P.underlying T=some (.array n c)/\te.a=Ty.e e n/\te.b=n/\P.info? c=some d/\d.size=e.a:=by cases u:te.a<;>rw[u]at hp b<;>first| (cases hp;done)|skip;dsimp only at b;cases q:te.c<;>rw[q]at b<;>dsimp only[cond]at b;grind;have⟨n,c,e,g,k1,y,d,z,A,_⟩:=b;grind
 have F:(te.a.d (dM te.a)).cells=(dM te.a).toArray:=by grind[Ty.d,oj]
 have⟨cs',k,m,o⟩:=Qt (cs:=(dM te.a).toArray) h r s (by grind[LB]) (by grind[Gs]);have j:(ps.map λ x=>(x.1,a.eval x.2)).toList=ps.toList.map λ p=>(p.1,a.eval p.2):=by simp
 rw[<-j]at k;refine⟨_,run_build w T _ cs' ?_,_,rfl,o,m⟩;unfold Program.built;obtain⟨fs,g⟩| ⟨n,c,e,d,g,k1,y,z,A⟩:=t;have⟨_,D⟩:=f.h fs g;grind;grind[O4,TJ]
end
section
variable[Dr]
variable{P:ef}{E:aq}{w0:bC}{w:eb}{conc:bf}{st:au}{a:np}
variable {u:Ty} {ok:Nat->Prop} {q:Ty} {es:List hq} {ks:List b2} {b:aU} {v:b2} {T:Nat} {l:List (q.b×u.b)} {n:q.b}
def kA(P:ef)(w:eb)(ok:Nat->Prop)(k v:Ty)(l:List (k.b×v.b))(es:List hq):=es.length=l.length/\∀(i:Nat)x e,l[i]?=some x->es[i]?=some e->(∃ks,e.key=k.d ks/\aw P k w ok ks x.1)/\∃us,e.val=v.d us/\aw P v w ok us x.2
theorem kA.d{k v x l e}(h:kA P w ok k v (x::l) (e::es)):((∃ks,e.key=k.d ks/\aw P k w ok ks x.1)/\∃us,e.val=v.d us/\aw P v w ok us x.2)/\kA P w ok k v l es:= ⟨h.2 0 x e rfl rfl,by simpa using h.1,λ i y f b a=>h.2 (i+1) y f (by grind) (by grind)⟩
theorem Q6{k}(n):(l:List (k.b×u.b))->(es:List hq)->(j:Nat)->kA P w ok k u l es->(nF k n (l.map (·.1)) es j=none/\j4 k.f l n=none/\∀y,lz k.f l n y=l++ [(n,y)])\/∃i e x m,nF k n (l.map (·.1)) es j=some (j+i,e.val)/\es[i]?=some e/\l[i]?=some (m,x)/\k.f m n=true/\j4 k.f l n=some x/\∀y,lz k.f l n y=l.set i (n,y)
 | [],es,j,h=> .inl ⟨by rfl,rfl,λ _=>rfl⟩|p::l,[],j,h=>by have:=h.1;trivial|p::l,e::es,j,h=>by
  have⟨_,o⟩:=h.d;cases g:k.f p.1 n
  ·rcases Q6 n l es (j+1) o with⟨b,c,d⟩| ⟨i,a,x,m,b,c,d,f,q,r⟩
   grind[nF,j4,lz]
   refine .inr ⟨i+1,a,x,m,?_,by trivial,by trivial,f,?_,λ y=>?_⟩
   all_goals grind[nF,j4,lz]
  ·refine .inr ⟨0,e,_,_,?_,rfl,rfl,g,by grind[j4],λ y=>by grind[lz]⟩;grind[nF]
theorem LZ{K k}(hK:Ad P K k){n}(c:aw P k w ok ks n){l}(h:kA P w ok k u l es):((pV K (k.d ks) es).run P w= .ok none w/\j4 k.f l n=none/\∀y,lz k.f l n y=l++ [(n,y)])\/∃i e x m,(pV K (k.d ks) es).run P w= .ok (some (i,e.val)) w/\es[i]?=some e/\l[i]?=some (m,x)/\k.f m n=true/\j4 k.f l n=some x/\∀y,lz k.f l n y=l.set i (n,y):=by
 have f:=hK.j w ok ks n (l.map (·.1)) es c (by simp[h.1]) (λ i y e a b=>by rw[hD,kp]at a;obtain⟨x,d,rfl⟩:=a;exact(h.2 i x e d b).1);grind[Q6]
theorem XC(k)(d:k.i=true){vs us x y}(h1:aw P k w ok vs x)(h2:aw P k w ok us y)(c:k.f x y=true):vs=us:=by induction k generalizing vs us with|aF a b e f=>simp[Ty.i,ee]at d;simp[Ty.f,ee]at c;rw[<-fR _ vs,<-fR _ us,e d.1 h1.1 h2.1 c.1,f d.2 h1.2 h2.2 c.2]|ay|aO|aJ=>simp[aw]at h1 h2;have:x=y:=eq_of_beq c;grind|_=>trivial
theorem Ey(k:Ty)(h:k.i=true):k.h=true:=by induction k with|aF a b c d=>grind[Ty.i,Ty.h]|_=>first|rfl|cases h
theorem C1{r es clock}(a:w.heap[r]?=some (.map es clock)):(getObj r).run P w= .ok (.map es clock) w:=by simp[getObj,vi,a]
theorem ajd(h:aD P w0 conc st a w)(f:(Bh q u b).af st=some l)(r:bN P w conc (ae conc) b v):∃m es clock,v= .map (some m)/\w.heap[m]?=some (.map es clock)/\kA P w (ae conc) q u l es.toList:=by
 have A:∀{c:b2}{l:List (q.b×u.b)},aw P (.cO q u) w (ae conc) [c] l->∃m es clock,c= .map (some m)/\w.heap[m]?=some (.map es clock)/\kA P w (ae conc) q u l es.toList:=by rintro c l⟨m,es,clock,i,_,j,_,x,y⟩;cases i;exact⟨m,_,_,rfl,j,by omega,by grind⟩
 have cast:∀{t:Ty}{d:t.b},(RM.nS (gN (t:=t) (t':= .cO q u) d)).af st=some l->∃e:t= .cO q u,l=(e▸d:(Ty.cO q u).b):=λ h=>kC (RM.Ae h);cases b<;>simp[Bh]at f<;>try(cases f;done)
 obtain⟨rfl,rfl⟩:=cast f;have⟨vs,i,s⟩:=r;have g:=s.d
 match vs,g with
 | [c],_=>
  have:v=c:=by trivial
  grind
 simp[RM.af]at f;split at f;rename_i p;obtain⟨n,rfl,c,B,z,k,rfl⟩:=iQ h p f r;have⟨o,g⟩:=cast n;cases o;subst g;have⟨_,m,es,clock,i,j,_,x,y⟩:=k;exact⟨m,_,_,i,j,by omega,by grind⟩;rename_i p;obtain⟨n,rfl,c,B,z,k,rfl⟩:=iQ h p f r;have⟨o,g⟩:=cast n;cases o;subst g;exact A k.2;trivial
theorem KH(hE:al P E)(h:aD P w0 conc st a w){L}(g:eO a.tmps L){x}(i:(JM E q L x).af st=some n):∃ks,a.eval x=q.d ks/\∀I,aw P q w (ae (bB conc I)) ks n:=by have⟨s,c,e⟩:=RM.aI i;have⟨d,f,b⟩:=RM.aI e;have⟨us,j,k⟩:=nO hE h f (jJ h g c);split at b;rename_i l;cases b;refine⟨us,j,λ I=>?_⟩;exact(k I (by grind[aV])).2;trivial
theorem Jc(hE:al P E)(hT:E.b T=some (.cO q u)):∃K V,P.underlying T=some (.map K V)/\Ad P K q/\jy P V u:=by have⟨d,c,a⟩:=hE.b hT;have b:=a.g;grind
theorem aba(hE:al P E)(h:aD P w0 conc st a w)(hT:E.b T=some (.cO q u))(F:u.j=true)(A:bN P w conc (ae conc) b v) (C:(Bh q u b).af st=some l) (s:aw P q w (ae conc) ks n) (ok):∃r,(nB T v (q.d ks) ok).run P w= .ok r w/\di P w conc (ae conc) (DJ u ok (j4 q.f l n)) r:=by
 have⟨K,V,k,o,R,L,M,N,O,Q⟩:=Jc hE hT;obtain⟨m,es,clock,rfl,f,g⟩:=ajd h C A;have fin:∀d us t,aw P u w (ae conc) us d->(j4 q.f l n).getD u.g=d->(j4 q.f l n).isSome=t->di P w conc (ae conc) (DJ u ok (j4 q.f l n)) (if ok then .tuple #[u.d us,.bool t]else u.d us):=by intro d us t y B D;unfold DJ;rw[B,D];cases ok with|true=>exact⟨_,rfl,⟨_,rfl,y⟩,lR (conc:=conc) t,trivial⟩|false=>exact⟨_,rfl,y⟩
 have p:(pz es.isEmpty 10000 K (q.d ks)).run P w= .ok () w:=o.h w _ ks n _ s;rcases LZ o s g with⟨c,j,_⟩| ⟨i,e,x,m',c,j,z,I,J,_⟩;refine⟨if ok then .tuple #[u.d _,.bool false]else u.d _,?_,fin _ _ _ (Rb u F) (by grind) (by grind)⟩;have G:(k6 V).run P w= .ok (u.d (dM u)) w:=by simp_all[k6,ht]
 simp[nB,cr,dr k,ep,C1 f,p,c,G,kL];have⟨_,us,H,S⟩:=g.2 i _ e z j;refine⟨if ok then .tuple #[u.d us,.bool true]else u.d us,?_,by grind⟩;simp[nB,cr,dr k,ep,C1 f,p,c,kL,H]
end
section
variable[Dr]
variable{P:ef}{E:aq}{w0:bC}{w:eb}{conc:bf}{st:au}{a:np}
variable {b:Bool} {L:List (Nat×Bool)} {T:Nat} {s:bQ} {v:b2} {te:eZ}
theorem acO{s:Nat}{b}(h:a.eval (.tmp s)= .bool b):a.tmps[s]?=some (.bool b):=by simp[q4,Array.getD_eq_getD_getElem?]at h;cases c:a.tmps[s]? with|none=>rw[c]at h;cases h|some v=>rw[c]at h;simp at h;rw[h]
theorem Hp{s}(h:a.tmps[s]?=some (.bool b))(c:eO a.tmps L):eO a.tmps ((s,b)::L):=by intro p hp;rcases hR.1 hp with rfl|hp;exact h;exact c p hp
theorem Kf:(n i:Nat)->(t:Ty)->{d:t.b}->{u:Σ u:Ty,u.b}->nJ n i t d=some u->uH n i t=some u.1
 |1,0,t,d,u,h=>by grind[nJ,Option.some.injEq,uH]|n+2,0,t,d,u,h=>by
  cases t<;>simp only[nJ]at h<;>first| (cases h;done)|skip
  simp[Option.some.injEq]at h;subst h;rfl|n+2,i+1,t,d,u,h=>by
  cases t<;>simp[nJ]at h<;>first| (cases h;done)|skip
  exact Kf _ i _ h|0,i,t,d,u,h=>by trivial|1,i+1,t,d,u,h=>by trivial
theorem Pb{T b}(h:pP P T=some b):(isAgg T).run P w= .ok b w:=by unfold pP at h;cases a:P.underlying T with|none=>rw[a]at h;cases h|some c=>rw[a]at h;simp[gb,Option.some.injEq]at h;subst h;unfold isAgg;rw[cr,dr a];cases c<;>rfl
theorem ahJ(h:je P T te){k m}(f:te.d=some (k,m)){l z ok}(g:s.a.af st=some l)(n:(nU k m l).af st=some z)(j:di P w conc ok s v):v= .agg (z.map (fu k)).toArray/\z.length=m:=by
 have⟨vs,a,o,b⟩:=Cg g j;have⟨c,d⟩:=wq m l n b;have⟨e,_,i,_⟩:=D7 h f;have hp:=h.m e;have p:2<=m:=by
  rw[i]at hp
  match m,hp with|0,hp=>trivial|1,hp=>trivial|m+2,_=>omega
 refine⟨?_,d⟩;rw[<-c];have q:vs.length=m:=by grind
 cases v with|agg cs=>rw[<-a];rfl|_=>grind[oj]
theorem ahW(h:aD P w0 conc st a w){b n}(e:(CA b).af st=some n)(k:bN P w conc (ae conc) b v):∃m es clock,v= .map (some m)/\w.heap[m]?=some (.map es clock)/\es.size=n:=by
 cases b<;>simp[CA]at e<;>try(cases e;done)
 rename_i t d;cases t<;>simp[CA]at e<;>try(cases e;done)
 cases e;obtain⟨vs,f,m,es,clock,rfl,_,g,_,o,_⟩:=k;exact⟨m,_,_,f,g,o⟩;simp[RM.af]at e;split at e;rename_i j;obtain⟨i,rfl,c,q,p,⟨_,m,es,clock,f,l,_,g,_⟩,rfl⟩:=iQ h j e k;cases i;grind;rename_i j;obtain⟨i,rfl,c,q,p,⟨_,m,es,clock,f,_,l,_,g,_⟩,rfl⟩:=iQ h j e k;cases i;grind;trivial
theorem adX(hT:je P T te)(A:te.c=false)(hp:te.a.c=true){i d u}(e:nJ te.b i te.a d=some u){vs}(G:v=te.a.d vs)(m:aw P te.a w (ae conc) vs d):∃y,(tl T v i).run P w= .ok y w/\di P w conc (ae conc) (.v (.aE u.1 u.2)) y:=by
 obtain⟨fs,b,n⟩:∃fs,P.underlying T=some (.struct fs)/\fs.size=te.b:=by have j:=hT.g;cases p:te.a<;>rw[p]at hp j<;>first| (cases hp;done)|skip;grind
 have⟨o,f,z,c⟩:=Hg te.b i te.a (u:=u.1) (x:=u.2) e m;have k:i<fs.size:=by rw[n];exact Jv _ _ _ _ f
 have a:fs[i]?=some fs[i]:=hg k;have⟨r,H,s,t⟩:=(hT.h fs b).1 i fs[i] a;have h:=hT.r fs b i fs[i] u.1 a (Kf _ _ _ e);have l:o=fs[i].offset:=by grind
 subst l;refine⟨_,?_,_,rfl,c⟩;have q:v= .agg vs.toArray:=by grind[Ty.d]
 rw[q];have⟨g,I,B,C⟩:=h;have E:=c.d;have F:(ko fs[i].type).run P w= .ok u.1.a w:=by simp_all[ko,ht]
 have D:(vs.toArray.extract fs[i].offset (fs[i].offset+u.1.a))=(aS vs fs[i].offset u.1.a).toArray:=by grind[lb,aS]
 simp[tl,cr,dr b,ep,a];simp[asAgg,cr,kL,ep,Go.part,Pb g];grind[cr,ep,kL,Ty.d,uI,aS,List.getElem?_eq_none_iff,List.drop_eq_nil_of_le,ea,hh]
theorem aht(h:aD P w0 conc st a w)(f:eO a.tmps L){c x y}(d:(FY L c x y).af st=some s):∃v,(do pure (vE (if<-asBool (a.eval c)then a.eval x else a.eval y)):Sem Next).run P w= .ok (.value v) w/\di P w conc (ae conc) s v:=by cases c with
 |tmp t=>
  simp[FY]at d;have⟨b,m,k⟩:=RM.aI d;clear d;have⟨l,n,d⟩:=RM.aI k;clear k;have⟨i,rfl⟩:=F9 n (dQ h f m);have j:=acO i;rw[i];refine⟨_,rfl,?_⟩;split at d;have⟨c',k1,d⟩:=RM.aI d;have⟨q,g,d⟩:=RM.aI d;cases d;cases l with|true=>exact lR (conc:=conc) _|false=>have⟨e,_⟩:=F9 g (dQ h (Hp j f) k1);rw[if_neg (by simp),e];exact lR (conc:=conc) q
  have⟨c',k1,d⟩:=RM.aI d;have⟨q,g,d⟩:=RM.aI d;cases d;cases l with|false=>exact lR (conc:=conc) _|true=>have⟨e,_⟩:=F9 g (dQ h (Hp j f) k1);rw[if_pos rfl,e];exact lR (conc:=conc) q
  trivial|_=>trivial
theorem Rm(hE:al P E)(h:aD P w0 conc st a w){L:List (Nat×Bool)}(A:eO a.tmps L){o:gE}{s:bQ}(g:(il E L true o.op).af st=some s):LA P conc st a w o s:=by
 cases j:o.op with
 |move x=>
  rw[j]at g;exact⟨a.eval x,by simp[eo,j],jJ h A g⟩
 |assign x=>
  rw[j]at g;exact⟨a.eval x,by simp[eo,j],jJ h A g⟩
 |binOp b T x y U=>
  rw[j]at g;have⟨ar,p,g⟩:=RM.aI g;have⟨be,C,g⟩:=RM.aI g;have⟨r,J,g⟩:=RM.aI g;cases g;have⟨u,k1,W⟩:=ahm hE h x y J (jJ h A p) (jJ h A C);exact lJ (by simp only[eo,j]) ⟨u,k1,W⟩
 |unOp u T x=>
  rw[j]at g;have⟨b,p,g⟩:=RM.aI g;have G:=dQ h A p;refine lJ (x:=Op.unary u (a.eval x)) (by simp only[eo,j]) ?_;split at g
  have⟨vs,F,B⟩:=G;rw[tM F B];cases u<;>first| (cases g;done)|skip
  cases g;exact⟨_,rfl,lR (conc:=conc) _⟩;have⟨vs,F,B⟩:=G;rw[vb F B];cases u<;>first| (cases g;done)|skip
  cases g;exact⟨_,rfl,oc (conc:=conc) _⟩;cases g
 |pick c x y=>
  rw[j]at g;have⟨v,ax,Z⟩:=aht h A g;refine⟨v,?_,Z⟩;simp only[eo,j];exact ax
 |load T x=>
  rw[j]at g;simp only[il]at g;cases hT:E.b T with
  |none=>rw[hT]at g;cases g
  |some t=>
   rw[hT]at g;have⟨b,p,g⟩:=RM.aI g;exact lJ (by simp only[eo,j]) (Rr hE h hT g (dQ h A p))
 |fieldAddr T x i=>
  rw[j]at g;simp only[il]at g;cases hT:Map.av E.G T with
  |none=>rw[hT]at g;cases g
  |some te=>
   rw[hT]at g;have⟨hp,g⟩:=dE g;simp only[ee,hY]at hp;have⟨b,p,g⟩:=RM.aI g;exact lJ (by simp only[eo,j]) (adK (hE.g T te hT) hp.2 hp.1 g (dQ h A p) h)
 |field T x i=>
  rw[j]at g;simp only[il]at g;cases hT:Map.av E.G T with
  |none=>rw[hT]at g;cases g
  |some te=>
   rw[hT]at g;have⟨hp,g⟩:=dE g;simp only[ee,hY]at hp;have⟨b,p,g⟩:=RM.aI g;split at g
   rename_i t d;split at g;rename_i a4 D;split at g;rename_i u I;cases g;obtain⟨e,rfl⟩:=kC D;subst e;have⟨vs,F,B⟩:=dQ h A p;exact lJ (by simp only[eo,j]) (adX (hE.g T te hT) hp.2 hp.1 I F B);cases g;cases g;cases g
 |indexAddr T x i=>
  rw[j]at g;simp only[il]at g;cases hT:Map.av E.G T with
  |none=>rw[hT]at g;cases g
  |some te=>
   rw[hT]at g;dsimp only at g;cases R:te.c<;>rw[R]at g<;>dsimp only[cond]at g
   split at g;rename_i e H;have⟨b,p,g⟩:=RM.aI g;have⟨n,C,g⟩:=RM.aI g;have⟨k,M⟩:=vu h A C;refine lJ (x:=gu T (a.eval x) (a.eval i)) (by simp only[eo,j]) ?_;rw[M];exact afg hE h (by unfold aq.b;rw[hT];exact congrArg some H) g (dQ h A p);cases g;have⟨b,p,g⟩:=RM.aI g;have⟨n,C,g⟩:=RM.aI g;have⟨k,M⟩:=vu h A C;refine lJ (x:=gu T (a.eval x) (a.eval i)) (by simp only[eo,j]) ?_;rw[M];exact amY (hE.g T te hT) R k g (dQ h A p) h
 |index T x i=>
  rw[j]at g;simp only[il]at g;split at g
  ·rename_i hT;have⟨b,p,g⟩:=RM.aI g;split at g
   rename_i l;have⟨n,C,g⟩:=RM.aI g;have⟨c,J,g⟩:=RM.iV g;cases g;rw[rU]at J;have⟨ai,ap,aj⟩:=HM J;have⟨k,M⟩:=vu h A C;have⟨vs,F,B⟩:=dQ h A p;have⟨te,O,N⟩:=hE.b hT;have D:=N.g;rw[O]at D;refine lJ (x:=o1 T (a.eval x) (a.eval i)) (by simp only[eo,j]) ⟨.int .u8 (c.toNat:Int),?_,oc (conc:=conc) _⟩;rw[M,Cr F B];have aa:(⟨⟨l⟩⟩:ByteArray)[n.toNat]?=some c:=by
    have ac:n.toNat< (⟨⟨l⟩⟩:ByteArray).size:=ap;rw[getElem?_pos (⟨⟨l⟩⟩:ByteArray) n.toNat ac];exact congrArg some (ea.1 aj).2
   simp only[o1,p6,iA,cr,dr D,ep,if_pos ai,aa];rfl;cases g
  ·split at g
   ·rename_i te hT;split at g
    ·rename_i k m ab;have⟨ar,p,g⟩:=RM.aI g;have⟨l,C,g⟩:=RM.aI g;have⟨z,J,g⟩:=RM.aI g;have⟨n,aw,g⟩:=RM.aI g;have⟨c,an,g⟩:=RM.iV g;cases g;rw[rU]at an;have⟨ai,ap,aj⟩:=HM an;have⟨k',M⟩:=vu h A aw;have⟨_,_,a5,au,I,aC,aB⟩:=D7 (hE.g T te hT) ab;have⟨G,a6⟩:=ahJ (hE.g T te hT) ab C J (jJ h A p);refine lJ (x:=o1 T (a.eval x) (a.eval i)) (by simp only[eo,j]) ⟨.int k c,?_,oc (conc:=conc) _⟩;have⟨a7,ak,am,_⟩:=aC;have ac:n< (m:Int):=by omega
     rw[M,G];simp only[o1,p6,iA,cr,dr I,ep,if_pos (show(0:Int)<=n/\n< (m:Int)from⟨ai,ac⟩),ko,ht];simp[ak,am,Go.part,Pb aB,Ty.a,aj]
    ·cases g
   ·cases g
 |extract t i=>
  rw[j]at g;simp only[il]at g;have⟨ar,p,g⟩:=RM.aI g;have G:=jJ h A p;split at g
  rename_i l;split at g;rename_i b aa;cases g;have⟨vs,F,B⟩:=G;have⟨v,Q,Y⟩:=B.h i b aa;refine lJ (x:=s7 (a.eval t) i) (by simp only[eo,j]) ⟨v,?_,Y⟩;rw[F];have:vs.toArray[i]?=some v:=by simpa using Q
  simp only[s7,this];rfl;cases g;cases g
 |entry x=>
  rw[j]at g;simp only[il]at g;have⟨b,p,g⟩:=RM.aI g;split at g
  rename_i id ver;simp only[RM.af]at g;split at g;rename_i cv k v y l af;have⟨C,ag⟩:=dE g;clear g;have:=cU C;subst this;cases ag;obtain⟨c,a8,k1,W,rfl⟩:=sR h af (dQ h A p);obtain⟨_,r,m,es,clock,aZ,bf,a3,ak,am,a9,aT,aU,ba,bb,bc,bd,aS⟩:=W;obtain⟨rfl,e,H,a0,rfl,⟨ks,aV,aW⟩,us,aX,aY⟩:=aS y rfl;refine lJ (x:=Instr.entry (a.eval x)) (by simp only[eo,j]) ⟨.tuple #[e.key,e.val],by rw[ak];exact run_entry_at w r m aZ a0 es _ e am aT H aU.1,[e.key,e.val],rfl,⟨ks,aV,aW⟩,⟨us,aX,aY⟩,trivial⟩;cases g;cases g
 |lookup T m k ok=>
  rw[j]at g;simp only[il]at g;split at g
  rename_i q u hT;obtain⟨I,aK⟩:=dE g;obtain⟨b,p,ag⟩:=RM.aI aK;obtain⟨l,C,aL⟩:=RM.aI ag;obtain⟨n,J,aM⟩:=RM.aI aL;cases aM;obtain⟨ks,aE,aF⟩:=KH hE h A J;obtain⟨K,V,_,ay,_⟩:=Jc hE hT;obtain⟨r,k1,W⟩:=aba hE h hT I (dQ h A p) C ((aF []).e q (Ey q ay.g)) ok;refine lJ (x:=nB T (a.eval m) (a.eval k) ok) (by simp only[eo,j]) ⟨r,?_,W⟩;rw[aE];exact k1;cases g
 |slice T x lo ab aQ=>
  rw[j]at g;cases aQ with
  |some m=>cases g
  |none=>
   simp only[il]at g;cases hT:E.b T with
   |none=>rw[hT]at g;cases g
   |some t=>
    rw[hT]at g;obtain⟨b,p,g⟩:=RM.aI g;exact lJ (by simp only[eo,j,hN]) (agQ hE h A hT g (dQ h A p))
 |convert S T x=>
  rw[j]at g;simp only[il]at g;split at g
  rename_i k k' az hT;obtain⟨n,p,g⟩:=RM.aI g;cases g;obtain⟨q,aI⟩:=vu h A p;obtain⟨te,O,N⟩:=hE.b az;obtain⟨bg,aO,aH⟩:=hE.b hT;have D:=N.g;have ao:=aH.g;rw[O]at D;rw[aO]at ao;refine lJ (x:=x3 S T (a.eval x)) (by simp only[eo,j]) ⟨_,?_,oc (conc:=conc) _⟩;rw[aI];simp only[x3,cr,dr D,dr ao,ep];rfl;cases g
 |build T ps=>
  rw[j]at g;simp only[il]at g;cases hT:Map.av E.G T with
  |none=>rw[hT]at g;cases g
  |some te=>
   rw[hT]at g;obtain⟨hp,g⟩:=dE g;obtain⟨l,p,g⟩:=RM.aI g;cases g;exact lJ (by simp only[eo,j]) (XM hE h A hT hp p)
 |call c=>
  rw[j]at g;obtain⟨av,args,tys⟩:=c;cases av with
  |value f=>cases g
  |invoke r m=>cases g
  |builtin b=>
   cases b<;>first| (cases g;done)|skip
   case len=>
    simp only[il]at g;split at g
    rename_i x T ah aA;have R:args= #[x]:=by rw[<-gk (xs:=args),ah]
    have aN:tys= #[T]:=by rw[<-gk (xs:=tys),aA]
    subst R aN;split at g;rename_i e hT;obtain⟨b,p,g⟩:=RM.aI g;obtain⟨n,C,g⟩:=RM.aI g;cases g;obtain⟨ad,cap,G⟩:=YM (T:=T) h C (dQ h A p);obtain⟨au,I,_⟩:=Bm hE hT;refine⟨.int .i64 (n:Int),?_,oc (conc:=conc) _⟩;simp[eo,j,nV,nH,pH,nz,G,dr I,goInt];rename_i hT;obtain⟨b,p,g⟩:=RM.aI g;split at g;rename_i l;cases g;obtain⟨vs,F,B⟩:=dQ h A p;obtain⟨te,O,N⟩:=hE.b hT;have D:=N.g;rw[O]at D;have G:=Cr F B;refine⟨.int .i64 (l.length:Int),?_,oc (conc:=conc) _⟩;have ae:(nz #[T] o.type #[.string ⟨⟨l⟩⟩]).run P w= .ok (.int .i64 (l.length:Int)) w:=by
     simp only[nz,List.getElem?_toArray,hJ];rw[cr,dr D];rfl
    have H: #[x].map a.eval= #[.string ⟨⟨l⟩⟩]:=by simp only[mm,fb,k7,G]
    simp only[eo,j,nV,nH,pH,iA,H];rw[cr,ae];rfl;cases g;rename_i k u hT;obtain⟨b,p,g⟩:=RM.aI g;obtain⟨n,C,g⟩:=RM.aI g;cases g;obtain⟨m,es,clock,G,ae,aG⟩:=ahW h C (dQ h A p);obtain⟨te,O,N⟩:=hE.b hT;have D:=N.g;rw[O]at D;obtain⟨K,V,I,_⟩:=D;refine⟨.int .i64 (n:Int),?_,oc (conc:=conc) _⟩;simp[eo,j,nV,nH,pH,nz,G,dr I,goInt,getObj,vi,ae,aG];cases g;cases g
   case max|min=>
    simp only[il]at g;split at g
    rename_i x y ah;have R:args= #[x,y]:=by rw[<-gk (xs:=args),ah]
    subst R;obtain⟨b,p,g⟩:=RM.aI g;split at g;rename_i k n;obtain⟨a1,C,g⟩:=RM.aI g;split at g;rename_i k' aR;obtain⟨rfl,aJ⟩:=jN g;cases aJ;obtain⟨vs,F,B⟩:=dQ h A p;obtain⟨bh,Q,Y⟩:=dQ h A C;have H: #[x,y].map a.eval= #[.int k n,.int k aR]:=by simp[vb F B,vb Q Y]
    refine⟨_,?_,oc (conc:=conc) _⟩;simp only[eo,j,nV,nH,pH,iA,H];rfl;cases g;cases g;cases g
 |nilCheck x=>
  rw[j]at g;simp only[il]at g;obtain⟨b,p,g⟩:=RM.aI g;have G:=dQ h A p;have run:∀ad,a.eval x= .pointer (some ad)->(eo a.eval o).run P w= .ok (.value (a.eval x)) w:=by
   intro ad H;simp only[eo,j,H];rfl
  split at g
  obtain⟨d,D,g⟩:=RM.iV g;cases g;rw[rU]at D;obtain⟨vs,F,⟨X,_⟩| ⟨y,X,b,off,cs,T,fr,B,Q⟩⟩:=G;rw[X]at D;cases D;rw[X]at D;cases D;rw[B]at F;exact⟨a.eval x,run _ F,b,off,cs,T,fr,F,Q⟩;cases g;have aP:=G;obtain⟨b,off,cs,T,fr,B,Q⟩:=G;exact⟨a.eval x,run _ B,aP⟩;rename_i id ver off;simp only[RM.af]at g;split at g;rename_i cv u af;obtain⟨Z,rfl,_,_,_,_,a2,F,B⟩:=iQ h af g G;cases Z;exact⟨a.eval x,run _ B,G⟩;cases g;cases g
 |_=>rw[j]at g;cases g
end
section
variable[Dr]
variable{P:ef}{E:aq}{w0:bC}{w:eb}{conc:bf}{st:au}{a:np}
variable {W0:W} {w':eb} {o:gE} {v:b2} {d:Option Nat} {s:bQ}
def cz(P:ef)(w0:bC)(o:gE)(a:np)(w:eb)(st':au):=∀next Q,(∀a' w',cT P w0 st' a' w'->next a' w')->o.wp P a w next Q
theorem cz.b{st'}(c:(eo a.eval o).run P w= .ok (.value v) w')(h:cT P w0 st' (a.put o.dst v) w'):cz P w0 o a w st':=by intro next Q b;unfold r1;rw[c];exact b _ _ h
theorem cz.c{st'}(c:(eo a.eval o).run P w= .ok .skip w')(h:cT P w0 st' (a.put o.dst undef) w'):cz P w0 o a w st':=by intro next Q b;unfold r1;rw[c];exact b _ _ h
theorem cz.e{st'}{f:Nat}{args}{R:b2->eb->Prop}(d:(eo a.eval o).run P w= .ok (.enter f args) w')(c:qi P f args w' λ e b=>∃v,e= .returned v/\R v b)(h:∀v b,R v b->cT P w0 st' (a.put o.dst v) b):cz P w0 o a w st':=by intro next Q g;unfold r1;rw[d];refine hA c ?_;grind
theorem Q1{m d L g s W0 st'}(h:cD st m (.a d L g s W0)=some st'):(∃e,d=some e/\st.e e=true/\(∀q,m=some q->e≠q)/\st'={N:=st.N,d:=nT m st.d,a:=Map.jw st.a e ⟨L,g,s⟩,b:=eX st.b W0,c:=st.c})\/(d=none/\st'={N:=st.N,d:=nT m st.d,a:=st.a,b:=eX st.b W0,c:=st.c}):=by unfold cD er.a at h;grind[xY,gF]
theorem nM{w1 conc1 st'}(h1:aD P w0 conc1 {st with b:=eX st.b W0} a w1)(f:cD st none (.a d [] true s W0)=some st')(g:di P w1 conc1 (ae conc1) s v):cT P w0 st' (a.put d v) w1:=by refine⟨conc1,?_⟩;rcases Q1 f with⟨c,rfl,e,_,rfl⟩| ⟨rfl,rfl⟩;exact h1.K (d:=c) (sl:= ⟨_,_,s⟩) (v:=v) (ms:=st.d) e (λ _ h=>h) (by grind) ⟨by grind,absurd (cG _)⟩;trivial
theorem wG(h:aD P w0 conc st a w)(c:da P conc st w (aV W0) W0):∃conc1,conc1=bB conc (aV W0)/\aD P w0 conc1 {st with b:=eX st.b W0} a w/\fU conc conc1/\cM w (ae conc) (ae conc1):= ⟨_,rfl,h.A c,I1 _ _,sX w _ _⟩
theorem Nz{F}(c:da P conc st w F W0)(d):(Map.av (eX st.b W0) d).map (·.1)=(Map.av st.b d).map (·.1):=by rcases vy st.b W0 d with⟨a,_⟩| ⟨o,a,b⟩;rw[a];have⟨cv,o⟩:=o;have⟨⟨f,e⟩,_⟩:=c d cv o b;grind
theorem aD.R(h:aD P w0 conc st a w){id ver c o w'}(e:cm w w')(m:∀cv g i,conc id=some (cv,g,i)->cv<ver)(j:∀b,dB c b->w.heap.size<=b/\b<w'.heap.size)(k:∀d,fU conc d->cM w (ae conc) (ae d)->(∀b,w.heap.size<=b->¬dB c b->ae d b)->fS P w' d (ae d) c true o):∃d,aD P w0 d {st with b:=Map.jw st.b id (ver,o)} a w'/\d id=some (ver,c,true)/\fU conc d/\cM w (ae conc) (ae d):=by have⟨d,q,r,s,_,t⟩:=h.I (id:=id) (ver:=ver) (c:=c) (o:=o) (w':=w') (λ cv g i l=> .inl (m cv g i l)) e.m e.i e.g e.f (λ b f _=>e.e b f) (λ b f=> ⟨.inl (j b f).1,(j b f).2⟩) (λ d k1 _ _ n p=>k d k1 n p);grind
theorem wv(h:aD P w0 conc st a w){W0}(t:da P conc st w (aV W0) W0){d o f u st' c w'}(l:(iY d o f W0).af st=some u)(S:cD st none u=some st')(H:cm w w')(I:∀b,dB c b->w.heap.size<=b/\b<w'.heap.size)(F:∀e,fU conc e->cM w (ae (bB conc (aV W0))) (ae e)->(∀b,w.heap.size<=b->¬dB c b->ae e b)->fS P w' e (ae e) c true o)(G:∀e ver,e d=some (ver,c,true)->bN P w' e (ae e) (f ver) c):cT P w0 st' (a.put (some d) c) w':=by
 obtain⟨conc1,rfl,p,r,R⟩:=wG h t;have key:∀ver,(∀cv j m,bB conc (aV W0) d=some (cv,j,m)->cv<ver)->u= ⟨some (d,⟨[],true,.v (f ver)⟩),W0++ [(d,(ver,o))]⟩->cT P w0 st' (a.put (some d) c) w':=by
  intro ver L K;subst K;have⟨z,k1,M,T,U⟩:=p.R (id:=d) (ver:=ver) (c:=c) (o:=o) (w':=w') H L I λ e n D E=>F e ⟨n.1.trans r.1,λ id cv j m i=>by have⟨A,c',y,O,Y⟩:=r.2 id cv j m i;have⟨Q,c2,X,Z,aa⟩:=n.2 id A c' y O;grind⟩ D E;have J:=nM (st:=st) (W0:=W0++ [(d,(ver,o))]) (d:=some d) (s:= .v (f ver)) (st':=st') (v:=c) (conc1:=z) (w1:=w') (a:=a) (w0:=w0) (P:=P);refine J ?_ ?_ (G _ _ M);rw[DM];trivial;trivial
 simp[iY,RM.af]at l;have g:=Nz t d;cases x:Map.av st.b d with
 |none=>rw[x]at l g;cases l;refine key 0 (λ cv j m i=>?_) rfl;have:bB conc (aV W0) d=none:=p.r d (by cases k:Map.av (eX st.b W0) d with|none=>rfl|some q=>rw[k]at g;cases g);rw[this]at i;cases i|some q=>have⟨B,V⟩:=q;rw[x]at l g;cases l;refine key (B+1) (λ cv j m i=>?_) rfl;cases k:Map.av (eX st.b W0) d with|none=>rw[k]at g;cases g|some q=>have⟨C,N⟩:=q;rw[k]at g;simp at g;have⟨c',y,n,_⟩:=p.q d C N k;rw[n]at i;cases i;omega
end
section
variable[Dr]
variable{P:ef}{E:aq}{w0:bC}{w:eb}{conc:bf}{st:au}{a:np}
variable {e:Ty} {ok:Nat->Prop} {d:Nat} {u:er} {cs:Array b2} {U:Nat} {w':eb} {vs:List b2} {t:Ty} {W0:W} {b:Nat} {z:Array b2} {l:List e.b}
theorem da.c(P)(conc)(st)(w):da P conc st w (aV []) []:=da.b
theorem Bq(o):(w.alloc o).heap[w.heap.size]?=some o:=l8 w o
theorem MU{l st'}(h:aD P w0 conc st a w)(k:(iY d (.eu t l) (λ v=> .dx d v 0) []).af st=some u)(f:cD st none u=some st')(j:l.length=t.a)(h1:∀v∈cs.toList,eY v=true)(m:bU (bN P w conc (ae conc)) l cs.toList):cT P w0 st' (a.put (some d) (.pointer (some ⟨w.heap.size,0,none⟩))) (w.alloc (.cells cs U)):=by
 refine wv h (da.c P conc st w) k f (cm.d w _) (λ b g=>?_) (λ c e o p=>?_) (λ c ver i=>?_);cases g;simp;refine⟨rfl,_,cs,U,rfl,Bq _,j,h1,m.e λ x v n=>n.b (cm.j (cm.d w _) _) ?_ e⟩
 grind[aV,mT]
 exact⟨_,_,_,i,df _,rfl,by grind⟩
theorem KG{st'}(h:aD P w0 conc st a w)(o:da P conc st w (aV W0) W0)(B:(iY d (.c8 e l) (.dj d) W0).af st=some u)(p:cD st none u=some st'){cap}(y:l.length<=cap)(A:cap<=l7){off}(C:off+cap*e.a<=cs.size)(v:cm w w')(F:w.heap.size<=b)(q:w'.heap[b]?=some (.cells cs U (0,0)))(D:∀i x,l[i]?=some x->aw P e w' (λ f=>(ae (bB conc (aV W0)) f\/w.heap.size<=f)/\f≠b) (aS cs.toList (off+i*e.a) e.a) x):cT P w0 st' (a.put (some d) (.slice (some ⟨b,off,none⟩) l.length cap)) w':=by refine wv h o B p v (λ g r=>?_) (λ j E k m=>?_) (λ j ver s=>?_);cases r;grind;refine⟨rfl,.inr ⟨b,off,cap,cs,U,rfl,q,y,A,C,λ i x t=>(D i x t).b e ⟨df _,λ _ _ _=>rfl⟩ ?_⟩⟩;rintro g⟨c,n⟩_;by_cases z:g<w.heap.size;obtain c|c:=c;exact k _ c z;omega;exact m _ (by omega) (λ e=>n (by cases e;rfl));exact⟨_,_,_,s,df _,rfl,λ _=>rfl⟩
theorem Jn{d e l u st' W0 cs}{U:Nat}(h:aD P w0 conc st a w)(f:da P conc st w (aV W0) W0)(q:(iY d (.c8 e l) (.dj d) W0).af st=some u)(g:cD st none u=some st'){cap}(o:l.length<=cap)(p:cap<=l7)(r:cs.size=cap*e.a){w' b}(n:cm w w')(j:w.heap.size<=b)(k:w'.heap[b]?=some (.cells cs U (0,0)))(s:∀i x,l[i]?=some x->aw P e w' (λ c=>(ae (bB conc (aV W0)) c\/w.heap.size<=c)/\c≠b) (aS cs.toList (i*e.a) e.a) x):cT P w0 st' (a.put (some d) (.slice (some ⟨b,0,none⟩) l.length cap)) w':=KG h f q g o p (off:=0) (by rw[hP];exact Nat.le_of_eq r.symm) n j k λ i x m=>by rw[hP];exact s i x m
theorem abW{n a i}(e:z.size=a)(b:i<n):aS ((kV (n*a)).map (λ j=>z[j%z.size]!)).toList (i*a) a=z.toList:=by
 apply ih;intro j;unfold aS;rw[gf];split;rename_i c;have d:i*a+j<n*a:=by
  have:(i+1)*a<=n*a:=eg _ b
  grind
 grind[u2,Nat.add_mul_mod_self_right,Nat.mod_eq_of_lt,l9,Array.toList_range,List.getElem?_range,hg];grind
def gO(P:ef)(w:eb)(ok:Nat->Prop)(e:Ty)(l:List e.b)(vs:List b2):=vs.length=l.length*e.a/\(∀v∈vs,eY v=true)/\∀i x,l[i]?=some x->aw P e w ok (aS vs (i*e.a) e.a) x
theorem gO.h{ok'}(h:gO P w ok e l vs)(c:fN ok w w')(b:cM w ok ok'):gO P w' ok' e l vs:= ⟨h.1,h.2.1,λ i x a=>(h.2.2 i x a).b e c b⟩
theorem gO.f(a:e.j=true)(n)(d:z.toList=dM e):gO P w ok e (hv n e.g) ((kV (n*e.a)).map (λ j=>z[j%z.size]!)).toList:=by
 have c:z.size=e.a:=by grind[Fi]
 refine⟨by simp,?_,λ i x b=>?_⟩;all_goals grind[l9,w6,Gs,ea,mx,abW,Rb]
theorem ON{l m:List b2}{o n}(b:o+n<=l.length)(a:m.length=n):aS (l.take o++m++l.drop (o+n)) o n=m:=by grind[aS,ew,hZ,pk,pn]
theorem T4{l m o n p q}(e:o+n<=l.length)(d:m.length=n)(a:p+q<=o\/o+n<=p):aS (l.take o++m++l.drop (o+n)) p q=aS l p q:=by
 unfold aS;have c:(l.take o).length=o:=by grind
 obtain a|a:=a
 grind[hZ,eQ,lf]
 have b:(l.take o++m).length=o+n:=by grind
 rw[sf,b,p8 (by omega),sy,nb]
 grind
theorem gO.g{us}(h:gO P w ok e l vs){i}(k:i<l.length){x}(m:aw P e w ok us x):gO P w ok e (l.set i x) (vs.take (i*e.a)++us++vs.drop (i*e.a+e.a)):=by
 have⟨g,n,o⟩:=h;have f:=m.d;have d:i*e.a+e.a<=vs.length:=by rw[g,<-gw];exact eg _ k
 refine⟨?_,?_,λ j y a=>?_⟩
 grind
 grind[qW,aw.f,mZ]
 by_cases b:i=j;subst b;rw[mn (by omega)]at a;cases a;rw[ON d f];omega;rw[nc b]at a;have p:=(ea.1 a).1;have:aS (vs.take (i*e.a)++us++vs.drop (i*e.a+e.a)) (j*e.a) e.a=aS vs (j*e.a) e.a:=by
  refine T4 d f ?_;rcases r3 b with c|c
  right;rw[<-gw];exact eg _ c;left;rw[<-gw];exact eg _ c
 grind
theorem Kw{d}(a:0<t.a)(h:aw P t w ok vs d):(t.d vs).cells.toList=vs:=Mm h
theorem Ql(hE:al P E)(h:aD P w0 conc st a w){L}(z:eO a.tmps L)(A:0<e.a){F}:{ps:List (Nat×dk)}->{l:List e.b}->{W0:W}->{r:List e.b×W}->{cs:Array b2}->(rE E L e l W0 ps).af st=some r->(∀id∈aV r.2,id∈F)->((∀id∈aV W0,id∈F)->da P conc st w F W0)->gO P w (ae (bB conc F)) e l cs.toList->(∀id∈aV W0,id∈aV r.2)/\r.1.length=l.length/\da P conc st w F r.2/\∃cs',j2 (λ i=>some (i*e.a,e.a)) cs (ps.map λ p=>(p.1,a.eval p.2))=some cs'/\gO P w (ae (bB conc F)) e r.1 cs'.toList
 | [],l,W0,r,cs,b,f,k,j=>by cases b;exact⟨λ _ h=>h,rfl,k f,_,rfl,j⟩| (i,x)::ps,l,W0,r,cs,b,f,k,j=>by
  simp[rE]at b;have⟨s,G,m⟩:=RM.aI b;have⟨d,H,q⟩:=RM.aI m;have⟨K,t⟩:=dE q;have y:i<l.length:=by simp_all
  have⟨us,C,D⟩:=nO hE h H (jJ h z G);have sub:∀ps l W0 r,(rE E L e l W0 ps).af st=some r->∀id∈aV W0,id∈aV r.2:=by
   intro ps
   induction ps with|nil=>intro l W0 r b;cases b;simp|cons p ps N=>have⟨i,x⟩:=p;intro l W0 r b id c;simp[rE]at b;have⟨s,k1,m⟩:=RM.aI b;have⟨d,I,q⟩:=RM.aI m;have⟨B,t⟩:=dE q;grind[id,jZ,fv]
  have u:∀id∈aV (W0++d.2),id∈F:=λ id c=>f id (sub _ _ _ _ t id c);have g:=D F λ id c=>u id (by grind[jZ,fl]);have M:=j.g y g.2;have v:=Kw A g.2;rw[<-C]at v;have:=Ql hE h z A (F:=F) (cs:=(cs.toList.take (i*e.a)++us++cs.toList.drop (i*e.a+e.a)).toArray) t f (λ _=>(k λ id c=>u id (by grind[jZ,fv])).e g.1) (by omega);have⟨k1,I,B,cs',O,J⟩:=this;refine⟨λ id c=>k1 _ (by grind[jZ,fv]),by grind,B,_,?_,J⟩;rw[fb,KT (o:=i*e.a) (n:=e.a) rfl v g.2.d];omega;have:=j.1;simp[hz]at this;rw[this,<-gw];exact eg _ y
end
section
variable[Dr]
variable{P:ef}{E:aq}{w0:bC}{w:eb}{conc:bf}{st:au}{a:np}
variable {T:Nat} {o:gE} {e:Ty} {d:Nat} {u:er} {t:Ty} {ps:Array (Nat×dk)} {r:List e.b×W}
theorem JL(a:0<t.a):(t.d (dM t)).cells.toList=dM t:=by cases t<;>first|rfl| (simp[Ty.sz]at a;done)|simp[Ty.val,Ty.c,Value.cells]
theorem aif(hE:al P E)(h:aD P w0 conc st a w){o:gE}{T d:Nat}{t}(g:o.op= .alloc T)(f:o.dst=some d)(hT:E.b T=some t){u st'}(i:(iY d (.eu t (rF t)) (λ v=> .dx d v 0) []).af st=some u)(e:cD st none u=some st'):cz P w0 o a w st':=by obtain⟨b,rfl,c⟩:=hE.b hT;have j:=JL c.l;have:=MU (U:=T) (cs:=(b.a.d (dM b.a)).cells) h i e (by rw[acU _]) (by grind[Gs]) (by grind[LB]);refine cz.b (v:= .pointer (some ⟨w.heap.size,0,none⟩)) (w':=w.alloc (.cells (b.a.d (dM b.a)).cells T)) ?_ (by rw[f];exact this);simp only[eo,g,Instr.alloc];rw[cr,cr,Uu c];rfl
where
 acU (t:Ty):(rF t).length=t.a:=by induction t<;>simp_all [rF,Ty.a]
theorem ahn(hE:al P E)(h:aD P w0 conc st a w){x}(f:o.op= .box T x)(n:o.dst=some d){s l}(i:(rd [] x).af st=some s)(c:s.a.af st=some l)(e:l.length=t.a){st'}(g:(iY d (.eu t l) (λ v=> .dx d v 0) []).af st=some u)(b:cD st none u=some st'):cz P w0 o a w st':=by have⟨vs,j,k,m⟩:=Cg c (jJ h (cG _) i);have:=MU (U:=T) (cs:=(a.eval x).cells) h g b e (by grind) (by grind);exact cz.b (v:= .pointer _) (w':=w.alloc _) (by simp[eo,f,Instr.box];rfl) (by grind)
theorem ah7(h:aD P w0 conc st a w)(p:o.op= .assign (.const (.slice none 0 0)))(i:o.dst=some d){st'}(j:(iY d (.c8 e []) (.dj d) []).af st=some u)(f:cD st none u=some st'):cz P w0 o a w st':=by refine cz.b (v:= .slice none 0 0) (w':=w) (by simp_all[eo,q4]) ?_;rw[i];exact wv h (da.c P _ _ w) j f (cm.h w) (λ b n=>by trivial) (λ c k l m=> ⟨rfl,by grind⟩) (λ c ver g=> ⟨_,_,_,g,df _,rfl,λ _=>rfl⟩)
theorem yo(hE:al P E)(hT:E.b T=some (.aH e)):∃a,P.underlying T=some (.slice a)/\jy P a e:=by have⟨d,c,b⟩:=hE.b hT;have:=b.g;grind
theorem ZZ(hE:al P E)(hT:E.c T=some e):∃a,P.underlying T=some (.slice a)/\jy P a e:=by grind[aq.c,yo]
theorem RB(hE:al P E)(h:aD P w0 conc st a w){L}(q:eO a.tmps L){n}(J:o.op= .buildSlice T n ps)(hT:∃b,P.underlying T=some (.slice b)/\jy P b e) (k:e.j=true) (I:n*e.a<=16777216) (l:(rE E L e (hv n e.g) [] ps.toList).af st=some r):da P conc st w (aV r.2) r.2/\r.1.length=n/\∃cs' b,cs'.size=n*e.a/\gO P w (ae (bB conc (aV r.2))) e r.1 cs'.toList/\(eo a.eval o).run P w= .ok (.value (.slice (some ⟨w.heap.size,0,none⟩) n n)) (w.alloc (.cells cs' b)):=by
 have⟨b,u,i,C,D,G,H,c⟩:=hT;have v:=JL c;have s:gO P w (ae (bB conc (aV r.2))) e (hv n e.g) ((kV (n*e.a)).map (λ j=>(e.d (dM e)).cells[j% (e.d (dM e)).cells.size]!)).toList:=gO.f k n v;have⟨_,d,A,cs',N,f⟩:=Ql hE h q c (F:=aV r.2) l (λ _ h=>h) (λ _=>da.b) s;rw[mx]at d;have g:cs'.size=n*e.a:=by have:=f.1;grind
 refine⟨A,d,_,b,g,f,?_⟩;have K:(ps.map λ x=>(x.1,a.eval x.2)).toList=ps.toList.map λ p=>(p.1,a.eval p.2):=by simp
 have B:¬(n*i.size>2^24):=by grind
 have y:(k6 b).run P w= .ok (e.d (dM e)) w:=by simp_all[k6,ht]
 have t:(ko b).run P w= .ok e.a w:=by simp_all[ko,ht]
 have key:∀z,(n*e.a=0\/z=(e.d (dM e)).cells)->j2 (λ i=>some (i*e.a,e.a)) ((kV (n*e.a)).map (λ j=>z[j%z.size]!)) (ps.map λ x=>(x.1,a.eval x.2)).toList=some cs':=by grind
 have M:(r4 T n (ps.map λ x=>(x.1,a.eval x.2))).run P w= .ok (.slice (some ⟨w.heap.size,0,none⟩) n n) (w.alloc (.cells cs' b)):=by
  unfold r4;rw[cr,dr u];dsimp only[hG];rw[cr,t];dsimp only[hG];have m:¬(n*e.a>2^24):=by omega
  rw[if_neg m];by_cases h0:n*e.a=0;rw[if_pos h0];have:=key #[] (.inl h0);simp only[iA,this];rfl;rw[if_neg h0];have:=key _ (.inr rfl);simp only[iA];rw[cr,y];dsimp only[hG];simp only[this];rfl
 simp_all[eo,cr]
theorem VB(hE:al P E)(h:aD P w0 conc st a w){n}(s:o.op= .buildSlice T n ps)(z:o.dst=some d)(hT:∃c,P.underlying T=some (.slice c)/\jy P c e)(l:e.j=true)(q:n*e.a<=16777216)(m:(rE E [] e (hv n e.g) [] ps.toList).af st=some r){st'}(t:(iY d (.c8 e r.1) (.dj d) r.2).af st=some u)(g:cD st none u=some st'):cz P w0 o a w st':=by
 have⟨v,C,cs',c,k,y,B⟩:=RB hE h (cG _) s hT l q m;have f:0<e.a:=by have⟨_,_,_,_,_,_,_,f⟩:=hT;omega
 have i:=Jn (U:=c) (cs:=cs') (cap:=n) (w':=w.alloc (.cells cs' c)) (b:=w.heap.size) h v t g (by omega) (by unfold l7;have:=qc n f;omega) k (cm.d w _) (df _) (Bq _) (λ j x p=>by refine(y.2.2 j x p).b e (cm.j (cm.d w _) _) ?_;intro b i A;grind);grind[cz.b]
end
section
variable[Dr]
variable{P:ef}{E:aq}{w0:bC}{w:eb}{conc:bf}{st:au}{a:np}
variable {n:Int} {e:Ty} {v:b2}
theorem Ws(h0: -9223372036854775808<=n)(h1:n<9223372036854775808):IntKind.i64.wrap n=n:=by
 have a:(2:Int)^IntKind.i64.bits=18446744073709551616:=by decide
 have b:(2:Int)^ (IntKind.i64.bits- 1)=9223372036854775808:=by decide
 have c:IntKind.i64.signed=true:=by decide
 grind[IntKind.wrap]
theorem afs{T a:Nat}(p:P.underlying T=some (.slice a))(g:jy P a e)(h0:0<=n)(h1:n<=(iZ:Int)):(so T (.int .i64 n) (.int .i64 n)).run P w= .ok (.slice (some ⟨w.heap.size,0,none⟩) n.toNat n.toNat) (w.alloc (.cells ((kV (n.toNat*e.a)).map (λ j=>(e.d (dM e)).cells[j% (e.d (dM e)).cells.size]!)) a)):=by
 have⟨i,h,s,t,u,v⟩:=g;unfold iZ at h1;have q:IntKind.i64.wrap n=n:=Ws (by omega) (by omega);have r:(k6 a).run P w= .ok (e.d (dM e)) w:=by simp_all[k6,ht]
 have m:(ko a).run P w= .ok e.a w:=by simp_all[ko,ht]
 have o:(ht a).run P w= .ok i w:=by simp[ht,h]
 have d:decide ((i.bytes:Int)*n>2^48)=false:=by have:(i.bytes:Int)*n<=32768*4294967296:=Int.mul_le_mul (by omega) (by omega) h0 (by omega);grind
 have l:∀k,(askRoom k).run P w= .ok () w:=by simp
 unfold so;rw[cr,dr p];dsimp only[hG];simp only[asInt,p6,iA];rw[cr,o];dsimp only[hG];rw[q];have c2:decide (n<0)=false:=by grind
 have c3:decide (n>n)=false:=by simp
 simp only[d,c2,c3,Bool.or_false,kg,if_false];rw[cr,l];dsimp only[hG];rw[cr,m];dsimp only[hG];by_cases b:n.toNat*e.a=0;have c:∀f:Nat->b2,(kV 0).map f= #[]:=by simp
 rw[if_pos b];simp[b,c];rfl;rw[if_neg b,cr,r];rfl
theorem Zx(hE:al P E)(h:aD P w0 conc st a w){o:gE}{T d x:Nat}(t:o.op= .makeSlice T (.tmp x) (.tmp x))(p:o.dst=some d)(hT:E.b T=some (.aH e))(r:e.j=true)(D:(c9 [] (.tmp x)).af st=some (.aE (.ay .i64) n))(h0:0<=n)(h1:n<=(iZ:Int)){u st'}(z:(iY d (.c8 e (hv n.toNat e.g)) (.dj d) []).af st=some u)(m:cD st none u=some st'):cz P w0 o a w st':=by have⟨g,B,f⟩:=yo hE hT;have q:=f;have⟨i,G,H,I,J,v⟩:=q;have F:=JL v;have⟨vs,k,l⟩:=dQ h (cG _) D;have C:=vb k l;have A:gO P w (ae conc) e (hv n.toNat e.g) _:=gO.f r n.toNat F;have c:=Jn (U:=g) (cs:=((kV (n.toNat*e.a)).map (λ j=>(e.d (dM e)).cells[j% (e.d (dM e)).cells.size]!))) (cap:=n.toNat) (b:=w.heap.size) h (da.c P conc st w) z m (by simp) (by grind[l7,iZ]) (by simp) (cm.d w _) (df _) (Bq _) (λ j y s=>by refine(A.2.2 j y s).b e (cm.j (cm.d w _) _) ?_;intro b c K;grind[aV,mT]);rw[mx]at c;refine cz.b ?_ (by rw[p];omega);simp only[eo,t];rw[cr,C,afs B f h0 h1];rfl
theorem Jm{T a}(f:je P T a){b off cs}{U:Nat}(c:w.heap[b]?=some (.cells cs U (0,0))){vs}(i:v.cells.toList=vs)(h1:∀u∈vs,eY u=true)(d:vs.length=a.a.a)(g:off+a.a.a<=cs.size):(s8 T (.pointer (some ⟨b,off,none⟩)) v).run P w= .ok () (w.setRow b (cs.toList.take off++vs++cs.toList.drop (off+a.a.a)).toArray):=by
 have h:v.cells.size=a.a.a:=by grind
 have:=tm P b off U vs 0 cs w c (by omega) (λ u e=>by have:=h1 u e;trivial);simp[n3,d]at this;unfold s8 storeVar;grind[mA,cr,KO,hG]
theorem BJ(h:aD P w0 conc st a w){W0}(t:da P conc st w (aV W0) W0){id cv c g b cs' st'}(j:bB conc (aV W0) id=some (cv,c,true))(u:dB c b)(m:cD st none ⟨none,W0++ [(id,(cv,g))]⟩=some st')(s:∀f w',fU (bB conc (aV W0)) f->fN (ae (bB conc (aV W0))) w w'->cM w (ae (bB conc (aV W0))) (ae f)->w'=w.setRow b cs'->fS P w' f (ae f) c true g):cT P w0 st' a (w.setRow b cs'):=by
 obtain⟨conc1,rfl,l,z,A⟩:=wG h t;have⟨n,k1,_⟩:=l.I (id:=id) (ver:=cv) (c:=c) (o:=g) (w':=w.setRow b cs') (λ y x C B=>by grind) rfl rfl ⟨rfl,λ _=>df _⟩ (by simp) (λ k i v=>setRow_other w b k cs' λ e=>v cv c j (e▸u)) (λ k i=> ⟨.inr ⟨cv,c,j,i⟩,by rw[size_setRow];exact(l.f _ _ c _ j i).2⟩) (λ f p _ q r _=>s f _ p q r rfl);refine⟨n,?_⟩;unfold cD at m;cases m;show aD P _ _ {N:=st.N,d:=st.d,a:=st.a,b:=eX _ (W0++ [(id,(cv,g))]),c:=st.c} a _;rw[DM];trivial
theorem V7(h:eY v=true):v.oneCell'=true:=by trivial
end
section
variable[Dr]
variable{P:ef}{E:aq}{w0:bC}{w:eb}{conc:bf}{st:au}{a:np}
variable {e:Ty} {ok:Nat->Prop} {v:b2} {w':eb} {l:List e.b}
def nR(P:ef)(w:eb)(ok:Nat->Prop)(e:Ty)(l:List e.b)(v:b2)(a:List b2):=∃ad cap,v= .slice ad l.length cap/\gO P w ok e l a/\((l= []/\a= [])\/∃b off cs T fr,ad=some ⟨b,off,none⟩/\w.heap[b]?=some (.cells cs T fr)/\off+l.length*e.a<=cs.size/\aS cs.toList off (l.length*e.a)=a)
theorem BA(c:0<e.a){cs off}(n:off+l.length*e.a<=cs.length)(h:∀i x,l[i]?=some x->aw P e w ok (aS cs (off+i*e.a) e.a) x):gO P w ok e l (aS cs off (l.length*e.a)):=by
 have b:=J9 n;refine⟨b,?_,λ i x g=>?_⟩;intro v o;obtain⟨j,a,rfl⟩:=List.mem_iff_getElem.1 o;rw[b]at a;have k:j/e.a<l.length:=(Nat.div_lt_iff_lt_mul c).2 a;have d:=h (j/e.a) l[j/e.a] (pX k);refine aw.f e d _ ?_;have r:j%e.a<e.a:=w6 _ c;have f:=Nat.div_add_mod j e.a;rw[Nat.mul_comm]at f;have p:(aS cs (off+j/e.a*e.a) e.a)[j%e.a]?=some (aS cs off (l.length*e.a))[j]:=by
  grind[pX,aS]
 grind
 have m:=(ea.1 g).1;have q:i*e.a+e.a<=l.length*e.a:=by rw[<-gw];exact eg _ m
 grind[Fg]
theorem Ug(j:0<e.a)(h:aw P (.aH e) w ok [v] l):∃k,nR P w ok e l v k:=by
 have⟨ad,cap,a,i,c⟩:=h;simp[List.cons.injEq,and_true]at a;obtain c| ⟨b,off,cs,T,fr,d,m,f,n,_,g⟩:=c;obtain rfl:l= []:=o2 (by omega);exact⟨[],_,_,a,⟨by simp,by simp,by simp⟩,by grind⟩;have:=eg e.a i;have:off+l.length*e.a<=cs.toList.length:=by simp;omega
 exact⟨_,_,_,a,BA j this g,.inr ⟨b,off,cs,T,fr,d,f,by simpa using this,rfl⟩⟩
theorem Pe(hE:al P E)(h:aD P w0 conc st a w)(A:0<e.a){b}{m:List e.b×W}(d:(gX E (.aH e) b).af st=some m)(j:bN P w conc (ae conc) b v):∃i,nR P w (ae conc) e m.1 v i:=by
 have⟨vs,l,n⟩:=Ca hE h d j;have fin:m.2= []->∃i,nR P w (ae conc) e m.1 v i:=λ h0=>by
  have:=(n [] (by simp[h0,aV])).2;rw[mT]at this;have y:=this.d
  match vs,y with| [u],_=>rw[show v=u from l];simp_all[Ug]
 cases b<;>simp[gX,RM.af]at d;case dj=>
  split at d;rename_i z;obtain⟨f,rfl,c,H,F,s,rfl⟩:=iQ h z d j;split at f;rename_i x g;cases f;obtain⟨t,rfl⟩:=kC g;cases t;obtain⟨_,⟨rfl,rfl⟩| ⟨B,off,cap,cs,U,o,C,p,D,q,r⟩⟩:=s;exact⟨[],_,0,rfl,⟨by simp,by simp,by simp⟩,by grind⟩;have G:=eL (fz (eg _ p) _) q;exact⟨_,_,_,o,BA A (by omega) r,by grind⟩;trivial;all_goals try(cases d;done)
  all_goals
   have⟨_,f⟩:=dE d;split at f;cases f;first|exact fin rfl| (rename_i g;have⟨k,_⟩:=kC g;cases k)
   cases f
 all_goals first| (cases d;done)| (cases d;exact fin rfl)| (split at d<;>cases d;exact fin rfl)
theorem Ec{a}(h:nR P w ok e l v a)(o:w'.heap=w.heap):(qn e.a l.length v).run P w'= .ok a.toArray w':=by
 have⟨ad,cap,f,g,i⟩:=h;subst f;obtain⟨rfl,rfl⟩| ⟨b,off,cs,T,fr,rfl,k,m,d⟩:=i
 cases ad with
 |none=>rfl
 |some ad=>simp[qn,loadCells,loadCellsFrom]
 refine run_firstCells_some (P:=P) w' e.a l.length ⟨b,off,none⟩ l.length cap a g.1 λ j v c=>?_;rw[qf];have:w'.cell? ⟨b,off+j,none⟩=cs[off+j]?:=sv w' b (off+j) cs T fr (by grind);rw[this];rw[<-d]at c;obtain⟨_,n⟩:=Ct c
 grind
theorem nR.b{b}(h:nR P w ok e l v b):(nf v).run P w= .ok l.length w:=by have⟨ad,cap,a,_⟩:=h;rw[a];rfl
theorem TW{T a ty:Nat}{i}(u:P.underlying T=some (.slice a))(k:P.info? a=some i)(n:i.size=e.a)(o:i.bytes<=32768)(p:i.zero=some (e.d (dM e))){m s x olds d ok'}(r:nR P w ok e l s olds)(c:nR P w ok' e m x d){ad cap}(t:s= .slice ad l.length cap)(A:cap<l.length+m.length)(b:l.length+m.length<=iZ):(hB #[T,T] ty #[s,x]).run P w= .ok (.slice (some ⟨w.heap.size,0,none⟩) (l.length+m.length) (jA w (l.length+m.length) cap a)) (w.drew.alloc (.cells (olds.toArray++ (d.toArray++hQ (e.d (dM e)).cells (jA w (l.length+m.length) cap a- (l.length+m.length)))) a)):=by
 have j:=Ec r (w':=w.drew) rfl;have h:=Ec c (w':=w.drew) rfl;have⟨y,z,v,_⟩:=c;unfold iZ at b;have q:¬(l.length+m.length<=cap):=by omega
 have g:¬(9223372036854775807< ((l.length:Int)+ (m.length:Int))):=by omega
 have f:¬(281474976710656<Builtin.nextslicecap (l.length+m.length) cap*i.bytes):=by
  have:=growslice_fits (need:=l.length+m.length) (old:=cap) (bytes:=i.bytes) (by omega) (by have:(l.length+m.length)*i.bytes<=4294967296*32768:=Nat.mul_le_mul b o;omega);omega
 subst t;subst v;simp[hB,dr u,ko,ht,k6,k,n,p,nf,q,g,f,Question.forced,j,h,newRow,jA]
theorem Kk{l m o n}(h:o+n<=l.length):aS (l++m) o n=aS l o n:=by grind[aS,eQ]
theorem NW{l m o n}(h:l.length<=o):aS (l++m) o n=aS m (o- l.length) n:=by grind[aS,sf,p8]
theorem gO.c{m vs us}(h:gO P w ok e l vs)(c:gO P w ok e m us):gO P w ok e (l++m) (vs++us):=by
 refine⟨by rw[fx,fx,h.1,c.1,jc],?_,λ i x b=>?_⟩;intro v a;rcases eH.1 a with a|a
 exact h.2.1 v a;exact c.2.1 v a;rw[ng]at b;split at b;rename_i d;rw[Kk];exact h.2.2 i x b;rw[h.1,<-gw];exact eg _ d;rename_i f;have g:l.length<=i:=by omega
 rw[NW (by rw[h.1];simp_all[eg]),h.1,<-Nat.sub_mul];exact c.2.2 _ x b
theorem gO.b{vs us}(h:gO P w ok e l vs):∀i x,l[i]?=some x->aw P e w ok (aS (vs++us) (i*e.a) e.a) x:=by intro i x a;have b:=(ea.1 a).1;rw[Kk];exact h.2.2 i x a;rw[h.1,<-gw];exact eg _ b
theorem Bg(o):cm w (w.drew.alloc o):=(cm.k w).l (cm.d _ o)
theorem E5(h:aD P w0 conc st a w){id cv d l' c c' st'}(i:conc id=some (cv,c,true))(n:cD st none ⟨some (d,⟨[],true,.v (.dj id (cv+1))⟩),[(id,(cv+1,.c8 e l'))]⟩=some st')(u:w'.os=w.os)(z:w'.tape=w.tape)(x:eW w w')(y:w.heap.size<=w'.heap.size)(p:∀b,b<w.heap.size->¬dB c b->w'.heap[b]?=w.heap[b]?)(j:∀b,dB c' b->(w.heap.size<=b\/dB c b)/\b<w'.heap.size)(t:eY c'=true)(m:∀f,fN (ae conc) w w'->cM w (ae conc) (ae f)->fS P w' f (ae f) c' true (.c8 e l')):cT P w0 st' (a.put (some d) c') w':=by have⟨C,k1,A,_⟩:=h.I (id:=id) (ver:=cv+1) (c:=c') (o:= .c8 e l') (w':=w') (λ D B F E=>by grind) u z x y (λ b g r=>p b g λ e=>r cv c i e) (λ b g=> ⟨(j b g).1.imp_right λ q=> ⟨cv,c,i,q⟩,(j b g).2⟩) (λ f _ _ k l _=>m f k l);exact nM (W0:= [(id,(cv+1,.c8 e _))]) (d:=some d) (s:= .v _) k1 n ⟨_,_,_,A,df _,t,λ _=>rfl⟩
end
section
variable[Dr]
variable{P:ef}{E:aq}{w0:bC}{w:eb}{conc:bf}{st:au}{a:np}
variable {e:Ty} {i:TypeInfo} {x:b2} {m:List e.b}
theorem Zg{T c ty:Nat}(q:P.underlying T=some (.slice c))(l:P.info? c=some i)(o:i.size=e.a){n cap b U:Nat}{cs a ok'}(j:w.heap[b]?=some (.cells cs U (0,0)))(h:nR P w ok' e m x a){off}(d:n+m.length<=cap)(p:off+cap*e.a<=cs.size):(hB #[T,T] ty #[.slice (some ⟨b,off,none⟩) n cap,x]).run P w= .ok (.slice (some ⟨b,off,none⟩) (n+m.length) cap) (w.setRow b (cs.toList.take (off+n*e.a)++a++cs.toList.drop (off+n*e.a+a.length)).toArray):=by
 have k:=Ec h (w':=w) rfl;have⟨t,u,s,f,_⟩:=h;have g:=tm P b (off+n*e.a) U a 0 cs w j (by rw[n3,f.1,hU,<-jc];exact eL (fz (eg _ d) _) p) (λ v r=>V7 (f.2.1 v r));simp[n3]at g;subst s;simp[hB,dr q,ko,ht,l,o,nf,d,k,qf,g]
theorem Om{T a ty:Nat}(h:P.underlying T=some (.slice a))(d:P.info? a=some i)(f:i.size=e.a){k ok'}(c:nR P w ok' e m x k)(g:m= []):(hB #[T,T] ty #[.slice none 0 0,x]).run P w= .ok (.slice none 0 0) w:=by have b:=Ec c (w':=w) rfl;have⟨l,n,j,o,_⟩:=c;subst g;subst j;simp[mr]at b⊢;simp[hB,dr h,ko,ht,d,f,nf,b]
theorem RR(a:0<e.a)(n):(hQ (e.d (dM e)).cells n).size=n* (e.d (dM e)).cells.size:=size_zeroCells _ _
theorem KC(t:Ty)(hp:0<t.a):(t.d (dM t)).cells.size=t.a:=by by_cases h:t.c=true;grind[dM,Ty.d,oj,Fi];cases t<;>first|rfl|exact absurd rfl h|cases hp
theorem aia(hE:al P E)(h:aD P w0 conc st a w){o:gE}{T d id cv:Nat}{s x l b}{m:List e.b×W}
 (aI:o.op= .call {callee:= .builtin .append,args:= #[s,x],argTypes:= #[T,T]}) (L:o.dst=some d) (hT:∃p,P.underlying T=some (.slice p)/\jy P p e) (aC:(c9 [] s).af st=some (.dj id cv))
 (az:Map.av st.b id=some (cv,.c8 e l)) (am:(c9 [] x).af st=some b) (av:(gX E (.aH e) b).af st=some m) (ar:l.length+en (α:=e.b) m.1<=iZ) {st':au}
 (K:cD st none ⟨some (d,⟨[],true,.v (.dj id (cv+1))⟩),[(id,(cv+1,.c8 e (l++m.1)))]⟩=some st'):cz P w0 o a w st':=by
 have⟨p,S,i,N,O,ap,aq,A⟩:=hT;obtain⟨c,aJ,C,J,rfl⟩:=sR h az (dQ h (cG _) aC);have⟨k,G⟩:=Pe hE h A av (dQ h (cG _) am);have ay:=G;have⟨_,_,_,F,_⟩:=ay;have I:∀v w',(hB #[T,T] o.type #[a.eval s,a.eval x]).run P w= .ok v w'->(eo a.eval o).run P w= .ok (.value v) w':=by
  simp_all[eo,nV,nH,pH,iA,mm,fb,k7,cr]
 obtain⟨aA,J⟩:=J;subst aA;have aa:∀{ad:Option Addr}{cap:Nat}{olds:List b2},a.eval s= .slice ad l.length cap->nR P w (ae conc) e l (a.eval s) olds->cap<l.length+en m.1->
  (∀r,ad.map (·.block)=some r->True)->(oi (a.eval s)=ad.map (·.block))->cz P w0 o a w st':=by
  intro ad cap olds aE ac ao _ aF;have t:=TW (ty:=o.type) S N O ap aq ac G aE ao ar;have aG:=s0 w (l.length+en m.1) cap p;have ab:=tc w (l.length+en m.1) cap p (by grind[l7,iZ]);refine cz.b (I _ _ t) ?_;rw[L];have⟨_,_,_,af,_⟩:=ac;have aB:=af.c F;refine E5 h (c:=a.eval s) C K rfl rfl ⟨rfl,λ _=>Nat.le_succ _⟩ (Bg _).f (λ u g _=>(Bg _).e u g) (λ u g=>?_) rfl (λ Y V X=>?_)
  cases g;simp;refine⟨rfl,.inr ⟨w.heap.size,0,_,_,_,by simp,l8 _ _,by grind,ab,?_,?_⟩⟩;simp only[rm,lA,RR A,KC e A,af.1,F.1];rw[<-jc,<-jc,hP]
  grind
  intro j y Q;rw[hP];have H:(olds.toArray++ (k.toArray++hQ (e.d (dM e)).cells (jA w (l.length+en m.1) cap p- (l.length+en m.1)))).toList=
   (olds++k)++ (hQ (e.d (dM e)).cells (jA w (l.length+en m.1) cap p- (l.length+en m.1))).toList:=by simp
  rw[H];refine(aB.b j y Q).b e (by omega) ?_;omega
 obtain⟨f,z⟩| ⟨r,off,cap,cs,U,f,z,aj,ak,B,Z⟩:=J
 subst z;by_cases aw:m.1= [];have t:=Om (ty:=o.type) S N O G aw;rw[<-f]at t;refine cz.b (I _ _ t) ?_;rw[L];refine E5 h (c:=a.eval s) C K rfl rfl ⟨rfl,λ _=>df _⟩ (df _) (λ _ _ _=>rfl) (λ u g=>?_) (by rw[f];rfl) (λ Y V X=> ⟨rfl,.inl ⟨f,by trivial⟩⟩);rw[f]at g;trivial;refine aa (olds:= []) f ⟨_,0,f,⟨by simp,by simp,by simp⟩,by grind⟩ ?_ (by grind) (by rw[f];rfl)
 grind
 by_cases R:l.length+en m.1<=cap;have t:=Zg (ty:=o.type) (n:=l.length) S N O z G R B;rw[<-f]at t;have an:=h.f id cv (a.eval s) r C (by rw[f];rfl);have ab:off+l.length*e.a+k.length<=cs.toList.length:=by
  have D:off+cap*e.a<=cs.toList.length:=by simpa using B
  refine eL ?_ D;rw[F.1,hU,<-jc];exact fz (eg _ R) _
 refine cz.b (I _ _ t) ?_;rw[L];refine E5 h (c:=a.eval s) C K rfl rfl ⟨rfl,λ _=>df _⟩ (by simp) (λ u g ax=>setRow_other w r u _ (λ q=>ax (by rw[f,q];rfl))) (λ u g=>?_) rfl (λ Y V X=>?_);cases g;exact⟨.inr (by rw[f];rfl),by simpa using an.2⟩;refine⟨rfl,.inr ⟨r,off,cap,_,U,by rw[fx],nL w r cs _ U (0,0) z,by rw[fx];exact R,ak,?_,?_⟩⟩;simp[lA,fx,ew,eQ];have D:off+cap*e.a<=cs.toList.length:=by simpa using B
 omega;intro j y Q;have h0:gO P w (ae conc) e l (aS cs.toList off (l.length*e.a)):=BA A (by omega) (λ i x M=>Z i x M);have H:cs.toList.take (off+l.length*e.a)=cs.toList.take off++aS cs.toList off (l.length*e.a):=by unfold aS;rw[List.take_add]
 have:=(h0.c F).b (us:=cs.toList.drop (off+l.length*e.a+k.length)) j y Q;have ah:(cs.toList.take off).length=off:=by rw[ew];omega
 have ai:aS (cs.toList.take (off+l.length*e.a)++k++cs.toList.drop (off+l.length*e.a+k.length)) (off+j*e.a) e.a=
  aS (aS cs.toList off (l.length*e.a)++k++cs.toList.drop (off+l.length*e.a+k.length)) (j*e.a) e.a:=by
  rw[H,hZ,hZ,NW (by rw[ah];omega),ah,Nat.add_sub_cancel_left,<-hZ]
 rw[<-ai]at this;exact this.b e V X;have ag:off+l.length*e.a<=cs.toList.length:=by
  have D:off+cap*e.a<=cs.toList.length:=by simpa using B
  exact eL (fz (eg _ aj) _) D
 refine aa f ⟨_,cap,f,BA A ag (λ i x M=>Z i x M),.inr ⟨r,off,cs,U,_,rfl,z,by simpa using ag,rfl⟩⟩ (by omega) (λ _ _=>trivial) (by rw[f];rfl)
end
section
variable[Dr]
variable{P:ef}{E:aq}{w0:bC}{w:eb}{conc:bf}{st:au}{a:np}
variable {x:dk} {t:Ty} {o:gE} {ad:dk} {s:bQ} {α:Type} {i:Int} {v:b2} {e:Ty} {b:aU} {d:t.b×W}
theorem UJ(hE:al P E)(h:aD P w0 conc st a w){T d:Nat}{s}{m:List e.b×W} (ab:o.op= .call {callee:= .builtin .append,args:= #[s,x],argTypes:= #[T,T]}) (r:o.dst=some d) (hT:E.b T=some (.aH e)) (S:(c9 [] s).af st=some .js) (k:(c9 [] x).af st=some b) (O:(gX E (.aH e) b).af st=some m) (Z:en (α:=e.b) m.1<=iZ) {u} {st'} (B:(iY d (.c8 e m.1) (.dj d) []).af st=some u) (q:cD st none u=some st'):cz P w0 o a w st':=by
 have⟨c,D,i,t,z,K,L,l⟩:=yo hE hT;have g:a.eval s= .slice none 0 0:=dQ h (cG _) S;have⟨F,n⟩:=Pe hE h l O (dQ h (cG _) k);have Q:=n;have⟨_,_,_,C,_⟩:=Q;have p:∀v w',(hB #[T,T] o.type #[a.eval s,a.eval x]).run P w= .ok v w'->(eo a.eval o).run P w= .ok (.value v) w':=by
  simp_all[eo,nV,nH,pH,iA,mm,fb,k7,cr]
 by_cases A:m.1= [];have f:=Om (ty:=o.type) D t z n A;rw[<-g]at f;refine cz.b (p _ _ f) ?_;rw[r];refine wv h (da.c P _ _ w) B q (cm.h w) (λ b k=>by rw[g]at k;trivial) (λ G V X Y=> ⟨rfl,by grind⟩)
  (λ G ver I=> ⟨_,_,_,I,df _,by rw[g];rfl,λ _=>rfl⟩);have ac:=List.length_pos_iff.2 A;have R:nR P w (ae conc) e [] (a.eval s) []:= ⟨none,0,g,⟨by simp,by simp,by simp⟩,.inl ⟨rfl,rfl⟩⟩;have f:=TW (ty:=o.type) D t z K L R n (ad:=none) (cap:=0) g (by omega) (by grind);simp only[mr,hP]at f;have J:=s0 w (en m.1) 0 c;have N:=tc w (en m.1) 0 c (by grind[l7,iZ]);refine cz.b (p _ _ f) ?_;rw[r];refine Jn (U:=c) (b:=w.heap.size) h (da.c P _ _ w) B q J N ?_ (Bg _) (df _) (l8 _ _) ?_;simp[rm,lA,RR l,KC e l,C.1,mr,hP];rw[<-jc];grind;intro j y M;have H:((#[]:Array b2)++ (F.toArray++hQ (e.d (dM e)).cells (jA w (en m.1) 0 c- en m.1))).toList=
  F++ (hQ (e.d (dM e)).cells (jA w (en m.1) 0 c- en m.1)).toList:=by simp
 rw[H];refine(C.b j y M).b e (cm.j (Bg _) _) ?_;intro b k aa
 grind[aV,mT]
theorem V3(hE:al P E)(h:aD P w0 conc st a w){T id cv off:Nat}{u cells l}(Q:o.op= .store T ad x)(z:o.dst=none) (hT:E.b T=some t) (r:(c9 [] ad).af st=some (.dx id cv off)) (e:(rd [] x).af st=some s) (A:s.a.af st=some l) (B:Map.av st.b id=some (cv,.eu u cells)) (h1:l.length=t.a) (h2:off+t.a<=cells.length) {st'} (y:cD st none ⟨none,[(id,(cv,.eu u (mU cells off l)))]⟩=some st'):cz P w0 o a w st':=by obtain⟨p,rfl,C⟩:=hE.b hT;have⟨c,S,M,q,b,d,J⟩:=sR h B (dQ h (cG _) r);obtain⟨rfl,H,cs,U,f,g,K,L,i⟩:=q;rw[d]at f;cases f;have⟨vs,D,F,j⟩:=Cg A (jJ h (cG _) e);have O:=j.b;have N:=i.b;have R:=Jm C (off:=off) g D F (by omega) (by grind);refine cz.c (w':=w.setRow b (cs.toList.take off++vs++cs.toList.drop (off+p.a.a)).toArray) ?_ ?_;simp_all[eo,cr];rw[z];refine BJ (W0:= []) h (da.c P conc st w) (id:=id) (cv:=cv) (c:=c) (by grind[aV,mT]) (by rw[d];rfl) y (λ I w' k m n G=>?_);rw[show aV []= []from rfl,mT]at k m n;subst G;refine⟨rfl,b,_,U,d,nL w b _ _ U _ g,?_,?_,?_⟩;grind[mU,fx,ew,eQ];grind;have:=(i.c off p.a.a j).e λ x v e=>bN.b m n k x e;grind[mU]
def lY:Nat->List Int->Int->Int->List Int|_,[],_,_=> []|j,x::r,i,d=>(bif decide (i=(j:Int))then d else x)::lY (j+1) r i d
def mg:Nat->List Int->Int->List Int->List Int|_,[],_,_=> []|j,x::r,n,l=>(bif decide ((j:Int)<n)then(l[j]?).getD x else x)::mg (j+1) r n l
theorem HW(k):∀z j i d,tO k j z i d=(lY j z i d).map (λ x=>aU.aE (.ay k) x)| [],_,_,_=>rfl|x::r,j,i,d=>by simp[tO,lY,fb,HW k r]
theorem Gm(k):∀z j n l,su k j z n l=(mg j z n l).map (λ x=>aU.aE (.ay k) x)| [],_,_,_=>rfl|x::r,j,n,l=>by simp[su,mg,fb,Gm k r]
theorem Ss:∀z j p d,lY j z ((j+p:Nat):Int) d=z.set p d
 | [],_,_,_=>rfl|x::r,j,0,d=>by
  have:∀r q,j<q->lY q r ((j+0:Nat):Int) d=r:=by
   intro r
   induction r with|nil=>intro q _;rfl|cons y r a=>grind[lY,decide,decide_eq_false]
  grind[lY,decide,decide_eq_true]|x::r,j,p+1,d=>by simp only[lY,q9];rw[show((j+ (p+1):Nat))=((j+1+p:Nat):Int)by omega,Ss r _ p d,(decide_eq_false (by omega))];rfl
theorem Kz:∀z j i d,(lY j z i d).length=z.length| [],_,_,_=>rfl|x::r,j,i,d=>by simp[lY,mb,Kz r]
theorem OQ:∀z j n l,(mg j z n l).length=z.length| [],_,_,_=>rfl|x::r,j,n,l=>by simp[mg,mb,OQ r]
theorem Nf:∀z j n l p,(mg j z n l)[p]?=(z[p]?).map λ x=>bif decide (((j+p:Nat):Int)<n)then(l[j+p]?).getD x else x
 | [],_,_,_,_=>rfl|x::r,j,n,l,0=>by rfl|x::r,j,n,l,p+1=>by simp only[mg,ml];rw[Nf r _ n l p,show j+1+p=j+ (p+1)by omega]
theorem Hl(k){ok}:∀l:List Int,bU (bN P w conc ok) (l.map λ x=>aU.aE (.ay k) x) (l.map (fu k))| []=>trivial|x::r=> ⟨⟨[.int k x],rfl,rfl⟩,Hl k r⟩
theorem ais{l:List α}{off n p v}(hp:p<n)(a:off+n<=l.length):l.take (off+p)++ [v]++l.drop (off+p+1)=l.take off++ ((l.drop off).take n).set p v++l.drop (off+n):=by apply ih;intro i;simp[ng,fx,ew,List.length_set,eQ,qq,gf,hM,List.getElem?_set];grind
theorem aad(hE:al P E)(h:aD P w0 conc st a w){T id cv off n:Nat}{k}{d:Int}{u cells z}(R:o.op= .store T ad x)(M:o.dst=none)
 (hT:E.b T=some (.ay k)) (J:(c9 [] ad).af st=some (.sd id cv off k n i)) (j:(rd [] x).af st=some (.v (.aE (.ay k) d))) (O:Map.av st.b id=some (cv,.eu u cells)) (X:(nU k n ((cells.drop off).take n)).af st=some z)
 (h2:off+n<=cells.length) {st'} (K:cD st none ⟨none,[(id,(cv,.eu u (mU cells off (tO k 0 z i d))))]⟩=some st'):cz P w0 o a w st':=by
 have⟨m,S,Q⟩:=hE.b hT;have⟨c,ao,ag,G,b,f,am,an,F⟩:=sR h O (dQ h (cG _) J);obtain⟨rfl,aa,cs,U,q,r,ac,af,g⟩:=G;rw[f]at q;cases q;obtain⟨us,l,Y⟩:∃us,a.eval x=(Ty.ay k).d us/\aw P (.ay k) w (ae conc) us d:=jJ h (cG _) j;have V:us= [.int k d]:=Y;subst V;have l:a.eval x= .int k d:=l;have ai:cells.length=cs.size:=by rw[g.b];rfl
 obtain⟨p,rfl⟩:∃p:Nat,i=(p:Int):= ⟨i.toNat,by omega⟩;have hp:p<n:=by omega
 have ak:m.a.a=1:=by rw[S];rfl
 have N:off+p+m.a.a<=cs.size:=by omega
 have s:=Jm Q (off:=off+p) (v:=a.eval x) (vs:= [.int k d]) r (by rw[l];rfl) (λ v e=>by simp at e;rw[e];rfl) (by grind) N;have⟨D,c2⟩:=wq n _ X ((g.f off).g n);have aj:((cs.toList.drop off).take n).set p (fu k d)=(lY 0 z (p:Int) d).map (fu k):=by
  rw[D,show((p:Int))=((0+p:Nat))by omega,Ss];simp
 have I:cs.toList.take (off+p)++ [fu k d]++cs.toList.drop (off+p+m.a.a)=cs.toList.take off++ (lY 0 z (p:Int) d).map (fu k)++cs.toList.drop (off+n):=by
  grind[ais,hz]
 rw[I]at s;refine cz.c (w':=w.setRow b (cs.toList.take off++ (lY 0 z p d).map (fu k)++cs.toList.drop (off+n)).toArray) ?_ ?_
 simp only[eo,R,F];rw[cr,show((p:Int)).toNat=p from rfl,s];rfl;rw[M];refine BJ (W0:= []) h (da.c P conc st w) (id:=id) (cv:=cv) (c:=c) (by grind[aV,mT]) (by rw[f];rfl) K (λ ab w' t A B Z=>?_);rw[show aV []= []from rfl,mT]at t A B;subst Z;have H:∀W(C:bf),bU (bN P W C (ae C)) (tO k 0 z (p:Int) d) ((lY 0 z (p:Int) d).map (fu k)):=λ W C=>by grind[HW,Hl]
 have ah:(tO k 0 z (p:Int) d).length=n:=by grind[HW,pt,Kz]
 refine⟨rfl,b,_,U,f,nL w b _ _ U _ r,?_,?_,?_⟩
 grind[mU,fx,ew,eQ]
 intro v e;simp only[eH]at e;obtain (e|e)|e:=e
 grind
 obtain⟨y,_,rfl⟩:=et.1 e;rfl
 grind
 have L:=g.e λ x v j=>bN.b A B t x j;have:=L.c off n (H _ _)
 grind[mU]
theorem YF{l l'}{x:α}(h:tD l i x=some l'):0<=i/\i.toNat<l.length/\l'=l.set i.toNat x:=by grind[tD]
theorem XU(hE:al P E)(h:aD P w0 conc st a w){T id cv:Nat}{l l' d}(af:o.op= .store T ad x)(J:o.dst=none) (hT:E.b T=some e) (G:(c9 [] ad).af st=some (.rD id cv e i)) (Q:(rd [] x).af st=some s) (L:(jd E e s).af st=some d) (N:Map.av st.b id=some (cv,.c8 e l)) (M:id∉aV d.2) (O:tD l i d.1=some l') {st'} (H:cD st none ⟨none,d.2++ [(id,(cv,.c8 e l'))]⟩=some st'):cz P w0 o a w st':=by
 obtain⟨f,rfl,v⟩:=hE.b hT;obtain⟨ai,R,rfl⟩:=YF O;have⟨c,ak,D,F,b,off,n,cap,r,_,ab⟩:=sR h N (dQ h (cG _) G);obtain⟨rfl,⟨k,m⟩| ⟨Y,aj,Z,cs,U,k,m,ac,B,ae,C⟩⟩:=F;grind;rw[r]at k;cases k;have⟨us,S,V⟩:=nO hE h L (jJ h (cG _) Q);have hp:=V (aV d.2) λ _ h=>h;have u:(off+i.toNat*f.a.a)+f.a.a<=cs.toList.length:=by
  have I:off+cap*f.a.a<=cs.toList.length:=by omega
  refine eL ?_ I;rw[hU,<-gw];exact fz (eg _ (by omega)) _
 have t:=Kw v.l hp.2;rw[<-S]at t;have ag:=Jm v (off:=off+i.toNat*f.a.a) m t (aw.f _ hp.2) hp.2.d (by omega);refine cz.c (w':=w.setRow b (cs.toList.take (off+i.toNat*f.a.a)++us++cs.toList.drop (off+i.toNat*f.a.a+f.a.a)).toArray) ?_ ?_;simp_all[eo,cr];rw[J];have K:bB conc (aV d.2) id=some (cv,c,true):=by simp[bB,D,M]
 refine BJ (W0:=d.2) h hp.1 (id:=id) (cv:=cv) (c:=c) K (by rw[r];rfl) H (λ aa w' am z A X=>?_);subst X;refine⟨rfl,.inr ⟨b,off,cap,_,U,by grind,nL w b cs _ U (0,0) m,by grind,B,?_,λ j y g=>?_⟩⟩;have ah:=hp.2.d;grind;by_cases p:i.toNat=j;subst p;rw[mn R]at g;cases g;rw[ON u hp.2.d];exact hp.2.b _ z A;rw[nc p]at g;have:aS (cs.toList.take (off+i.toNat*f.a.a)++us++cs.toList.drop (off+i.toNat*f.a.a+f.a.a)) (off+j*f.a.a) f.a.a=aS cs.toList (off+j*f.a.a) f.a.a:=by
  refine T4 u hp.2.d ?_;rcases r3 p with q|q
  right;rw[hU,<-gw];exact fz (eg _ q) _;left;rw[hU,<-gw];exact fz (eg _ q) _
 show aw P _ _ _ (aS (cs.toList.take _++us++cs.toList.drop _) _ _) _;rw[this];exact((C j y g).g _).b _ z A
def adJ(P:ef)(conc:bf)(st:au)(w:eb)(a:List Ty)(x:ax a)(vs:List b2)(l:W):=∀F,(∀id∈aV l,id∈F)->da P conc st w F l/\fe P w (ae (bB conc F)) a vs x
theorem kQ.c{d}(h:kQ P w (ae conc) t v d)(F):kQ P w (ae (bB conc F)) t v d:=by have⟨b,off,cs,T,fr,a,c,e,f,g⟩:=h;exact⟨b,_,_,T,_,a,sX w _ F b c (by grind),e,f,g.g F⟩
theorem V5{β:Type}{m}{f:α->β}{y}(h:m.map f=some y):∃x,m=some x/\y=f x:=by cases m with|none=>cases h|some x=>grind
theorem AQ(hE:al P E)(h:aD P w0 conc st a w){t b v d}(f:(qu E t b).af st=some d)(x:bN P w conc (ae conc) b v):∀F,(∀id∈aV d.2,id∈F)->da P conc st w F d.2/\kQ P w (ae (bB conc F)) t v d.1:=by
 have cast:∀{u:Ty}{y:u.b}{l:W},(RM.nS ((gN (t:=u) (t':=t) y).map λ d=>(d,l))).af st=some d->∃e:u=t,d=(e▸y,l):=λ h=>by obtain⟨z,O,rfl⟩:=V5 (RM.Ae h);obtain⟨e,rfl⟩:=kC O;exact⟨e,rfl⟩
 unfold qu at f;split at f;obtain⟨rfl,rfl⟩:=cast f;exact λ F _=> ⟨da.b,kQ.c x F⟩;rename_i id ver;simp[RM.af]at f;split at f;rename_i cv u cells o;obtain⟨s,rfl,c,T,A,⟨rfl,m,cs,U,k,n,B,C,r⟩,J,i,q⟩:=iQ h o f x;rw[k]at i;cases i;have⟨p,Q,H⟩:=RM.aI s;split at H;rename_i M;obtain⟨rfl,rfl⟩:=cast H;have⟨us,V,m1,m2,I⟩:=CY hE h u Q r C;rw[M]at I;cases V with
 |cons _ _=>exact I.elim|nil=>
  rw[k5]at m1;intro F D;have K:id∈F:=D id (by rw[jZ];exact fl _ (by simp[aV]));have⟨R,S⟩:=m2 F λ j L=>D j (by rw[jZ];exact fv _ L);have G:=HX h K A (b:=m) (by rw[k];rfl);have Y:=S.d;have X:aS cs.toList 0 u.a=us:=by unfold aS;rw[m1,s5,p7 (by omega)]
  have N:u.a<=cs.size:=by rw[<-hz,m1];omega
  exact⟨R.e (.g o A ⟨rfl,m,cs,U,_,k,G,n,N,by grind⟩),_,0,_,U,_,q,G,n,by omega,by grind⟩
 trivial;rename_i cv u y o;have⟨s,rfl,c,T,A,⟨_,m,cs,U,fr,k,n,B,C,r⟩,J,i,q⟩:=iQ h o f x;rw[k]at i;cases i;obtain⟨rfl,rfl⟩:=cast s;exact λ F _=> ⟨da.b,kQ.c ⟨m,0,cs,U,fr,q,n,B,by omega,r⟩ F⟩;cases f;cases f
theorem KW(hE:al P E)(h:aD P w0 conc st a w)(c:(EU E t s).af st=some d)(k:di P w conc (ae conc) s v):∃vs,v=t.d vs/\mO P conc st w t d.1 vs d.2:=by
 unfold EU at c;split at c
 iterate 2
  have⟨q,j,i⟩:=RM.aI c;cases i;have:=AQ hE h j k;exact⟨[v],rfl,λ F e=> ⟨(this F e).1,by have⟨b,off,cs,T,fr,f,g⟩:=(this F e).2;exact .inr ⟨_,rfl,b,off,cs,T,fr,by rw[f],g⟩⟩⟩
 grind[nO]
theorem DF(hE:al P E)(h:aD P w0 conc st a w):(d:List Ty)->{l:List bQ}->{vs:List b2}->{x:ax d×W}->(rl E d l).af st=some x->bU (di P w conc (ae conc)) l vs->adJ P conc st w d x.1 vs x.2| [],[],[],x,c,_=>by cases c;exact λ F _=> ⟨da.b,rfl⟩| [t],[s],[v],x,c,b=>by have⟨vs,g,f⟩:=KW hE h (t:=t) c b.1;exact λ F e=> ⟨(f F e).1,_,by rw[g],(f F e).2⟩|t::u::d,s::ss,v::vs,x,c,b=>by simp[rl]at c;have⟨p,j,o⟩:=RM.aI c;have⟨q,k,r⟩:=RM.aI o;cases r;have⟨us,g,f⟩:=KW hE h (t:=t) j b.1;have m:=DF hE h (u::d) k b.2;intro F e;have k1:=f F λ id n=>e id (by grind[jZ,fv]);have i:=m F λ id n=>e id (by grind[jZ,fl]);exact⟨k1.1.e i.1,_,_,by rw[g],k1.2,i.2⟩| [],_::_,_,x,c,_=>by trivial| [t],[],_,x,c,_=>by trivial| [t],_::_::_,_,x,c,_=>by trivial|t::u::d,[],_,x,c,_=>by trivial| [],[],_::_,_,_,b=>b.elim| [t],[s],[],_,_,b=>b.elim| [t],[s],_::_::_,_,_,b=>b.2.elim|t::u::d,s::ss,[],_,_,b=>b.elim
def NH(P:ef)(conc:bf)(st:au)(w:eb)(a:List Ty)(x:ax a)(vs:List b2)(l:W):=∀F,(∀id∈aV l,id∈F)->da P conc st w F l/\oO P w (ae (bB conc F)) a vs x
theorem Qr(hE:al P E)(h:aD P w0 conc st a w)(c:(Cn E t x).af st=some d):∀F,(∀id∈aV d.2,id∈F)->da P conc st w F d.2/\kQ P w (ae (bB conc F)) t (a.eval x) d.1:=by unfold Cn at c;have⟨b,e,f⟩:=RM.aI c;exact AQ hE h f (dQ h (cG _) e)
theorem GJ(hE:al P E)(h:aD P w0 conc st a w):(c:List Ty)->{xs:List dk}->{y:ax c×W}->(uD E c xs).af st=some y->NH P conc st w c y.1 (xs.map a.eval) y.2| [],[],y,b=>by cases b;exact λ F _=> ⟨da.b,rfl⟩| [t],[x],y,b=>by have:=Qr hE h (t:=t) b;exact λ F d=> ⟨(this F d).1,_,rfl,(this F d).2⟩|t::u::c,x::r,y,b=>by simp[uD]at b;have⟨p,f,l⟩:=RM.aI b;have⟨q,g,m⟩:=RM.aI l;cases m;have i:=Qr hE h (t:=t) f;have j:=GJ hE h (u::c) g;intro F d;have k1:=i F λ id k=>d id (by grind[jZ,fv]);have e:=j F λ id k=>d id (by grind[jZ,fl]);exact⟨k1.1.e e.1,_,_,rfl,k1.2,e.2⟩| [],_::_,y,b=>by trivial| [t],[],y,b=>by trivial| [t],_::_::_,y,b=>by trivial|t::u::c,[],y,b=>by trivial
end
section
variable[Dr]
variable{P:ef}{E:aq}{w0:bC}{w:eb}{conc:bf}{st:au}{a:np}
variable {T:Nat} {ok:Nat->Prop} {o:gE} {id:Nat} {u:Ty} {up:er} {x:dk} {b:Nat} {hi:Option dk} {k:eV} {es:List hq} {w':eb} {vs:List b2} {q:Ty} {e:hq} {l:List (q.b×u.b)} {n:q.b} {y:u.b}
theorem Uq(h:aD P w0 conc st a w){W0}(s:da P conc st w (aV W0) W0){cv c f ob st'}(l:bB conc (aV W0) id=some (cv,c,true))(z:dB c b)(k:cD st none ⟨none,W0++ [(id,(cv,f))]⟩=some st')(t:w'={w with heap:=w.heap.setIfInBounds b ob})(r:∀e,fU (bB conc (aV W0)) e->fN (ae (bB conc (aV W0))) w w'->cM w (ae (bB conc (aV W0))) (ae e)->fS P w' e (ae e) c true f):cT P w0 st' a w':=by
 obtain⟨conc1,rfl,j,x,y⟩:=wG h s;have⟨m,k1,_⟩:=j.I (id:=id) (ver:=cv) (c:=c) (o:=f) (w':=w') (λ v u C A=>by grind) (by grind) (by grind) (by rw[t];exact⟨rfl,by grind⟩) (by grind) (λ i g B=>by grind) (λ i g=> ⟨.inr ⟨cv,c,l,g⟩,by have:=(j.f id cv c i l g).2;grind⟩) (λ e n _ p q _=>r e n p q);refine⟨m,?_⟩;unfold cD at k;cases k;show aD P _ _ {N:=st.N,d:=st.d,a:=st.a,b:=eX _ (W0++ [(id,(cv,f))]),c:=st.c} a _;rw[DM];trivial
theorem Yj(h:aD P w0 conc st a w){d:Nat}{k}(m:o.op= .makeMap T none)(l:o.dst=some d){st'} (n:(iY d (.kB k u []) (.dj d) []).af st=some up) (f:cD st none up=some st'):cz P w0 o a w st':=by refine cz.b (v:= .map (some w.heap.size)) (w':=w.alloc (.map #[] 0)) (by simp[eo,m];rfl) ?_;rw[l];refine wv h (da.c P conc st w) n f (cm.d w _) (λ b g=>?_) (λ c p q r=>?_) (λ c ver j=>?_);cases g;simp;refine⟨rfl,w.heap.size,#[],0,rfl,Bq _,⟨by simp,by simp⟩,rfl,λ i x e s _=>?_⟩;trivial;exact⟨_,_,_,j,df _,rfl,λ _=>rfl⟩
theorem al5(es):vL es #[]=es:=by simp[vL]
theorem aoW(hE:al P E)(h:aD P w0 conc st a w){d:Nat}{k u x}{l:List (k.b×u.b)}(I:o.op= .range T x)(H:o.dst=some d)(hT:E.b T=some (.cO k u)){st'}(L:(c9 [] x).af st=some (.aE (.cO k u) l)) (J:(iY d (.it k u none l) (.dj d) []).af st=some up) (D:cD st none up=some st'):cz P w0 o a w st':=by
 have⟨K,V,C,_,_⟩:=Jc hE hT;have⟨vs,f,r⟩:=dQ h (cG _) L;have⟨m,es,clock,s,t,g,y,z,A⟩:=r;have f:a.eval x= .map (some m):=by rw[f,s];rfl
 have q:m<w.heap.size:=(ej.1 g).1;have c:cm w (w.alloc (.mapIter (some m) clock #[] clock)):=cm.d w _;refine cz.b (v:= .pointer (some ⟨w.heap.size,0,none⟩)) (w':=w.alloc (.mapIter (some m) clock #[] clock)) (by simp only[eo,I,f];rw[cr,run_range_map w T K V m es clock C g];rfl) ?_;rw[H];refine wv h (da.c P conc st w) J D c (λ b F=>?_) (λ n R B S=>?_) (λ n ver G=>?_);cases F;simp;have j:cM w (ae conc) (ae n):=(sX w conc _).b (df _) B;refine⟨rfl,w.heap.size,m,es,clock,clock,#[],clock,rfl,Bq _,j m t q,(c.e m q).trans g,y,df _,df _,by rw[al5];exact z,λ i x e hi p=>?_,by simp⟩;rw[al5]at p;have⟨⟨ks,M,N⟩,us,O,Q⟩:=A i x e hi p;exact⟨⟨_,M,N.b k (c.j _) j⟩,_,O,Q.b u (c.j _) j⟩;exact⟨_,_,_,G,df _,rfl,λ _=>rfl⟩
theorem XQ(k)(c:k.i=true){x}(h:aw P k w ok vs x):∀v∈vs,∀n,kq n v v=true:=by induction k generalizing vs with|aF a b d e=>simp[Ty.i,ee]at c;rw[<-fR a.a vs];exact λ v f=>(eH.1 f).elim (d c.1 h.1 v) (e c.2 h.2 v)|ay|aO|aJ=>grind[aw,j3,kq,beq_toListBytes]|_=>trivial
theorem aaN{k}(b:k.i=true){x}(h:aw P k w ok vs x):(q6 (k.d vs) (k.d vs)).run P w= .ok (k.d vs) w:=by
 have c:=XQ k b h;have:kq 10000 (k.d vs) (k.d vs)=true:=by
  unfold Ty.d;cases hp:k.c;have a:=h.d;rw[uI hp]at a
  match vs,a with
  | [v],_=>grind
  simp only[if_true,kq,beq_self_eq_true,Bool.true_and,kR];have:∀(l:List b2),(∀v∈l,∀n,kq n v v=true)->∀p∈l.zip l,kq 9999 p.1 p.2=true:=by
   intro l a
   induction l<;>simp_all
  grind
 simp_all[q6]
theorem aiz(h:kA P w ok q u l es){i ks us}(g:aw P q w ok ks n)(m:aw P u w ok us y)(b:e.key=q.d ks)(c:e.val=u.d us):kA P w ok q u (l.set i (n,y)) (es.set i e):=by refine⟨by simpa using h.1,λ j x f k d=>?_⟩;have a:=h.2 j x f;grind
theorem Za(h:kA P w ok q u l es){ks us}(i:aw P q w ok ks n)(m:aw P u w ok us y)(c:e.key=q.d ks)(d:e.val=u.d us):kA P w ok q u (l++ [(n,y)]) (es++ [e]):=by refine⟨by simp[h.1],λ j x f k g=>?_⟩;have a:=h.1;have b:=h.2 j x f;grind
theorem kA.c{ok' k l}(h:kA P w ok k u l es)(b:fN ok w w')(a:cM w ok ok'):kA P w' ok' k u l es:= ⟨h.1,λ i x e hi j=>by have⟨⟨ks,c,d⟩,us,f,g⟩:=h.2 i x e hi j;exact⟨⟨_,c,d.b k b a⟩,_,f,g.b u b a⟩⟩
theorem Ph{l}(h:l.all (λ p=>!ei p.1 id)=true):id∉aV l:=by intro a;have⟨p,hp,b⟩:=et.1 a;grind[kR,gF]
theorem ang{es c e}(h:x4 es c)(j:e.born=c:=by rfl):x4 (es.push e) (c+1):=by refine⟨?_,λ x d=>?_⟩;rw[rr,pv,fb,k7,n1];refine⟨h.1,by simp,λ a f b g=>?_⟩;obtain⟨y,i,rfl⟩:=et.1 f;have:=h.2 y i;simp at g;omega;rw[rr]at d;rcases eH.1 d with d|d;have:=h.2 x d;omega;simp at d;subst d;omega
theorem aoJ{es fs c i e f}(m:es[i]?=some e)(b:fs.toList=es.toList.set i f)(l:f.born=e.born)(h:x4 es c):x4 fs c:=by
 have n:es.toList[i]?=some e:=by simpa using m
 have d:(es.toList.set i f).map (·.born)=es.toList.map (·.born):=by
  rw[List.map_set,l];apply ih;intro j;by_cases q:i=j;subst q;have a:(es.toList.map (·.born))[i]?=some e.born:=by rw[hD,n];rfl
  rw[a];exact mn (ea.1 a).1;simp[nc q]
 refine⟨by rw[b,d];exact h.1,λ x g=>?_⟩;rw[b]at g;have:x.born∈es.toList.map (·.born):=by rw[<-d];exact et.2 ⟨x,g,rfl⟩
 have⟨y,o,k⟩:=et.1 this;rw[<-k];exact h.2 y o
theorem SE(hE:al P E)(h:aD P w0 conc st a w){m k}(aO:eo a.eval o=(do mo T (a.eval m) (a.eval k) (a.eval x);pure .skip))(an:o.dst=none){st'} (g:(BT E T m k x).af st=some up) (am:cD st none up=some st'):cz P w0 o a w st':=by
 unfold BT at g;split at g;rename_i q u hT;have⟨b,ah,g⟩:=RM.aI g;cases b<;>simp at g<;>try(cases g;done)
 rename_i id ver;have⟨n,ai,g⟩:=RM.aI g;have⟨s,aj,g⟩:=RM.aI g;have⟨d,ak,g⟩:=RM.aI g;simp[RM.af]at g;split at g;rename_i cv q' aa l aB;have⟨H,W⟩:=dE g;clear g;simp only[ee]at H;have:=cU H.1;subst this;split at W;rename_i aq;have⟨ar,av⟩:=aq;subst ar;subst av;cases W;have aA:=Ph H.2;have⟨K,V,R,t,_⟩:=Jc hE hT;obtain⟨c,aR,k1,⟨rfl,p,es,clock,B,C,O,aH,ab⟩,aN⟩:=sR h aB (dQ h (cG _) ah);have I:kA P w (ae conc) q' aa l es.toList:= ⟨by omega,λ i x e aC A=>ab i x e aC (by grind)⟩;have⟨us,Y,aF⟩:=nO hE h ak (jJ h (cG _) aj);have hp:=aF (aV d.2) λ _ h=>h;have ap:bB conc (aV d.2) id=some (cv,c,true):=by simp[bB,k1,aA]
 have⟨ks,aL,ay⟩:=KH hE h (cG _) ai;have z:aw P q' w (ae conc) ks n:=(ay []).e q' (Ey q' t.g);have U:=I.c (w':=w) (ok':=ae (bB conc (aV d.2))) ⟨df _,λ _ _ _=>rfl⟩ (sX w conc (aV d.2));have run:∀r,(mo T (.map (some p)) (q'.d ks) (a.eval x)).run P w= .ok () {w with heap:=w.heap.setIfInBounds p r}->
  (∀v w',fU (bB conc (aV d.2)) v->fN (ae (bB conc (aV d.2))) w w'->cM w (ae (bB conc (aV d.2))) (ae v)->w'={w with heap:=w.heap.setIfInBounds p r}->fS P w' v (ae v) c true (.kB q' aa (lz q'.f l n d.1)))->cz P w0 o a w st':=by
  intro r aP aJ;refine cz.c (w':={w with heap:=w.heap.setIfInBounds p r}) ?_ ?_;simp_all;rw[an];exact Uq (W0:=d.2) h hp.1 ap (by rw[B];rfl) am rfl (by grind)
 have aM:p<w.heap.size:=(ej.1 C).1;have X:∀r,({w with heap:=w.heap.setIfInBounds p r}:eb).heap[p]?=some r:=λ r=>by grind
 have Z:∀D c',(setObj p (.map D c')).run P w= .ok () {w with heap:=w.heap.setIfInBounds p (.map D c')}:=λ D c'=>by grind[setObj,vi]
 have S:(pz false 10000 K (q'.d ks)).run P w= .ok () w:=t.h w _ ks n _ z;rcases LZ t z I with⟨F,Q,G⟩| ⟨i,e,y,aE,F,Q,G,af,aI,ag⟩;refine run (.map (es.push {key:=q'.d ks,val:=a.eval x,born:=clock}) (clock+1)) ?_ ?_;simp[mo,cr,dr R,ep,C1 C,S,F,Z];intro v w' aG M N J;subst J;have:=(Za U (n:=n) (z.e q' (Ey q' t.g)) hp.2 (e:={key:=q'.d ks,val:=a.eval x,born:=clock}) rfl Y).c M N;rw[G];refine⟨rfl,_,_,_,B,X _,ang O,by grind,λ i y f L ao=>this.2 i y f L (by grind)⟩;have A:es[i]?=some e:=by grind
 have aK:i<es.size:=(ej.1 A).1;have⟨⟨aQ,ac,ad⟩,_⟩:=I.2 i (aE,y) e G Q;have ax:e.key=q'.d ks:=by rw[ac,XC _ t.g ad z af]
 refine run (.map (es.modify i λ f=>{f with key:=q'.d ks,val:=a.eval x}) clock) ?_ ?_;simp[mo,cr,dr R,ep,C1 C,S,F,A,gb,rH,ax,aaN t.g z,Z];intro v w' aG M N J;subst J;have:=(aiz U (i:=i) (n:=n) (z.e q' (Ey q' t.g)) hp.2 (e:={e with key:=q'.d ks,val:=a.eval x}) rfl Y).c M N;rw[ag];have az:(es.modify i λ f=>{f with key:=q'.d ks,val:=a.eval x}).toList=es.toList.set i {e with key:=q'.d ks,val:=a.eval x}:=by
  apply ih
  grind
 refine⟨rfl,_,_,_,B,X _,aoJ A az rfl O,by grind,λ j y f L ao=>this.2 j y f L (by grind)⟩;trivial;trivial
 trivial
theorem aga(hE:al P E)(h:aD P w0 conc st a w){d cv:Nat}{e lo l z p q} (K:o.op= .slice T x lo hi none) (G:o.dst=some d) (hT:E.b T=some (.aH e)) (M:(c9 [] x).af st=some (.dj id cv)) (J:Map.av st.b id=some (cv,.c8 e l)) (hp:(lr [] 0 lo).af st=some p) (L:(lr [] (en l:Nat) hi).af st=some q) (O:iB l p q=some z) {st'} (D:cD st none ⟨some (d,⟨[],true,.v (.dj id (cv+1))⟩),[(id,(cv+1,.c8 e z))]⟩=some st'):cz P w0 o a w st':=by
 obtain⟨k1,Q,R,rfl⟩:=FO O;have⟨W,af,i,Z,aa⟩:=Bm hE hT;obtain⟨c,ag,r,⟨rfl,B⟩,rfl⟩:=sR h J (dQ h (cG _) M);have I:((l.take q.toNat).drop p.toNat).length=q.toNat- p.toNat:=by grind
 have fin:∀ad cap,a.eval x= .slice ad l.length cap->l.length<=cap->(∀f,fN (ae conc) w w->cM w (ae conc) (ae f)->fS P w f (ae f) (.slice (if cap=p.toNat then ad else ad.map (·.add (p.toNat*e.a))) (q.toNat- p.toNat) (cap- p.toNat)) true (.c8 e ((l.take q.toNat).drop p.toNat)))->(∀b,oi (.slice (if cap=p.toNat then ad else ad.map (·.add (p.toNat*e.a))) (q.toNat- p.toNat) (cap- p.toNat))=some b->dB (a.eval x) b)->cz P w0 o a w st':=by
  intro ad cap N F C s;have g:=Dl (P:=P) (w:=w) h (cG _) (b:=true) F hp L k1 Q R;refine cz.b (v:= .slice (if cap=p.toNat then ad else ad.map (·.add (p.toNat*e.a))) (q.toNat- p.toNat) (cap- p.toNat)) (w':=w) ?_ ?_
  simp only[eo,K,hN];rw[cr,Fb hE hT (by grind),N];simp_all[o0,cr,dr,ep,ko,ht,kL];rw[G];refine E5 h (c:=a.eval x) r D rfl rfl ⟨rfl,by omega⟩ (df _) (λ _ _ _=>rfl) (λ b g=> ⟨.inr (s b g),(h.f _ _ _ b r (s b g)).2⟩) rfl C
 obtain⟨m,n⟩| ⟨t,off,cap,cs,U,m,n,u,X,Y,A⟩:=B
 ·subst n;have ab:p.toNat=0:=by grind
  have ac:q.toNat=0:=by grind
  refine fin none 0 m (df _) (λ f _ _=> ⟨rfl,.inl ⟨?_,by simp⟩⟩) (λ b g=>?_)
  all_goals grind
 ·refine fin _ cap m u (λ f S V=> ⟨rfl,.inr ⟨t,if cap=p.toNat then off else off+p.toNat*e.a,cap- p.toNat,cs,U,?_,n,by omega,by omega,?_,λ j y k=>?_⟩⟩) (λ b g=>?_)
  grind[qf]
  split
  grind
  have:p.toNat*e.a+ (cap- p.toNat)*e.a=cap*e.a:=by
   rw[<-jc];grind
  omega;have H:j< ((l.take q.toNat).drop p.toNat).length:=(ea.1 k).1;rw[I]at H;rw[if_neg (by omega)];rw[hM,gf]at k;split at k;have:=A _ y k;rw[jc,<-hU]at this;exact this.b e S V;omega
  grind[oi,qf]
theorem TA(h:aD P w0 conc st a w){m c:Nat}(o:P.underlying T=some (.array m c))(f:jy P c (.ay k)){y}(g:(lr [] (m:Int) hi).af st=some y)(e:kZ y m=some ()){off}:(lB T (.pointer (some ⟨b,off,none⟩)) none (hi.map a.eval) none).run P w= .ok (.slice (some ⟨b,off,none⟩) y.toNat m) w:=by
 unfold kZ at e;split at e;rename_i d;have j:=Dl (P:=P) (w:=w) h (cG _) (b:=false) (lo:=none) (x:=0) (df m) (by rfl) g (Int.le_refl 0) d.1 d.2;obtain⟨i,l,n,_⟩:=f;simp_all[lB,cr,dr,ep,mA,hN,ko,ht,x1];trivial
theorem abg{off m y cs T fr}{z:List Int}(c:ok b)(d:w.heap[b]?=some (.cells cs T fr))(h:off+m<=cs.size) (l:(cs.toList.drop off).take m=z.map (fu k)) (g:z.length=m) (j:y<=m) (f:m<=999):aw P (.aH (.ay k)) w ok [.slice (some ⟨b,off,none⟩) y m] (z.take y):=by
 refine⟨some ⟨b,off,none⟩,m,by grind,by grind,.inr ⟨b,off,cs,T,fr,rfl,c,d,?_,.inr (by unfold l7;omega),λ i x hi=>?_⟩⟩;grind[ew,Ty.a];have e:i<y:=by grind
 rw[gf,if_pos e]at hi;have a:((cs.toList.drop off).take m)[i]?=some (fu k x):=by grind
 rw[gf,if_pos (by omega),hM]at a;show aS _ _ _= [.int k x];grind[ea,aS,Ty.a,hh]
theorem Qm(hE:al P E)(h:aD P w0 conc st a w){d cv off m g:Nat}{y} (M:o.op= .slice T x none hi none) (H:o.dst=some d) (Q:P.underlying T=some (.array m g)) (I:jy P g (.ay k)) (S:(c9 [] x).af st=some (.dx id cv off)) (V:(lr [] (m:Int) hi).af st=some y) (O:kZ y m=some ()) (ae:1<=m) {ob} (L:Map.av st.b id=some (cv,ob)) {st'} (f:(EV E d k m y u id cv off).af st=some up) (D:cD st none up=some st'):cz P w0 o a w st':=by
 unfold EV at f;have⟨p,B,f⟩:=RM.aI f;have⟨z,C,f⟩:=RM.aI f;have j:k8 m 999=true:=by cases e:k8 m 999 with|true=>rfl|false=>rw[e]at f;cases f
 rw[j]at f;cases f;have⟨ab,c,ag,l,ai,aj,X⟩:=dQ h (cG _) S;have⟨c2,ah,i,ac⟩:=pW h L;rw[i]at l;cases l;obtain⟨b,rfl,R⟩:=X rfl;have F:=AQ hE h B (v:= .pointer (some ⟨b,0,none⟩)) ⟨cv,_,_,i,df _,rfl,λ _=> ⟨b,rfl,rfl⟩⟩ (aV p.2) λ _ h=>h;have⟨A,aa,af,cs,U,fr,n,q,r,s,t⟩:=F;cases n;have N:=Al (P:=P) (conc:=conc) u t;rw[hP]at s;have⟨Y,Z⟩:=wq m _ C ((N.f off).g m);have G:aS cs.toList 0 u.a=cs.toList.take u.a:=rfl;rw[G]at Y;have K:m<=((cs.toList.take u.a).drop off).length:=by grind[en,ew,eQ,pt]
 simp[ew,eQ,hz]at K;have J:off+m<=cs.size:=by omega
 have ad:0<=y/\y<=(m:Int):=by grind[kZ]
 have W:(cs.toList.drop off).take m=z.map (fu k):=by grind[lf]
 refine cz.b (v:= .slice (some ⟨b,off,none⟩) y.toNat m) (w':=w) ?_ ?_;simp only[eo,M,hN,R];rw[cr,TA h Q I V O];rfl;rw[H];obtain⟨conc1,rfl,k1,_,_⟩:=wG h A;exact nM (W0:=p.2) k1 D ⟨_,rfl,abg q r J W Z (by omega) (q0 j)⟩
theorem aiI(hE:al P E)(h:aD P w0 conc st a w){o:gE}{T d id ver off:Nat}{i x hi} (z:o.op= .slice T x none hi none) (s:o.dst=some d) (hT:Map.av E.G T=some i) (B:(c9 [] x).af st=some (.dx id ver off)) {up} {st'} (e:(IT E d i hi id ver off).af st=some up) (q:cD st none up=some st'):cz P w0 o a w st':=by
 unfold IT at e;split at e;rename_i k m f;have⟨K,L,M,J,A,t,_⟩:=D7 (hE.g T i hT) f;have G:1<=m:=by
  unfold eZ.d at f;split at f;rename_i k' m' _ F;cases r:ei i.b m' with|true=>rw[r]at f;cases f;exact Hy _ F|false=>rw[r]at f;cases f
  cases f
 have⟨y,C,e⟩:=RM.aI e;have⟨⟨⟩,g,e⟩:=RM.iV e;simp[RM.af]at e;split at e;rename_i cv u cells j;have⟨n,e⟩:=dE e;have:=cU n;subst this;cases p:yi E.N d with
 |false=>
  rw[p]at e;exact Qm hE h z s A t B C g G j e q|true=>
  rw[p]at e;have⟨Q,e⟩:=dE e;cases e;have⟨N,c,S,D,V,W,I⟩:=dQ h (cG _) B;have⟨c2,U,l,O⟩:=pW h j;rw[l]at D;cases D;obtain⟨b,rfl,H⟩:=I rfl;have R:0<=y/\y<=(m:Int):=by
   unfold kZ at g;split at g;assumption;cases g
  refine cz.b (v:= .slice (some ⟨b,off,none⟩) y.toNat m) (w':=w) ?_ ?_;simp only[eo,z,hN,H];rw[cr,TA h A t C g];rfl;rw[s];exact nM (W0:= []) h q ⟨_,_,_,l,df _,rfl,by grind⟩
 rename_i cv u dd j;have⟨n,e⟩:=dE e;grind[cU,Qm];trivial;trivial
theorem Xk{z l m}(h0:0<=m)(h1:m.toNat<=z.length):mg 0 z m l=l.take m.toNat++z.drop (min m.toNat l.length):=by apply ih;intro i;rw[Nf,ng,ew];grind
theorem Uy{α:Type}{a:List α}{off n p q b}(h:(a.drop off).take n=b)(hp:p<=n):a.take off++q++a.drop (off+p)=a.take off++ (q++b.drop p)++a.drop (off+n):=by
 have:a.drop (off+p)=b.drop p++a.drop (off+n):=by grind[lf,nb,fR]
 grind
theorem Ur{T m n b off:Nat}{k}(hT:∃d,P.underlying T=some (.slice d)/\jy P d (.ay k)){c U}(p:w.heap[b]?=some (.cells c U (0,0)))(N:off+n<=c.size)(R:m<=n)
 {z l:List Int} (K:(c.toList.drop off).take n=z.map (fu k)) (Q:z.length=n) {ok} {v:b2} (h:aw P (.aH (.ay k)) w ok [v] l) {S ty:pc}:
 (Builtin.copy_ #[T,S] ty #[.slice (some ⟨b,off,none⟩) m n,v]).run P w=
  .ok (.int .i64 (min m l.length:Nat)) (w.setRow b (c.toList.take off++ (mg 0 z m l).map (fu k)++c.toList.drop (off+n)).toArray):=by
 have⟨d,u,i,G,H,_⟩:=hT;have⟨a,cap,A,M,B⟩:=h;cases A;have t:(P.info? d).map (·.size)=some 1:=by rw[G,gb,H];rfl
 have F:mg 0 z (m:Int) l=l.take m++z.drop (min m l.length):=by
  grind[Xk]
 have I:∀q,c.toList.take off++q.map (fu k)++c.toList.drop (off+min m l.length)=c.toList.take off++ (q++z.drop (min m l.length)).map (fu k)++c.toList.drop (off+n):=by
  intro q;rw[Uy K (by omega),pv,<-List.map_drop]
 rw[F,<-I];by_cases h0:min m l.length=0
 rw[run_copy_none w T S _ _ _ a m n l.length _ u t (by grind),h0];have J:l.take m= []:=by
  simp_all
 rw[J];simp only[k7,k5,n3,fR,gk];rw[setRow_self w b _ U _ p];rfl;obtain rfl| ⟨y,o,cs,L,fr,rfl,_,C,D,_,E⟩:=B
 grind
 have g:((l.take m).map (fu k)).length=min m l.length:=by simp
 rw[run_copy_row P w T S ty d b off m n ⟨y,o,none⟩ l.length cap c U ((l.take m).map (fu k)) u t p (by rw[g];exact Nat.min_comm _ _) ?_ (by rw[g];omega) ?_,g];rfl;intro j v r;rw[hD,kp]at r;obtain⟨x,f,rfl⟩:=r;rw[gf]at f;split at f;have O:=(ea.1 f).1;have e:aS cs.toList (o+j* (Ty.ay k).a) (Ty.ay k).a= [.int k x]:=E j x f;simp[Ty.a,Nat.mul_one]at e D;have s:o+j<cs.size:=by omega
 rw[qf];simp only[World.cell?,C];unfold aS at e;rw[hh (by simpa using s)]at e;simp at e;rw[hg s,e];rfl;cases f;intro v h;obtain⟨x,_,rfl⟩:=et.1 h;rfl
theorem aft(hE:al P E)(h:aD P w0 conc st a w){o:gE}{T S:Nat}{x y:dk}(ac:o.op= .call {callee:= .builtin .copy,args:= #[x,y],argTypes:= #[T,S]})
 {up:er} {st':au} (e:(Iv E T o.dst x y).af st=some up) (A:cD st none up=some st'):cz P w0 o a w st':=by
 unfold Iv at e;have⟨ao,j,e⟩:=RM.aI e;split at e
 rename_i id ver off k n m;have⟨ap,aj,e⟩:=RM.aI e;split at e;rename_i k' l;simp[RM.af]at e;split at e;rename_i cv u cells aa;have⟨i,ad⟩:=dE e;clear e;simp only[ee]at i;have J:=cU i.1;subst J;have⟨⟨rfl,hT⟩,af⟩:=jN ad;have⟨z,O,ag⟩:=RM.aI af;cases ag;have aw:off+n<=cells.length:=by simpa using i.2
 have⟨aF,ai,ab⟩:=hE.b hT;have B:=ab.g;rw[ai]at B;have⟨c,aB,t,N⟩:=pW h aa;have⟨ar,c',aC,k1,_,_,ak⟩:=dQ h (cG _) j;rw[t]at k1;cases k1;obtain⟨b,rfl,az,aA,K⟩:=ak rfl;obtain⟨rfl,an,cs,U,L,r,av,M,g⟩:=N;cases L;have⟨us,q,D⟩:=dQ h (cG _) aj;obtain⟨v,rfl⟩:∃v,us= [v]:=by
  have⟨_,_,Q,_⟩:=D;exact⟨_,Q⟩
 have q:a.eval y=v:=q;subst q;have ax:cells.length=cs.size:=by rw[g.b];exact hz
 have⟨I,c2⟩:=wq n _ O ((g.f off).g n);obtain⟨p,rfl⟩:∃p:Nat,m=(p:Int):= ⟨m.toNat,by omega⟩;have ah:=Ur (P:=P) (ty:=o.type) (S:=S) B r (by omega) (show p<=n by omega) I c2 D;have⟨conc1,Z⟩:=BJ (W0:= []) (st':={st with b:=eX st.b [(id,(cv,.eu u (mU cells off (su k' 0 z (p:Int) l))))]}) h (da.c P conc st w) (id:=id) (cv:=cv) (c:= .pointer (some ⟨b,0,none⟩))
  (by rw[show aV []= []from rfl,mT];exact t) (b:=b) rfl rfl (cs':=(cs.toList.take off++ (mg 0 z (p:Int) l).map (fu k')++cs.toList.drop (off+n)).toArray) (λ aq w' F G H am=>by
   rw[show aV []= []from rfl,mT]at F G H;subst am;have R:∀W(C:bf),bU (bN P W C (ae C)) (su k' 0 z (p:Int) l) ((mg 0 z (p:Int) l).map (fu k')):=λ W C=>by grind[Gm,Hl]
   have Y:(su k' 0 z (p:Int) l).length=n:=by grind[Gm,pt,OQ]
   refine⟨rfl,b,_,U,rfl,nL w b _ _ U _ r,?_,?_,?_⟩
   grind[mU,fx,ew,eQ]
   intro v f;simp only[eH]at f;obtain (f|f)|f:=f
   grind
   obtain⟨y,_,rfl⟩:=et.1 f;rfl;exact M v (mZ f);have V:=g.e λ x v j=>bN.b G H F x j;have:=V.c off n (R _ _);unfold mU;rw[Y];simpa using this)
 refine cz.b (v:= .int .i64 (min p l.length:Nat)) (w':=w.setRow b (cs.toList.take off++ (mg 0 z (p:Int) l).map (fu k')++cs.toList.drop (off+n)).toArray) ?_ ?_;simp only[eo,ac,nV,nH,pH,iA,mm,fb,k7,K];rw[cr,show((p:Int)).toNat=p from rfl,ah];rfl;refine nM (W0:= [(id,(cv,.eu u (mU cells off (su k' 0 z (p:Int) l))))]) (d:=o.dst) (s:= .v (.aE (.ay .i64) (bu (p:Int) (en l:Nat)))) (conc1:=conc1) Z ?_ ⟨[.int .i64 (min p l.length:Nat)],rfl,?_⟩;cases X:o.dst<;>rw[X]at A<;>exact A
 show[_]= [_]
 congr 2
 unfold bu;split<;>omega
 cases e;cases e;cases e
end
section
variable[Dr]
variable{P:ef}{E:aq}{w0:bC}{w:eb}{conc:bf}{st:au}{a:np}
variable {ok:Nat->Prop} {w':eb} {n:Nat} {o:gE} {v:b2} {f:Nat} {e:Ty} {ts:List Ty} {L:List (Nat×Bool)} {q:(Bool×bQ)×W} {l:List e.b} {r:ax ts}
theorem Hk(d:lE P f)(args):(xM f args).run P w= .ok (.enter f args) w:=by have⟨fn,a,b,c⟩:=d;have hp:∀k:ef->Sem Next,(program>>=k).run P w=(k P).run P w:=λ k=>rfl;unfold xM;rw[hp];simp only[a,b,c,kg,if_false];rfl
theorem E1{f args tys}(d:o.op= .call {callee:= .value f,args:=args,argTypes:=tys}){fid:Nat}{first cap}(c:a.eval f= .func (.func fid) first cap)(b:lE P fid):(eo a.eval o).run P w= .ok (.enter fid (first++args.map a.eval++cap)) w:=by grind[eo,nV,Deferred.ofValue,nH,Hk]
theorem an1{f name args tys}(h:o.op= .call {callee:= .invoke f name,args:=args,argTypes:=tys}){t fid:Nat}{u} (d:a.eval f= .iface t u) (g:(method (P.types.size+q8) t u name).run P w= .ok (fid,u) w) (c:lE P fid):(eo a.eval o).run P w= .ok (.enter fid (#[u]++args.map a.eval)) w:=by
 have e:∀y ys,nH (.fn (.method name) #[]) (#[y]++ys)=callMethod y name ys:=λ y ys=>by
  have h0:(#[y]++ys)[0]?=some y:=by rw[Array.getElem?_append_left (by simp)];rfl
  have b:(#[y]++ys).extract 1 (#[y]++ys).size=ys:=by apply lb;simp
  show(match(#[y]++ys)[0]? with|some recv=>callMethod recv name ((#[y]++ys).extract 1 (#[y]++ys).size)|_=>stuck _)=_;rw[h0,b]
 unfold eo;rw[h];show(nH (.fn (.method name) #[]) (#[a.eval f]++args.map a.eval)).run P w=_;rw[d,e];show(method (P.types.size+q8) t u name>>=λ q=>xM q.1 (#[q.2]++args.map a.eval)).run P w=_;rw[cr,g];exact Hk c _
theorem iL.b{ok'}(d:fN ok w w')(c:cM w ok ok'):(ts:List Ty)->{v:b2}->{r:ax ts}->iL P w ok ts v r->iL P w' ok' ts v r| [],v,r,h=>h| [t],v,r,⟨cs,a,b⟩=> ⟨cs,a,b.b t d c⟩|t::u::ts,v,r,⟨vs,a,b⟩=> ⟨vs,a,CJ d c (t::u::ts) b⟩
where
 CJ {w':eb} {ok ok':Nat->Prop} (d:fN ok w w') (c:cM w ok ok'):(ts:List Ty)->{vs:List b2}->{x:ax ts}->fe P w ok ts vs x->fe P w' ok' ts vs x
  | [],vs,x,h=>h
  | [t],vs,x,⟨cs,a,b⟩=> ⟨cs,a,b.b t d c⟩
  |t::u::ts,vs,x,⟨cs,r,a,b,h3⟩=> ⟨cs,r,a,b.b t d c,CJ d c (u::ts) h3⟩
theorem iL.c{ok'}:(ts:List Ty)->ts.all Ty.h=true->{v:b2}->{r:ax ts}->iL P w ok ts v r->iL P w' ok' ts v r| [],_,v,r,h=>h| [t],c,v,r,⟨cs,a,b⟩=> ⟨cs,a,b.e t (by grind)⟩|t::u::ts,c,v,r,⟨vs,a,b⟩=> ⟨vs,a,O0 (t::u::ts) c b⟩
where
 O0 {w':eb} {ok ok':Nat->Prop}:(ts:List Ty)->ts.all Ty.h=true->{vs:List b2}->{x:ax ts}->fe P w ok ts vs x->fe P w' ok' ts vs x
  | [],_,vs,x,h=>h
  | [t],c,vs,x,⟨cs,a,b⟩=> ⟨cs,a,b.e t (by grind)⟩
  |t::u::ts,c,vs,x,⟨cs,r,a,b,h3⟩=>by
   simp only[List.all_cons,ee]at c;exact⟨_,r,a,b.e t c.1,O0 _ (by grind) h3⟩
theorem HA:(ts:List Ty)->{vs:List b2}->{x:ax ts}->fe P w ok ts vs x->bU (bN P w conc ok) (mh ts x) vs| [],vs,x,h=>by cases h;trivial| [t],vs,x,⟨cs,a,b⟩=>by subst a;exact⟨⟨_,rfl,b⟩,trivial⟩|t::u::ts,vs,x,⟨cs,r,a,b,h3⟩=>by subst a;exact⟨⟨_,rfl,b⟩,HA _ h3⟩
theorem OY:(ts:List Ty)->{v:b2}->{r:ax ts}->iL P w ok ts v r->di P w conc ok (oE ts r) v| [],v,r,h=> ⟨[],h,trivial⟩| [t],v,r,⟨cs,a,b⟩=> ⟨cs,a,b⟩|t::u::ts,v,r,⟨vs,a,b⟩=> ⟨vs,a,HA (t::u::ts) b⟩
structure Gg(P:ef)(conc:bf)(st:au)(a:np)(w:eb)(o:gE)(q:(Bool×bQ)×W):Prop where
 d:da P conc st w (aV q.2) q.2
 c:∃fid args,(eo a.eval o).run P w= .ok (.enter fid args) w/\qi P fid args w λ e w'=>∃v,e= .returned v/\cm w w'/\
  di P w' (bB conc (aV q.2)) (ae (bB conc (aV q.2))) q.1.2 v/\
  (q.1.1=true->(∀e l,q.1.2= .v (.aE (.aH e) l)->rj P w.heap.size w' (ft (ae (bB conc (aV q.2))) w) e v l)/\
   ∀a b x,q.1.2= .v (.aE (.aF a b) x)->yr P w.heap.size w' (ft (ae (bB conc (aV q.2))) w) (.aF a b) v x)
theorem KQ{F}(h:aD P w0 conc st a w):cM w' (ft (ae (bB conc F)) w) (ae (bB conc F)):=by
 intro b d _;obtain d|d:=d
 omega;refine⟨by show conc.B b;rw[h.u];exact h.F b (eL h.e.d d),λ id ver c f e=>?_⟩;have:=(h.f id ver c b (Aq f).1 e).2;omega
theorem rj.b{ok'}(m:e.h=true)(h:rj P n w ok e v l):rj P n w ok' e v l:=by
 obtain h| ⟨b,off,cap,cs,T,a,c,d,f,g,j,k⟩:=h;exact .inl h;exact .inr ⟨b,_,_,_,T,a,c,d,f,g,j,λ i x o=>(k i x o).e e m⟩
theorem Ng:(ts:List Ty)->(r:ax ts)->{e:Ty}->{l:List e.b}->oE ts r= .v (.aE (.aH e) l)->ts= [.aH e]/\HEq r l| [],r,e,l,h=>by cases h| [t],r,e,l,h=>by grind[oE,bQ.v.injEq,aU.aE.injEq]|t::u::ts,r,e,l,h=>by cases h
theorem YB(b:oE ts r= .v (.aE (.aH e) l))(h:kz P n w ok ts v r):rj P n w ok e v l:=by obtain⟨rfl,a⟩:=Ng ts r b;cases a;exact h
theorem O1:(ts:List Ty)->(r:ax ts)->{a b:Ty}->{x:(Ty.aF a b).b}->oE ts r= .v (.aE (.aF a b) x)->ts= [.aF a b]/\HEq r x| [],r,a,b,x,h=>by cases h| [t],r,a,b,x,h=>by grind[oE,bQ.v.injEq,aU.aE.injEq]|t::u::ts,r,a,b,x,h=>by cases h
theorem Vo{a b x}(d:oE ts r= .v (.aE (.aF a b) x))(h:kz P n w ok ts v r):yr P n w ok (.aF a b) v x:=by obtain⟨rfl,c⟩:=O1 ts r d;cases c;exact h
theorem kP.c{ok'}(t)(e:t.h=true){vs d c}(h:kP P n w ok t vs d c):kP P n w ok' t vs d c:=by induction t generalizing vs c with
 |aF a b j k=>simp[Ty.h,ee]at e;have⟨l,m,f,g,i⟩:=h;exact⟨_,_,f,j e.1 g,k e.2 i⟩|_=>trivial
theorem acZ{ok'}:(c:List Ty)->{r:ax c}->{v:b2}->(c.all Ty.h=true\/zz c=true)->kz P n w' ok c v r->∀a b x,oE c r= .v (.aE (.aF a b) x)->yr P n w' ok' (.aF a b) v x:=by
 intro c r v e j a b x k;obtain⟨rfl,d⟩:=O1 c r k;cases d;obtain e|e:=e
 obtain⟨vs,l,f,d,g,h,i⟩:=j;exact⟨_,_,f,d,g,h,i.c _ (by grind)⟩;trivial
theorem agr(h:aD P w0 conc st a w):(f:List Ty)->{r:ax f}->{v:b2}->zz f=true->kz P w.heap.size w' ok f v r->di P w' conc (ae conc) (oE f r) v
 | [.aH e],r,v,d,k=>by
  obtain⟨g,j⟩| ⟨b,off,cap,cs,T,g,j,l,m,n,o,p⟩:=k
  ·refine⟨[v],rfl,none,0,?_,?_,.inl rfl⟩;all_goals grind
  ·refine⟨[v],rfl,some ⟨b,off,none⟩,cap,by rw[g],m,.inr ⟨b,off,cs,T,_,rfl,?_,l,?_,.inr n,λ i y t=>?_⟩⟩;refine⟨by rw[h.u];exact h.F b (eL h.e.d j),λ id ver c s q=>?_⟩;have:=(h.f id ver c b s q).2;omega;exact o;exact(p i y t).e e d| [],_,_,d,_| [.ay _],_,_,d,_| [.aO],_,_,d,_| [.aJ],_,_,d,_| [.aF _ _],_,_,d,_| [.dP _ _],_,_,d,_| [.dX _ _],_,_,d,_| [.cO _ _],_,_,d,_| [.ec _],_,_,d,_=>by trivial|_::_::_,_,_,d,_=>by grind[zz]
theorem VQ{ok'}:(a:List Ty)->{r:ax a}->{v:b2}->(a.all Ty.h=true\/zz a=true)->kz P n w' ok a v r->∀e l,oE a r= .v (.aE (.aH e) l)->rj P n w' ok' e v l:=by
 intro a r v b d e l f;obtain⟨rfl,c⟩:=Ng a r f;cases c;obtain b|b:=b
 trivial;exact rj.b b d
theorem RF(hE:al P E)(h:aD P w0 conc st a w){L}(C:eO a.tmps L){o fop}{f:Nat}{args tys} (F:o.op= .call {callee:= .value fop,args:=args,argTypes:=tys}) {q} (B:a.eval fop= .func (.func f) #[] #[]) (d:(DX E L true f args.toList).af st=some q):Gg P conc st a w o q:=by simp[DX]at d;cases k:Map.av E.C f with|none=>rw[k]at d;cases d|some c=>rw[k]at d;have⟨l,u,G⟩:=RM.aI d;have⟨x,y,H⟩:=RM.aI G;have⟨r,b,I⟩:=RM.iV H;cases I;rw[rU]at b;have⟨A,p⟩:=hE.h f c k;have s:=DF hE h c.c y (yZ h C u);have⟨ins,caps,J,fn,fresh⟩:=c;cases caps with|cons _ _=>simp[fc.h]at b|nil=>
   simp[fc.h]at b;have z:(#[]++args.map a.eval++ #[]:Array b2)=(args.toList.map a.eval++ []).toArray:=by apply lb;simp
   have m:=E1 (P:=P) (w:=w) (a:=a) F (fid:=f) (first:= #[]) (cap:= #[]) B A;rw[z]at m;cases D:(fc.e ⟨ins,[],J,fn,fresh⟩)with
   |false=>
    have⟨k1,g⟩:=s (aV x.2) λ _ h=>h;refine⟨k1,f,_,m,?_⟩;refine hA (p w _ _ [] x.1 _ r g rfl b) ?_;rintro e w'⟨v,i,j,n,t⟩;refine⟨v,i,j,?_,?_⟩;exact OY _ (iL.b ⟨df _,λ _ _ _=>rfl⟩ (KQ h) _ n);grind[YB,Vo]|true=>
    have g:fe P w (λ _=>True) ins (args.toList.map a.eval) x.1:=by have⟨_,g⟩:=s (aV x.2) λ _ h=>h;exact iL.b.CJ ⟨df _,λ _ _ _=>rfl⟩ (λ _ _ _=>trivial) _ g
    refine⟨?_,f,_,m,?_⟩;exact da.b;refine hA (p w _ _ _ _ _ r g rfl b) ?_;rintro e w'⟨v,i,j,n,t⟩;simp only[fc.e,s4,ee]at D;refine⟨v,i,j,?_,?_⟩;all_goals grind[aV,mT,OY,iL.c,agr,VQ,acZ]
theorem an8(hE:al P E)(h:aD P w0 conc st a w){o f name args tys} (N:o.op= .call {callee:= .invoke f name,args:=args,argTypes:=tys}) {q} (z:(akq E f name args.toList).af st=some q):Gg P conc st a w o q:=by
 simp[akq]at z;have⟨b,D,i⟩:=RM.aI z;have R:=dQ h (cG _) D;split at i;rename_i x r g;split at i;rename_i M;subst M;have⟨l,F,p⟩:=RM.aI i;split at p;rename_i s;have⟨d,G,O⟩:=RM.aI p;have⟨y,n,Q⟩:=RM.iV O;cases Q;rw[rU]at n;have c:=yZ h (cG _) F;have⟨vs,B,fid,first,cap,C,I,t⟩:=R;obtain⟨tid,u,rfl,rfl,rfl,L⟩:=C
 match S:args.toList.map a.eval,c with
 | [v1],c=>
  have⟨us,k1,A⟩:=nO hE h G c.1;have J:a.eval f= .iface tid u:=B;have H:args.map a.eval= #[(Ty.ec x).d us]:=by apply lb;rw[l9,S,k1]
  have v:(eo a.eval o).run P w= .ok (.enter fid (#[u]++ #[(Ty.ec x).d us]++ #[])) w:=by rw[an1 N J (L u w) I,H,Array.append_empty]
  cases K:r.h with|true=>refine⟨da.b,fid,_,v,?_⟩;refine hA (t w (λ _=>True) ⟨df _,λ _ _ _=>rfl⟩ (λ _ _ _=>trivial) us d.1 A.b y n) ?_;rintro e w'⟨ys,j,k,m⟩;refine⟨r.d ys,j,k,?_,λ h=>by cases h⟩;exact⟨ys,rfl,m.e r K⟩|false=>have⟨m1,m2⟩:=A (aV d.2) λ _ h=>h;refine⟨m1,fid,_,v,?_⟩;refine hA (t w _ ⟨df _,λ _ _ _=>rfl⟩ (sX w conc (aV d.2)) us d.1 m2 y n) ?_;rintro e w'⟨ys,j,k,m⟩;exact⟨r.d ys,j,k,⟨ys,rfl,m.b r ⟨df _,λ _ _ _=>rfl⟩ (KQ h)⟩,λ h=>by cases h⟩
 | [],c=>exact c.elim|_::_::_,c=>exact c.2.elim
 cases p;cases i;cases i
theorem PB(hE:al P E)(h:aD P w0 conc st a w){L}(j:eO a.tmps L){o f args tys} (A:o.op= .call {callee:= .value f,args:=args,argTypes:=tys}) {q} (k:(zW E L true f args.toList).af st=some q):Gg P conc st a w o q:=by cases f with
 |func f=>exact RF hE h j A (fop:= .func f) rfl k|tmp t=>
  simp[zW]at k;have⟨b,H,c⟩:=RM.aI k;have D:=dQ h j H;split at c;exact RF hE h j A D c;rename_i x r g;cases hp:o8 x with|true=>rw[hp]at c;cases c|false=>
   rw[hp]at c;simp[cond_false]at c;have⟨l,I,B⟩:=RM.aI c;split at B;rename_i s;have⟨d,J,Q⟩:=RM.aI B;have⟨y,v,R⟩:=RM.iV Q;cases R;rw[rU]at v;have i:=yZ h j I;have⟨vs,G,fid,first,cap,m,M,C⟩:=D;have m:=(o5.fn hp).1 m
   match S:args.toList.map a.eval,i with
   | [v1],i=>
    have⟨us,k1,F⟩:=nO hE h J i.1;have N:a.eval (.tmp t)= .func (.func fid) first cap:=by rw[G,m];rfl
    have z:=E1 (P:=P) (w:=w) (a:=a) A N M;have K:args.map a.eval= #[x.d us]:=by apply lb;rw[l9,S,k1]
    rw[K]at z;cases O:r.h with|true=>refine⟨da.b,fid,_,z,?_⟩;refine hA (C w (λ _=>True) ⟨df _,λ _ _ _=>rfl⟩ (λ _ _ _=>trivial) us d.1 F.b y v) ?_;rintro e w'⟨ys,n,p,u⟩;refine⟨r.d ys,n,p,?_,λ h=>by cases h⟩;exact⟨ys,rfl,u.e r O⟩|false=>have⟨m1,m2⟩:=F (aV d.2) λ _ h=>h;refine⟨m1,fid,_,z,?_⟩;refine hA (C w _ ⟨df _,λ _ _ _=>rfl⟩ (sX w conc (aV d.2)) us d.1 m2 y v) ?_;rintro e w'⟨ys,n,p,u⟩;exact⟨r.d ys,n,p,⟨ys,rfl,u.b r ⟨df _,λ _ _ _=>rfl⟩ (KQ h)⟩,λ h=>by cases h⟩
   | [],i=>exact i.elim|_::_::_,i=>exact i.2.elim
   cases B
  ·cases c|_=>cases k
end
section
variable[Dr]
variable{P:ef}{E:aq}{w0:bC}{w:eb}{conc:bf}{st:au}{a:np}
variable {w':eb} {t:Ty} {vs:List b2} {α:Type} {k n:Nat} {d:t.b} {m:List (Nat×α)} {v:α}
theorem aw.i{w ok ok'}(h:aw P t w ok vs d)(a:cM w ok ok'):aw P t w ok' vs d:=h.b t ⟨df _,λ _ _ _=>rfl⟩ a
structure wc where
 k:Nat
 b:Nat
 c:b2
 o:fJ
def sF(Z:List wc):W:=Z.map λ z=>(z.k,(z.b,z.o))
def uu(Z:List wc):=Z.map λ z=>(z.k,(z.b,z.c))
theorem Wq{α m k}{v:α}(h:Map.av m k=some v):(k,v)∈m:=by induction m with|nil=>cases h|cons p r a=>grind[Map.av,gF,kk,gl]
theorem aiM{α m}(a:(m.map (·.1)).Nodup){k}{v:α}(h:(k,v)∈m):Map.av m k=some v:=by induction m with|nil=>cases h|cons p r b=>grind[List.nodup_cons,Map.av,gF]
theorem aD.Q(h:aD P w0 conc st a w){w'}(M:cm w w'){Z}(ap:(Z.map (·.k)).Nodup)(au:∀z∈Z,∀cv O F,conc z.k=some (cv,O,F)->cv<z.b)(N:∀z∈Z,∀b,dB z.c b->w.heap.size<=b/\b<w'.heap.size)(aj:∀z∈Z,∀ab∈Z,∀b,dB z.c b->dB ab.c b->z=ab)(ao:∀s,fU conc s->cM w (ae conc) (ae s)->(∀z∈Z,s z.k=some (z.b,z.c,true))->(∀b,w.heap.size<=b->(∀z∈Z,¬dB z.c b)->ae s b)->∀z∈Z,fS P w' s (ae s) z.c true z.o):∃s,aD P w0 s {st with b:=eX st.b (sF Z)} a w'/\fU conc s/\cM w (ae conc) (ae s)/\(∀z∈Z,s z.k=some (z.b,z.c,true))/\(∀b,w.heap.size<=b->(∀z∈Z,¬dB z.c b)->ae s b):=by
 let s:bf:= ⟨λ j=>match Map.av (uu Z) j with|some (ver,c)=>some (ver,c,true)|none=>conc j,conc.B,conc.b⟩;have ak:((uu Z).map (·.1)).Nodup:=by grind[uu,tv,qz]
 have aq:(aV (sF Z)).Nodup:=by grind[sF,aV,tv,qz]
 have aa:∀j ver c,Map.av (uu Z) j=some (ver,c)->∃z∈Z,z.k=j/\z.b=ver/\z.c=c:=by
  intro j ver c o;have⟨z,E,ai⟩:=et.1 (Wq o);grind
 have ac:∀z∈Z,s z.k=some (z.b,z.c,true):=by
  intro z E;have:=aiM ak (k:=z.k) (v:=(z.b,z.c)) (et.2 ⟨z,E,rfl⟩)
  grind
 have al:∀j,Map.av (uu Z) j=none->s j=conc j:=λ j o=>by grind
 have U:fU conc s:=by
  refine⟨rfl,?_⟩
  grind
 have split:∀j v c F,s j=some (v,c,F)->(∃z∈Z,z.k=j/\z.b=v/\z.c=c)\/conc j=some (v,c,F):=by
  grind
 have V:cM w (ae conc) (ae s):=by
  intro b y T;refine⟨y.1,λ j v c o Q=>?_⟩;rcases split j v c true o with⟨z,E,_,_,rfl⟩|o
  grind
  exact y.2 j v c o Q
 have E:∀b,w.heap.size<=b->(∀z∈Z,¬dB z.c b)->ae s b:=by
  intro b y ar;refine⟨by rw[h.u];exact h.F b (eL h.e.d y),λ j v c o Q=>?_⟩;rcases split j v c true o with⟨z,E,_,_,rfl⟩|o
  grind
  have:=(h.f j v c b o Q).2;omega
 have Y:fN (ae conc) w w':=M.j _;refine⟨s,{g:=h.g,n:=h.n,m:=h.m,k:=?_,q:=?_,r:=?_,t:=?_,f:=?_,e:=h.e.h M,u:=h.u,x:=h.x,h:=h.h,l:=h.l},U,V,ac,E⟩;intro d sl ah;obtain⟨v,C,A⟩:=h.k d sl ah;exact⟨v,C,⟨λ T=> ⟨(A.b T).1,(A.b T).2.b Y V U⟩,A.d⟩⟩;intro j G an o;dsimp only at o;rcases vy st.b (sF Z) j with⟨C,A⟩| ⟨am,C,A⟩
 rw[C]at o;obtain⟨O,F,af,ag⟩:=h.q j G an o;have H:Map.av (uu Z) j=none:=by
  cases H:Map.av _ j with
  |none=>rfl
  |some p=>
   obtain⟨z,B,rfl,_,_⟩:=aa j p.1 p.2 H;exact absurd (et.2 ⟨_,et.2 ⟨z,B,rfl⟩,rfl⟩) A
 refine⟨O,F,by grind,ag.b Y V U λ ad b y=>?_⟩;subst ad;exact M.e b (h.f j _ _ b af y).2;rw[C]at o;cases o;obtain⟨z,B,ai⟩:=et.1 A
 grind
 intro j o;dsimp only at o;rcases vy st.b (sF Z) j with⟨C,A⟩| ⟨am,C,A⟩
 rw[C]at o;cases H:Map.av (uu Z) j with
 |none=>rw[al j H];exact h.r j o
 |some p=>
  obtain⟨z,B,rfl,_,_⟩:=aa j p.1 p.2 H;exact absurd (et.2 ⟨(z.k,(z.b,z.o)),et.2 ⟨z,B,rfl⟩,rfl⟩) A
 rw[C]at o;cases o;intro i j D G ci J b R o K L;rcases split i D ci true R with⟨z,B,rfl,_,rfl⟩|I
 rcases split j G J true o with⟨X,W,rfl,_,rfl⟩|S;rw[aj z B X W b K L];have:=(h.f j G J b S L).2;have:=(N z B b K).1;omega;rcases split j G J true o with⟨X,W,rfl,_,rfl⟩|S;have:=(h.f i D ci b I K).2;have:=(N X W b L).1;omega;exact h.t i j D G ci J b I S K L;intro i D ci b R y;rcases split i D ci true R with⟨z,B,rfl,_,rfl⟩|I;exact⟨.inl (eL h.e.d (N z B b y).1),(N z B b y).2⟩;exact⟨(h.f i D ci b I y).1,gg (h.f i D ci b I y).2 M.f⟩
structure Gn(P:ef)(st:au)(n:Nat)(w':eb)(d:Nat->Prop)(id m:Nat)(g:List aU)(vs:List b2)(c:List Nat)(Z:List wc):Prop where
 f:∀z∈Z,id<=z.k/\z.k<id+m
 h:(Z.map (·.k)).Nodup
 j:∀z∈Z,(Map.av st.b z.k=none/\z.b=0)\/∃cv o,Map.av st.b z.k=some (cv,o)/\z.b=cv+1
 e:∀z∈Z,∀b,dB z.c b->b∈c/\n<=b/\b<w'.heap.size
 l:c.Nodup->∀z∈Z,∀k∈Z,∀b,dB z.c b->dB k.c b->z=k
 g:∀a,(∀z∈Z,a z.k=some (z.b,z.c,true))->cM w' d (ae a)->bU (bN P w' a (ae a)) g vs
 i:∀a,cM w' d (ae a)->∀z∈Z,fS P w' a (ae a) z.c true z.o
theorem aaf{c id b}(m:t.c=false)(h:b= []/\aw P t w' c vs d):Gn P st n w' c id t.a [.aE t d] vs b [] where
 f:=λ z a=>(by trivial)
 h:=List.nodup_nil
 j:=λ z a=>(by trivial)
 e:=λ z a=>(by trivial)
 l:=λ _ z a=>(by trivial)
 g:=λ o _ k=>Tv m (h.2.i k)
 i:=λ _ _ z a=>(by trivial)
theorem GW{n w' K}:(t:Ty)->{id:Nat}->{d:t.b}->{p:List aU×W}->{vs:List b2}->{r:List Nat}->(uS id t d).af st=some p->kP P n w' K t vs d r->vs.length=t.a->∃Z,p.2=sF Z/\Gn P st n w' K id t.a p.1 vs r Z
 | .aH e,id,l,p,vs,r,m,s,C=>by
  have key:∀ver,((Map.av st.b id=none/\ver=0)\/∃cv o,Map.av st.b id=some (cv,o)/\ver=cv+1)->p=([.dj id ver],[(id,(ver,.c8 e l))])->∃Z,p.2=sF Z/\Gn P st n w' K id 1 p.1 vs r Z:=by
   intro ver an hp;subst hp;obtain⟨c,I,am,aj,ak⟩:∃c,vs= [c]/\eY c=true/\(∀A,cM w' K (ae A)->fS P w' A (ae A) c true (.c8 e l))/\∀b,dB c b->b∈r/\n<=b/\b<w'.heap.size:=by
    obtain⟨L,M,O⟩| ⟨b,off,cap,cs,T,L,M,O,R,af,ag,ah,ai⟩:=s
    exact⟨_,L,rfl,λ A _=> ⟨rfl,.inl ⟨rfl,M⟩⟩,λ b E=>(by cases E)⟩;refine⟨_,L,rfl,λ A B=> ⟨rfl,.inr ⟨b,off,cap,cs,T,rfl,R,af,ag,ah,λ i x N=>(ai i x N).i B⟩⟩,λ ao F=>?_⟩;cases F;exact⟨by rw[M];simp,O,(ej.1 R).1⟩
   subst I;refine⟨[⟨id,ver,c,.c8 e l⟩],rfl,?_⟩;have e:∀{Q:wc->Prop},Q ⟨id,ver,c,.c8 e l⟩->∀z∈[(⟨id,ver,c,.c8 e l⟩:wc)],Q z:=λ h z k=>by cases j3.1 k;exact h
   exact⟨e ⟨df _,Nat.lt_succ_self _⟩,by simp,e an,e ak,λ _=>e (e λ _ _ _=>rfl),λ A I B=> ⟨⟨ver,c,true,I _ (j3.2 rfl),df _,am,λ _=>rfl⟩,trivial⟩,λ A B=>e (aj A B)⟩
  simp[uS,RM.af]at m;cases J:Map.av st.b id with
  |none=>rw[J]at m;cases m;exact key 0 (.inl ⟨J,rfl⟩) rfl|some q=>have⟨cv,o⟩:=q;rw[J]at m;cases m;exact key (cv+1) (.inr ⟨cv,o,J,rfl⟩) rfl
 | .aF a b,id,(x,y),p,vs,r,m,s,C=>by
  simp[uS]at m;have⟨ar,ac,m⟩:=RM.aI m;have⟨p2,ad,m⟩:=RM.aI m;cases m;obtain⟨ap,aq,rfl,aa,ab⟩:=s;simp[Ty.a]at C;have⟨U,X,u⟩:=GW a ac aa (by simp;omega);have⟨V,Y,v⟩:=GW b ad ab (by simp;omega);refine⟨U++V,by simp[sF,X,Y],{f:=?_,h:=?_,j:=?_,e:=?_,l:=?_,g:=?_,i:=?_}⟩
  intro z k;simp only[Ty.a];rcases eH.1 k with k|k
  have:=u.f z k;omega;have:=v.f z k;omega;rw[pv,n1];refine⟨u.h,v.h,λ i N j al e=>?_⟩;obtain⟨z,k,rfl⟩:=et.1 N;obtain⟨H,D,rfl⟩:=et.1 al;have:=u.f z k;have:=v.f H D;omega;intro z k;rcases eH.1 k with k|k
  exact u.j z k;exact v.j z k;intro z k w S;rcases eH.1 k with k|k
  have:=u.e z k w S;exact⟨fv _ this.1,this.2⟩;have:=v.e z k w S;exact⟨fl _ this.1,this.2⟩;intro G z k H D w E F;rw[n1]at G;rcases eH.1 k with k|k<;>rcases eH.1 D with D|D
  exact u.l G.1 z k H D w E F;exact absurd rfl (G.2.2 w (u.e z k w E).1 w (v.e H D w F).1);exact absurd rfl (G.2.2 w (u.e H D w F).1 _ (v.e z k _ E).1);exact v.l G.2.1 z k _ D _ E F;intro A I B;rw[<-fR a.a vs];exact(u.g _ (by grind) B).d (v.g _ (by grind) B);intro A B z k;rcases eH.1 k with k|k
  exact u.i _ B z k;exact v.i _ B z k| .ay _,id,d,p,vs,r,m,s,C| .aO,id,d,p,vs,r,m,s,C| .aJ,id,d,p,vs,r,m,s,C| .dP _ _,id,d,p,vs,r,m,s,C| .dX _ _,id,d,p,vs,r,m,s,C| .cO _ _,id,d,p,vs,r,m,s,C| .ec _,id,d,p,vs,r,m,s,C=>by cases m;exact⟨_,rfl,aaf rfl s⟩
theorem agk(h:aD P w0 conc st a w){W0}(t:da P conc st w (aV W0) W0){d id x y r p st' v w'}(S:(uS id (.aF x y) r).af st=some p)(K:cD st none ⟨some (d,⟨[],true,.ju p.1⟩),W0++p.2⟩=some st')(O:cm w w')(M:yr P w.heap.size w' (ft (ae (bB conc (aV W0))) w) (.aF x y) v r):cT P w0 st' (a.put (some d) v) w':=by
 obtain⟨conc1,rfl,m,af,ag⟩:=wG h t;have⟨vs,C,ac,F,G,H,I⟩:=M;have⟨Z,ah,N⟩:=GW (st:=st) _ S I H;have Q:=λ k=>Nz t k;have U:∀c,cM w (ae (bB conc (aV W0))) (ae c)->(∀b,w.heap.size<=b->(∀z∈Z,¬dB z.c b)->ae c b)->cM w' (λ b=>ft (ae (bB conc (aV W0))) w b/\b∉C) (ae c):=by
  intro c j l b g _;by_cases R:b<w.heap.size;rcases g.1 with u|u;exact j b u R;omega;exact l b (by omega) λ z f L=>g.2 (N.e z f b L).1
 have V:∀z∈Z,∀cv o B,bB conc (aV W0) z.k=some (cv,o,B)->cv<z.b:=by
  intro z f cv o B A;have e:=Q z.k;rcases N.j z f with⟨n,aa⟩| ⟨ab,al,n,aa⟩
  rw[n]at e;have:bB conc (aV W0) z.k=none:=m.r z.k (by
   cases i:Map.av (eX st.b W0) z.k with
   |none=>rfl
   |some q=>rw[i]at e;cases e)
  rw[this]at A;cases A;rw[n]at e;cases i:Map.av (eX st.b W0) z.k with
  |none=>grind
  |some q=>
   obtain⟨E,Y⟩:=q;rw[i]at e;simp at e;obtain⟨c',am,j,_⟩:=m.q z.k E Y i
   grind
 have⟨D,k1,ai,aj,X,ak⟩:=m.Q O (Z:=Z) N.h V (λ z f b g=>(N.e z f b g).2) (N.l G) (λ c j l ad J=>N.i c (U c l J));have T:=nM (st:=st) (W0:=W0++p.2) (d:=some d) (s:= .ju p.1) (st':=st') (v:=v) (conc1:=D) (w1:=w') (a:=a) (w0:=w0) (P:=P);refine T ?_ K ⟨_,by trivial,F,N.g _ X (by grind)⟩;grind[DM]
end
section
variable[Dr]
variable{P:ef}{E:aq}{w0:bC}{w:eb}{conc:bf}{st:au}{a:np}
variable {o:gE} {f:Nat} {c:fc} {l:List bQ} {p:aU×W} {u:er}
theorem oO.b{w' ok ok'}(i:fN ok w w')(g:cM w ok ok'):(e:List Ty)->{vs:List b2}->{x:ax e}->oO P w ok e vs x->oO P w' ok' e vs x| [],vs,x,h=>h| [t],vs,x,⟨v,c,a⟩=> ⟨v,c,T3 a⟩|t::u::e,vs,x,⟨v,r,c,a,f⟩=> ⟨v,r,c,T3 a,oO.b i g (u::e) f⟩
where
 T3 {t:Ty} {v:b2} {d:t.b} (h:kQ P w ok t v d):kQ P w' ok' t v d:=by
  obtain⟨b,off,cs,T,fr,c,a,f,j,k⟩:=h;exact⟨b,_,_,T,_,c,g b a (by grind),(i.d b a (by grind)).trans f,j,k.b t i g⟩
theorem Wm(hE:al P E)(h:aD P w0 conc st a w)(K:Map.av E.C f=some c){y zk W1}(L:NH P conc st w c.b y zk W1) {i} (g:bU (di P w conc (ae conc)) l i) (b:(C6 E c y l).af st=some p):∀F,(∀id∈aV (W1++p.2),id∈F)->da P conc st w F (W1++p.2)/\bN P w (bB conc F) (ae (bB conc F)) p.1 (.func (.func f) i.toArray zk.toArray):=by
 have⟨q,r⟩:=hE.h f c K;have⟨ins,caps,O,fn,fresh⟩:=c;intro F o;have⟨k1,s⟩:=L F λ id M=>o id (by grind[jZ,fv]);dsimp only[C6]at b;unfold S9 at b;split at b;rename_i a' r' A y;cases hp:o8 a' with|true=>rw[hp]at b;cases b|false=>rw[hp]at b;simp[cond_false]at b;cases b;cases i with
  |cons _ _=>trivial|nil=>refine⟨by grind,[_],rfl,f,_,_,(o5.fn hp).2 rfl,q,λ w' ok' k j xs x m z n=>?_⟩;have:=r w' ok' [a'.d xs] zk x y z ⟨xs,rfl,m⟩ (s.b k j caps) n;refine hA (by simpa using this) ?_;rintro e N⟨v,G,H,⟨cs,I,J⟩,_⟩;grind
 ·rename_i t' a' r' s' A y;cases hp:o8 a' with
  |true=>rw[hp]at b;cases b|false=>
  rw[hp]at b;simp[cond_false]at b;have⟨d,C,D⟩:=RM.aI b;cases D
  match i,g with
  | [B],g=>have⟨us,t,u⟩:=nO hE h C g.1;have⟨m1,m2⟩:=u F λ id M=>o id (by grind[jZ,fl]);refine⟨k1.e m1,[_],rfl,f,_,_,(o5.fn hp).2 rfl,q,λ w' ok' k j xs x m z n=>?_⟩;have:=r w' ok' [B,a'.d xs] zk (d.1,x) y z ⟨us,_,by rw[t],m2.b t' k j,xs,rfl,m⟩ (s.b k j caps) n;refine hA (by simpa using this) ?_;rintro e N⟨v,G,H,⟨cs,I,J⟩,_⟩;grind| [],g=>trivial|_::_::_,g=>exact g.2.elim
 trivial
theorem an0(hE:al P E)(h:aD P w0 conc st a w){T:Nat}{x}(D:o.op= .makeInterface T x)(hT:Map.av akv T=some f)(u:Map.av E.C f=some c) {s} (b:(rd [] x).af st=some s) (hp:(akw E c.c c.b c.a c.g s).af st=some p) {st'} (r:cD st none (.a o.dst [] true (.v p.1) p.2)=some st'):cz P w0 o a w st':=by have⟨C,B⟩:=hE.meth T f hT;have⟨t,A⟩:=hE.h f c u;have⟨ins,caps,K,fn,fresh⟩:=c;dsimp only at hp;unfold akw at hp;split at hp;rename_i s' t' a' r' J;have⟨d,j,k⟩:=RM.aI hp;cases k;have F:=jJ h (cG _) b;have⟨us,g,i⟩:=nO hE h j F;have⟨m1,m2⟩:=i (aV d.2) λ _ h=>h;refine cz.b (v:= .iface T (a.eval x)) (w':=w) ?_ ?_;unfold eo;rw[D];show((qO T (a.eval x))>>=λ v=>(pure (vE v):Sem Next)).run P w=_;rw[cr,B];rfl;refine nM (h.A m1) r ?_;refine⟨[_],rfl,f,#[a.eval x],#[],⟨T,_,rfl,rfl,rfl,C⟩,t,λ w' ok' G b xs y H z I=>?_⟩;have:=A w' ok' [a.eval x,(Ty.ec a').d xs] [] (d.1,y) () z ⟨us,_,by rw[g],m2.b t' G b,xs,rfl,H⟩ rfl I;refine hA (by simpa using this) ?_;rintro e L⟨v,l,m,⟨cs,n,q⟩,_⟩;exact⟨cs,by rw[l,n],m,q⟩;cases hp
theorem ab8(hE:al P E)(h:aD P w0 conc st a w){first cap}(m:o.op= .makeFunc (.func f) first cap)(g:Map.av E.C f=some c) {y} (k:(uD E c.b cap.toList).af st=some y) (j:(sb [] first.toList).af st=some l) (hp:(C6 E c y.1 l).af st=some p) {st'} (e:cD st none (.a o.dst [] true (.v p.1) (y.2++p.2))=some st'):cz P w0 o a w st':=by
 have i:=Wm hE h g (GJ hE h c.b k) (yZ h (cG _) j) hp (aV (y.2++p.2)) λ _ h=>h;have⟨k1,n⟩:=i;refine cz.b (v:= .func (.func f) (first.map a.eval) (cap.map a.eval)) (w':=w) ?_ ?_;simp_all[eo,pN];refine nM (h.A k1) e ?_;have b:first.map a.eval=(first.toList.map a.eval).toArray:=by grind
 have d:cap.map a.eval=(cap.toList.map a.eval).toArray:=by grind
 rw[b,d];trivial
theorem afy(hE:al P E)(h:aD P w0 conc st a w){first cap}(m:o.op= .makeFunc (.func f) first cap)(b:first.toList.isEmpty=true){c}(e:Map.av E.I f=some c) {y} (i:(uD E c.a cap.toList).af st=some y) {xs} (g:c.c y.1=some xs) {st'} (d:cD st none (.a o.dst [] true (.v (.aE c.b xs)) y.2)=some st'):cz P w0 o a w st':=by
 have⟨k1,k⟩:=GJ hE h c.a i (aV y.2) λ _ h=>h;have⟨n,j⟩:=hE.j f c e;have b:first= #[]:=by grind
 subst b;refine cz.b (v:= .func (.func f) #[] (cap.map a.eval)) (w':=w) ?_ ?_;simp_all[eo,pN];refine nM (h.A k1) d ⟨_,?_,j _ _ _ _ _ k g⟩;have l:cap.map a.eval=(cap.toList.map a.eval).toArray:=by grind
 grind[Ty.d]
theorem ZX(h:aD P w0 conc st a w){q}(R:Gg P conc st a w o q){st'}(c:(FL o.dst q).af st=some u)(k:cD st none u=some st'):cz P w0 o a w st':=by
 have⟨m,fid,args,N,M⟩:=R;refine cz.e N M ?_;rintro v w'⟨g,C,D⟩;unfold FL at c;split at c;rename_i e l d z A t;have O:=(D z).1 e l A;rw[t];rcases O with⟨f,j⟩| ⟨b,off,cap,cs,T,f,j,E,F,G,H,I⟩
 subst j;refine wv h m c k g (λ b K=>by rw[f]at K;trivial) (λ B J n U=> ⟨rfl,.inl ⟨f,rfl⟩⟩)
  (λ B ver L=> ⟨_,_,_,L,df _,by rw[f];rfl,λ _=>rfl⟩)
 rw[f];exact KG h m c k F G H g j E λ i x Q=>(I i x Q).b e ⟨df _,λ _ _ _=>rfl⟩ (λ S s _=> ⟨s.1,s.2⟩);rename_i x y r d z A t;obtain⟨p,J,n⟩:=RM.aI c;cases n
 grind[agk]
 cases c;exact nM ((h.A m).D g) k C
theorem anV (hE : al P E) (h : aD P w0 conc st a w) {o } {f t id ver } {args } {tys } (an : o.op = .call { callee := .value (.tmp t), args := args, argTypes := tys }) {g } (ax : Map.av st.a t = some ⟨[], g, .v (.oH f id ver)⟩) {c } (X : Map.av E.O f = some c) {u } {st' } (i : (akL E o.dst c id ver args.toList).af st = some u) (aa : cD st none u = some st') : cz P w0 o a w st' := by
  have ⟨ac, ad⟩ := hE.k f c X;have ⟨aQ, ins, fn⟩ := c;simp only [akL] at i;have ⟨aU, S, i⟩ := RM.aI i;have ⟨y, U, i⟩ := RM.aI i;simp only [RM.af] at i;split at i
  · rename_i cv e cells ak;have ⟨m, H⟩ := dE i;clear i;simp only [ee] at m;have := cU m.1.1;subst this;have aB : y.2 = [] := by simpa using m.1.2
    have ⟨p, V, I⟩ := RM.aI H;have ⟨A, i⟩ := dE I;clear H I;simp only [ee] at A;have ao : p.2 = [] := by simpa using A.1
    have ap : p.1.2 = [] := by simpa using A.2
    split at i
    · rename_i z;subst z;have ⟨x, W, av⟩ := RM.iV i;cases av;have ⟨v, ay, az⟩ := h.k t _ ax;obtain ⟨q, Q, aq⟩ : bN P w conc (ae conc) (.oH f id cv) v := (az.b (cG _)).2;obtain ⟨aP, aF, k1, ⟨rfl, b, cs, T, aG, L, aT, aH, aI⟩, j, n, ar⟩ := sR h ak aq;have af : a.eval (.tmp t) = v := by simp [q4, ay]
      subst aG;cases n
      subst ar
      have ⟨us, M, aC, aE, K⟩ := CY hE h e V aI aH
      have aA : M = [] := by
        rw [ao] at K
        cases M with
        | nil => rfl
        | cons _ _ => exact K.elim
      have Y : aw P e w (ae conc) cs.toList p.1.1 := by
        rw [aC, aA, k5]
        exact ((aE [] (by simp [ap, aV])).2).e e m.2
      have G := DF hE h ins U (yZ h (cG _) S) (aV y.2) (fun _ h => h)
      have ag : bB conc (aV y.2) = conc := by rw [aB]; exact mT conc
      rw [ag] at G
      have aj : ∀ j, dB (j1 (some ⟨b, 0, none⟩)) j -> ¬ ae conc j := fun j k am => am.2 id cv _ k1 k
      have F := E1 (P := P) (w := w) (a := a) an (fid := f) (first := #[]) (cap := #[j1 (some ⟨b, 0, none⟩)]) (by rw [af, Q]) ac
      have Z : (#[] ++ args.map a.eval ++ #[j1 (some ⟨b, 0, none⟩)] : Array b2) = (args.toList.map a.eval ++ [j1 (some ⟨b, 0, none⟩)]).toArray := by
        apply lb
        simp
      rw [Z] at F
      refine cz.e (R := fun v w' => v = .tuple #[] /\ aeE (j1 (some ⟨b, 0, none⟩)) w w' /\ adL P w' (ft (ae conc) w) e (j1 (some ⟨b, 0, none⟩)) x) F
        (hA (ad w _ _ _ p.1.1 y.1 x ⟨b, cs, T, rfl, L, Y⟩ G.2 aj W) (fun aS w' z => ⟨_, z.1, rfl, z.2⟩)) ?_
      rintro r w' ⟨rfl, l, aN, D, N, aK, aL, aM⟩
      cases aK
      have ah : b < w.heap.size := (ej.1 L).1
      have ⟨O, aJ, _⟩ := h.I (id := id) (ver := cv) (c := j1 (some ⟨b, 0, none⟩)) (o := .eu e (tn e x)) (w' := w') (fun aR aO aF n => by rw [k1] at n; cases n; exact .inr ⟨rfl, rfl⟩) l.os l.tape l.output l.size
        (fun j k ai => l.block j k (ai cv _ k1)) (fun j k => ⟨.inr ⟨cv, _, k1, k⟩, by cases k; exact gg ah l.size⟩)
        (fun C _ _ _ _ _ => by
          have B : aw P e w' (ae C) D.toList x := aM.e e m.2
          have J := Al (conc := C) e B
          exact ⟨rfl, b, D, N, rfl, aL, by rw [J.b]; exact B.d, B.f, J⟩)
      have ab : cD st none (.a o.dst [] true (.oF []) [(id, (cv, .eu e (tn e x)))]) = some st' := by
        rw [<- aa]
        cases o.dst <;> rfl
      exact nM (W0 := [(id, (cv, .eu e (tn e x)))]) (d := o.dst) (s := .oF []) (conc1 := O) aJ ab ⟨[], rfl, trivial⟩
    · cases i
  · cases i
theorem an4(h:aD P w0 conc st a w){o f id cv first cap x u cells}(i:o.op= .makeFunc (.func f) first cap)(g:first.toList= [])(e:cap.toList= [x]) (k:(c9 [] x).af st=some (.dx id cv 0)) (l:Map.av st.b id=some (cv,.eu u cells)) {st'} (d:cD st none (.a o.dst [] true (.v (.oH f id cv)) [])=some st'):cz P w0 o a w st':=by
 have b:first= #[]:=by rw[<- gk (xs:=first),g]
 have c:cap= #[x]:=by rw[<- gk (xs:=cap),e]
 subst b c;refine cz.b (v:= .func (.func f) #[] #[a.eval x]) (w':=w) (by simp[eo,i,pN]) ?_;have j:bN P w conc (ae conc) (.dx id cv 0) (a.eval x):=dQ h (cG _) k;exact nM (W0:= []) (s:= .v (.oH f id cv)) h d ⟨a.eval x,rfl,j⟩
theorem Ic(hE:al P E)(h:aD P w0 conc st a w){s}(e:(il E [] true o.op).af st=some s){st'}(d:cD st none (.a o.dst [] true s [])=some st'):cz P w0 o a w st':=by have⟨v,b,c⟩:=Rm hE h (cG _) e;exact cz.b b (nM (W0:= []) h d c)
theorem acF(hE:al P E)(h:aD P w0 conc st a w){S T:Nat}{x}(z:o.op= .convert S T x)(m:E.b S=some .aJ)(hT:E.b T=some (.aH (.ay .u8))){l:List UInt8} (G:(c9 [] x).af st=some (.aE .aJ l)) {st'} (n:cD st none (.a o.dst [] true (.v (.aE (.aH (.ay .u8)) (kv l))) [])=some st'):cz P w0 o a w st':=by
 have⟨K,B,t⟩:=hE.b m;have e:=t.g;rw[B]at e;have⟨L,C,u⟩:=hE.b hT;have⟨b,D,p⟩:=u.p C;have F:=dQ h (cG _) G;have⟨vs,f,g⟩:=F;have j:vs= [.string ⟨⟨l⟩⟩]:=g;subst j;have k:a.eval x= .string ⟨⟨l⟩⟩:=f;have d:=run_bytes_of_string w S T b ⟨⟨l⟩⟩ e D p;have A:(⟨⟨l⟩⟩:ByteArray).size=l.length:=rfl;rw[A]at d;refine cz.b (w':=_) (v:=_) (by simp only[eo,z,k];rw[cr,d];rfl) ?_;have s:cm w (w.drew.alloc (.cells (qF ⟨⟨l⟩⟩ (jA w l.length 0 b)) b ((qF ⟨⟨l⟩⟩ (jA w l.length 0 b)).size,(qF ⟨⟨l⟩⟩ (jA w l.length 0 b)).size+1))):=(cm.k w).l (cm.d _ _);have I:=s0 w l.length 0 b;have H:(qF ⟨⟨l⟩⟩ (jA w l.length 0 b)).toList=l.map (λ c=>fu .u8 (c.toNat:Int))++hv (jA w l.length 0 b- l.length) (.int .u8 0):=by simp[qF,q5]
 refine nM (W0:= []) (h.D s) n ⟨[_],rfl,some ⟨w.heap.size,0,none⟩,jA w l.length 0 b,?_,?_,.inr ⟨w.heap.size,0,_,_,_,rfl,?_,l8 _ _,?_,.inl rfl,λ i y J=>?_⟩⟩;simp[kv];grind[kv];refine⟨by rw[h.u];exact h.F _ h.e.d,λ id ver c r q=>?_⟩;have:=(h.f id ver c _ r q).2;omega;grind[hz,kv,Ty.a];show aS _ _ _= [_];grind[kv,kp,ea,aS,Ty.a,hh]
theorem anf{f c id ver}(h:(akB E f).af st=some (some (c,id,ver))):∃t g a,f= .tmp t/\Map.av st.a t=some ⟨[],a,.v (.oH g id ver)⟩/\Map.av E.O g=some c:=by
 unfold akB at h;split at h;rename_i t;simp[RM.af]at h;split at h;rename_i a g i j e;simp only[RM.af,Option.some.injEq]at h;cases b:Map.av E.O g with
 |none=>rw[b]at h;cases h|some d=>rw[b]at h;cases h;exact⟨t,g,a,rfl,e,b⟩
 cases h;cases h
theorem acz(hE:al P E)(h:aD P w0 conc st a w){o:gE}{u:er}(j:(D2 E o).af st=some u){st':au}(A:cD st none u=some st'):cz P w0 o a w st':=by
 unfold D2 at j;split at j
 rename_i r;split at j
 grind[ah7]
 trivial;rename_i T r;split at j
 grind[aif]
 trivial;rename_i T x r;split at j;rename_i d t C hT;have⟨s,v,j⟩:=RM.aI j;have⟨l,B,j⟩:=RM.aI j;have⟨H,j⟩:=dE j
 grind[ahn,cU]
 trivial;rename_i T n ps r;split at j;rename_i d e C hT;have⟨l,v,j⟩:=RM.aI j;have⟨H,j⟩:=dE j;simp only[ee]at H;exact VB hE h r C (ZZ hE hT) H.1 (by simp_all) v j A;trivial;rename_i T x y r;split at j;rename_i d e C hT;have⟨b,v,j⟩:=RM.aI j;split at j;rename_i n;have⟨H,D⟩:=dE j;clear j;simp only[ee]at H;have⟨q,F,j⟩:=RM.iV D
 grind[cU,iZ,CO,Zx]
 trivial;trivial;rename_i T ad x r;split at j;rename_i t C hT;have⟨b,v,j⟩:=RM.aI j;cases b with
 |dx id ver off=>
  simp only[Ei]at j;have⟨s,B,j⟩:=RM.aI j;have⟨l,H,j⟩:=RM.aI j;simp only[RM.af]at j;split at j;rename_i cv t' cells I;have⟨F,D⟩:=dE j;clear j;simp only[ee]at F;have:=cU F.1.1;subst this;cases D;exact V3 hE h r C hT v B H I (cU F.1.2) (by simp_all) A;trivial
 |rD id ver e i=>
  simp only[Ei]at j;have⟨s,B,j⟩:=RM.aI j;have⟨d,H,j⟩:=RM.aI j;simp only[RM.af]at j;split at j;rename_i cv ao l I;have⟨F,D⟩:=dE j;clear j;simp only[ee]at F;have:=cU F.1;subst this;split at D;rename_i ag;have⟨ah,ai⟩:=ag;subst ah;subst ai;have⟨l',K,j⟩:=RM.iV D;cases j
  grind[XU,Ph]
  trivial;trivial
 |sd id ver off k n i=>
  simp only[Ei]at j;have⟨s,B,j⟩:=RM.aI j;split at j;simp only[RM.af]at j;split at j;rename_i cv u cells I;have⟨F,D⟩:=dE j;clear j;simp only[ee]at F;have Y:=cU F.1;subst Y;obtain⟨⟨rfl,rfl⟩,G⟩:=jN D;have⟨z,K,J⟩:=RM.aI G;cases J;exact aad hE h r C hT v B I K (by simp_all) A;trivial;trivial
 |_=>trivial
 trivial;rename_i args tys r;split at j;rename_i d s x T an C V W;have⟨L,D⟩:=dE j;clear j;have:=cU L;subst this;have O:args= #[s,x]:=by grind
 have U:tys= #[T,T]:=by grind
 subst O U;have⟨b,v,j⟩:=RM.aI D;cases b with
 |dj id ver=>
  simp only[Ht]at j;have⟨X,B,j⟩:=RM.aI j;simp only[RM.af]at j;split at j;rename_i cv e l I;have⟨F,D⟩:=dE j;clear j;have:=cU F;subst this;have⟨hT,G⟩:=jN D;have⟨m,K,J⟩:=RM.aI G;have⟨q,Z,R⟩:=RM.iV J;cases R
  grind[en,iZ,jk,aia,yo]
  trivial
 |js=>
  simp only[Ht]at j;split at j;rename_i e hT;have⟨X,B,j⟩:=RM.aI j;have⟨m,K,j⟩:=RM.aI j;have⟨q,Z,j⟩:=RM.iV j
  grind[en,iZ,jk,UJ]
  cases j
 |_=>cases j
 cases j;rename_i f first cap r
 cases M:Map.av E.C f with
 |none=>
  simp only[M]at j;cases N:Map.av E.I f with
  |none=>
   simp only[N]at j;split at j;rename_i c x I ae ab;have⟨b,v,j⟩:=RM.aI j;split at j;rename_i id ver;simp only[RM.af]at j;split at j;rename_i cv u cells aj;have⟨B,G⟩:=dE j;clear j;simp only[ee]at B;have:=cU B.1;subst this;cases G;exact an4 h r ae ab v aj A;cases j;cases j;cases j
  |some c=>
   simp only[N]at j;have⟨L,D⟩:=dE j;have⟨y,v,G⟩:=RM.aI D;have⟨xs,B,J⟩:=RM.iV G;cases J;exact afy hE h r L N v B A
 |some c=>
  simp only[M]at j;have⟨y,v,j⟩:=RM.aI j;have⟨l,B,j⟩:=RM.aI j;have⟨p,H,j⟩:=RM.aI j;cases j;exact ab8 hE h r M v B H A
 rename_i T r;split at j;rename_i d k u C hT;exact Yj h r C j A;cases j;rename_i T x r;split at j;rename_i d k u C hT;have⟨b,v,j⟩:=RM.aI j;split at j;rename_i t l;have⟨l',B,G⟩:=RM.aI j;clear j;have⟨e,ac⟩:=kC (RM.Ae B);subst e;subst ac;exact aoW hE h r C hT v G A;cases j;cases j;rename_i T m k x r;split at j;rename_i C;exact SE hE h (by simp only[eo,r]) C j A;cases j;rename_i T m k x r;split at j;rename_i C;exact SE hE h (by simp only[eo,r]) C j A;cases j;rename_i T x lo N r;have⟨b,v,j⟩:=RM.aI j;split at j;rename_i id ver d C;simp only[RM.af]at j;split at j;rename_i cv e l I;have⟨B,D⟩:=dE j;have:=cU B;subst this;have⟨hT,G⟩:=jN D;have⟨p,H,J⟩:=RM.aI G;have⟨q,F,R⟩:=RM.aI J;have⟨z,K,ak⟩:=RM.iV R;cases ak;exact aga hE h r C hT v I H F K A;cases j;rename_i id ver off d C;split at j;rename_i aq hT _;exact aiI hE h r C hT v j A;cases j;have⟨s,B,G⟩:=RM.aI j;cases G;exact Ic hE h (by rw[r];exact B) A;rename_i args tys r;split at j;rename_i x y T S V W;have O:args= #[x,y]:=by rw[<-gk (xs:=args),V]
 have U:tys= #[T,S]:=by rw[<-gk (xs:=tys),W]
 subst O U;exact aft hE h r j A;cases j;rename_i f args tys r;have⟨m,L,Q⟩:=RM.aI j;clear j;split at Q;rename_i c;have⟨c,id,ver⟩:=c;obtain⟨t,g,ap,rfl,am,af⟩:=anf L;exact anV hE h r am af Q A;obtain⟨q,v,j⟩:=RM.aI Q;exact ZX h (PB hE h (cG _) r v) j A;rename_i x name args tys r;obtain⟨q,v,j⟩:=RM.aI j;exact ZX h (an8 hE h r v) j A;rename_i T x r;split at j;rename_i f hT;split at j;rename_i c M;obtain⟨s,v,j⟩:=RM.aI j;obtain⟨p,B,j⟩:=RM.aI j;cases j;exact an0 hE h r hT M v B A;cases j;cases j;rename_i S T x r;have other:∀{u},((il E [] true o.op).aB λ s=>RM.aA (er.a o.dst [] true s [])).af st=some u->cD st none u=some st'->cz P w0 o a w st':=by
  intro u j A;obtain⟨s,v,j⟩:=RM.aI j;cases j;exact Ic hE h v A
 rw[r]at other;split at j;rename_i aa hT;obtain⟨b,v,j⟩:=RM.aI j;split at j;rename_i l;cases j;exact acF hE h r aa hT v A;cases j;exact other j A;obtain⟨s,v,j⟩:=RM.aI j;cases j;exact Ic hE h v A
end
section
variable[Dr]
variable{P:ef}{E:aq}{w0:bC}{w:eb}{conc:bf}{st:au}{a:np}
variable {o:gE} {r:Option Nat} {n:Nat} {u:er} {v:b2} {Q:Exit->np->eb->Prop}
def FE(P:ef)(w0:bC)(ops:Array gE)(o:gE)(a:np)(w:eb)(st':au):=(hF o (nv ops a.tmps)=true->cz P w0 o a w st')/\(hF o (nv ops a.tmps)=false->cT P w0 st' (a.put o.dst undef) w)
theorem uO(h:aD P w0 conc st a w){L g s q}{W0:W}{d st' w1}(o:cm w w1)(l:W0= [])(n:cD st (some q) (.a d L g s W0)=some st')(k:∀p∈L,p.1=q\/p.1∈st.d)(r:G9 P w1 conc (ae conc) a.tmps ⟨L,g,s⟩ v):cT P w0 st' (a.put d v) w1:=by
 subst l;refine⟨conc,?_⟩;have f:=h.D o;rcases Q1 n with⟨i,rfl,c,t,rfl⟩| ⟨rfl,rfl⟩
 refine f.K (d:=i) (sl:= ⟨L,g,s⟩) (v:=v) (ms:=nT (some q) st.d) c (λ m b=>gl _ b) (λ p hp=>?_) r;rcases k p hp with e|e
 exact⟨by rw[e];exact kk,by grind⟩;exact⟨gl _ e,λ j=>(pa.1 c).2.1 (j▸e)⟩;exact f.E (ms:=nT _ _) λ m b=>gl _ b
def Bz:b2->Option Bool| .bool b=>some b|_=>none
theorem Zk{b}(h:Bz v=some b):v= .bool b:=by cases v<;>simp[Bz]at h;rw[h]
theorem WM(hE:al P E)(h:aD P w0 conc st a w){ops:Array gE}{j s:Nat}{want}(ap:o.guard=some (j,want))(af:(ops[j]?).bind (·.dst)=some s) (k:(zO E o s want).af st=some u) {st'} (z:cD st (some s) u=some st'):FE P w0 ops o a w st':=by
 simp[zO,RM.af]at k;split at k;rename_i L g b M;have⟨v,ag,N⟩:=h.k s _ M;have ab:=h.m s _ M;dsimp only at ab;have ai:nv ops a.tmps j=Bz v:=by
  unfold nv;rw[af];simp[n2,ag];cases v<;>rfl
 have ah:hF o (nv ops a.tmps)=((nv ops a.tmps j)==some want):=by
  grind[hF]
 let m:List (Nat×Bool):=(s,want)::L;let g':Bool:=CP L g (bif want then b else !b);have x:∀p∈m,p.1=s\/p.1∈st.d:=by
  grind
 have yes:hF o (nv ops a.tmps)=true->eO a.tmps m/\g'=true:=by
  intro t;rw[ah,ai]at t;have O:v= .bool want:=Zk (by grind);by_cases d:eO a.tmps L;have⟨k1,J⟩:=N.b d;have⟨us,F,C⟩:=J;have:=tM F C;rw[O]at this;have am:b=want:=by grind
  refine⟨Hp (by grind) d,?_⟩;have V:(bif want then b else !b)=true:=by
   grind
  show CP L g _=true;rw[V];have r:g=true:=k1;rw[r];unfold CP
  grind
  have:=N.d d;rw[O]at this;trivial
 have no:eO a.tmps m->hF o (nv ops a.tmps)=true:=by
  intro d;have ak:=d (s,want) (kk)
  grind[Bz]
 split at k;rename_i f args tys I;have⟨q,A,k⟩:=RM.aI k;split at k;rename_i H;cases k;constructor;intro t;have⟨d,r⟩:=yes t;have B:(zW E m g' f args.toList).af st=some q:=A;rw[r]at B;have⟨ao,fid,aj,Z,Y⟩:=PB hE h d I B;refine cz.e Z Y ?_;rintro v' w'⟨C,U,_⟩;rw[H,show aV []= []from rfl,mT]at U;exact uO (W0:= []) h C rfl z x ⟨by grind,absurd d⟩;intro Q;have D:¬eO a.tmps m:=λ d=>by grind
 exact uO (W0:= []) h (cm.h w) rfl z x ⟨by grind,λ _=>rfl⟩;trivial;rename_i T n ps I;split at k;rename_i e hT;have⟨l,A,K⟩:=RM.aI k;split at K;rename_i H;have⟨G,ad⟩:=dE K;simp only[ee]at G;cases ad;constructor;intro t;have⟨d,r⟩:=yes t;have⟨aq,J,cs',S,an,R,ae⟩:=RB hE h d I (yo hE hT) G.1 (by simp_all) A;rw[H,show aV []= []from rfl,mT]at R;refine cz.b ae ?_;refine uO (W0:= []) h (cm.d w _) rfl z x ⟨λ _=> ⟨r,[_],rfl,some ⟨w.heap.size,0,none⟩,n,by rw[J],by omega,.inr ⟨w.heap.size,0,cs',S,_,rfl,?_,l8 _ _,?_,.inr ?_,λ i y aa=>?_⟩⟩,λ D=>absurd d D⟩;refine⟨by rw[h.u];exact h.F _ h.e.d,λ id ver c X W=>?_⟩;have:=(h.f id ver c _ X W).2;omega
 grind
 have⟨_,_,_,_,_,_,_,ac⟩:=yo hE hT;have:=q0 G.2;have:=qc n ac;unfold l7;omega;rw[hP];exact(R.2.2 i y aa).b e (cm.j (cm.d w _) _) (cM.d _ _);intro Q;have D:¬eO a.tmps m:=λ d=>by grind
 exact uO (W0:= []) h (cm.h w) rfl z x ⟨by grind,λ _=>rfl⟩;trivial;trivial;have⟨q,A,k⟩:=RM.aI k;cases k;constructor;intro t;have⟨d,r⟩:=yes t;have B:(il E m g' o.op).af st=some q:=A;rw[r]at B;have⟨v',F,C⟩:=Rm hE h d B;refine cz.b F ?_;exact uO (W0:= []) h (cm.h w) rfl z x ⟨by grind,by grind⟩;intro Q;have D:¬eO a.tmps m:=λ d=>by grind
 exact uO (W0:= []) h (cm.h w) rfl z x ⟨by grind,λ _=>rfl⟩
 trivial
theorem Pj(hE:al P E)(h:cT P w0 st a w){ops o u}(b:(gx E ops o).af st=some u){st'}(c:cD st (kS ops o) u=some st'):FE P w0 ops o a w st':=by have⟨conc,h⟩:=h;unfold gx at b;unfold kS at c;cases d:o.guard with
 |none=>
  rw[d]at b c;have f:hF o (nv ops a.tmps)=true:=by grind[hF]
  exact⟨λ _=>acz hE h b c,by grind⟩|some p=>have⟨j,want⟩:=p;rw[d]at b c;dsimp only at b c;cases e:(ops[j]?).bind (·.dst)with|none=>rw[e]at b;cases b|some s=>rw[e]at b c;exact WM hE h d e b c
def tS(E:aq)(ops:Array gE)(o:gE)(st:au):=((gx E ops o).af st).bind λ u=>cD st (kS ops o) u
theorem aey{R}(ops)(o)(st)(K:au->Option R):Ge E ops o st K=(tS E ops o st).bind K:=by unfold Ge tS;rw[RM.sH];grind
theorem aeQ(hE:al P E)(h:cT P w0 st a w){ops o st'}(b:tS E ops o st=some st'):FE P w0 ops o a w st':=by unfold tS at b;cases c:(gx E ops o).af st with|none=>grind|some u=>grind[Pj]
def Fr(r:Option Nat):={q3 with round:=r}
theorem adS(r)(n):(Fr r).room n:=λ _ h=>by trivial
theorem QE{f args w R}(h:qi P f args w R):CallsIn (Fr r) n P f args w R:=(callsIn_wide (n:=n)).2 h
theorem aa8{row args w R}(h:Rows P row args w R):RowsIn (Fr r) n P row args w R:=λ c cs _=>let⟨v,w',q,s⟩:=h c _; ⟨v,_,q,(stepsIn_wide (P:=P)).2 s⟩
theorem aaz{m}{c:Code}{a w}(h:c.wpIn (Fr r) n P Q a w):c.wpIn (Fr r) m P Q a w:=λ b k cs e d _=>h b k _ e d (adS _ _)
theorem H7{a w K}(b:∀c,o.op≠ .defer c)(h:o.wp P a w K Q):o.wpIn (Fr r) n P a w K Q:=by refine⟨λ _ _=>trivial,?_⟩;rw[Oper.semAt_eq _ _ _ b];unfold r1 at h;generalize (eo a.eval o).run P w=z at*;cases z with
 |ok x w'=>
  cases x<;>simp[x0,Oper.uponIn]at h⊢<;>first|exact h|exact h.elim|skip
  refine⟨λ e=>by trivial,(QE h).mono ?_⟩
  grind;grind[Fr,q3,aa8]|halt x w'=>cases x<;>simp[x0]at h⊢<;>first|exact h|exact h.elim
theorem Sm{ops o u}(a:(gx E ops o).af st=some u):∀c,o.op≠ .defer c:=by intro c d;unfold gx at a;cases e:o.guard with
 |none=>grind[D2,il,RM.aB,RM.af]|some p=>have⟨j,want⟩:=p;rw[e]at a;dsimp only at a;cases b:(ops[j]?).bind (·.dst)with|none=>rw[b]at a;cases a|some s=>
  rw[b]at a;simp[zO,RM.af]at a;split at a;simp[d,il,RM.aB,RM.af]at a;cases a
theorem Xc{ops o st'}(a:tS E ops o st=some st'):∀c,o.op≠ .defer c:=by unfold tS at a;cases b:(gx E ops o).af st with|none=>grind|some u=>exact Sm b
theorem ahz(ops:Array gE):(List.range ops.size).map (λ i=>ops[i]?)=ops.toList.map some:=by apply ih;grind
theorem S7(h:aD P w0 conc st a w):aD P w0 conc (jO st) a w:=by
 refine({g:=h.g,n:=h.n,m:=?_,k:=?_,q:=h.q,r:=h.r,t:=h.t,f:=h.f,e:=h.e,u:=h.u,x:=h.x,h:=h.h,l:=h.l}:aD P w0 conc (jO st) a w);intro d sl b;unfold jO at b;simp only at b;rw[Map.Fy (λ sl:fX=>if sl.L.isEmpty then sl else⟨[],true,.v .nX⟩)]at b;cases c:Map.av st.a d with
 |none=>rw[c]at b;cases b
 |some j=>
  rw[c]at b;simp only[gb,Option.some.injEq]at b;intro p hp;split at b;rename_i i;subst b;rw[sr]at i;rw[i]at hp;cases hp;subst b;cases hp
 intro d sl b;unfold jO at b;simp only at b;rw[Map.Fy (λ sl:fX=>if sl.L.isEmpty then sl else⟨[],true,.v .nX⟩)]at b;cases c:Map.av st.a d with
 |none=>rw[c]at b;cases b
 |some j=>
  rw[c]at b;simp only[gb,Option.some.injEq]at b;obtain⟨v,o,s⟩:=h.k d j c;refine⟨v,o,?_⟩;split at b
  grind
  subst b;exact⟨λ _=> ⟨rfl,trivial⟩,absurd (cG _)⟩
theorem LM(h:cT P w0 st a w):cT P w0 (jO st) a w:=by have⟨conc,h⟩:=h;exact⟨_,S7 h⟩
theorem ahy{st d sl}(a:Map.av (jO st).a d=some sl):sl.L= []:=by unfold jO at a;simp only at a;rw[Map.Fy (λ sl:fX=>if sl.L.isEmpty then sl else⟨[],true,.v .nX⟩)]at a;cases b:Map.av st.a d with|none=>rw[b]at a;cases a|some e=>
 rw[b]at a;simp only[gb,Option.some.injEq]at a;split at a;rename_i c;subst a;exact sr.1 c;subst a;rfl
end
section
variable[Dr]
variable{P:ef}{E:aq}{w0:bC}{w:eb}{st:au}{a:np}
variable {F:Nat->FP} {u:er} {β R:Type} {l:W} {id:Nat} {m:Option Nat}
structure jx(st st':au):Prop where
 N:st'.N=st.N
 e:∀m,m∈st'.d↔m∈st.d
 b:∀d,Map.av st'.a d=Map.av st.a d
 f:∀id,Map.av st'.b id=Map.av st.b id
 c:st'.c=st.c
theorem jx.i(st):jx st st:= ⟨rfl,λ _=>Iff.rfl,λ _=>rfl,λ _=>rfl,rfl⟩
theorem jx.j{st st'}(h:jx st st'):jx st' st:= ⟨h.N.symm,λ m=>(h.e m).symm,λ d=>(h.b d).symm,λ d=>(h.f d).symm,h.c.symm⟩
theorem jx.h{a b c}(h:jx a b)(e:jx b c):jx a c:= ⟨e.N.trans h.N,λ m=>(e.e m).trans (h.e m),λ d=>(e.b d).trans (h.b d),λ d=>(e.f d).trans (h.f d),e.c.trans h.c⟩
theorem jx.g{st st'}(h:jx st st')(c:cT P w0 st a w):cT P w0 st' a w:=by have⟨conc,m⟩:=c;exact⟨_,{g:=m.g,n:=by rw[m.n,h.N],m:=λ d sl b p hp=>(h.e _).2 (m.m d _ (by rw[<-h.b];omega) p hp),k:=λ d sl b=>m.k d _ (by rw[<-h.b];omega),q:=λ id ver o i=>m.q _ _ o (by rw[<-h.f];omega),r:=λ id b=>m.r _ (by rw[<-h.f];omega),t:=m.t,f:=m.f,e:=m.e,u:=m.u,x:=m.x,h:=m.h,l:=λ s j=>m.l s (by rw[<-h.c];omega)}⟩
theorem Gc(m:RM β):∀{st st':au},(∀d,(d,true)∈m.ij st->Map.av st'.a d=Map.av st.a d)->(∀d,(d,false)∈m.ij st->Map.av st'.b d=Map.av st.b d)->m.af st'=m.af st/\m.ij st'=m.ij st:=by induction m with
 |aA b=>intros;trivial|aa=>intros;trivial|nh d f a=>grind[RM.ij,Map.av,gl,RM.af]|dS d f a=>grind[RM.ij,Map.av,gl,RM.af]|dG g m f a=>intro st st' c e;cases m with|none=>trivial|some x=>exact a x c e
theorem ain(m:RM β)(st):∀K:β->List pD->Option R,m.si st K=(m.af st).bind λ x=>K x (m.ij st):=by induction m with|aA b=>intro K;rfl|aa=>intro K;rfl|nh d f a=>grind[RM.si,RM.af,RM.ij]|dS id f a=>grind[RM.si,RM.af,RM.ij]|dG c m f a=>intro K;cases m with|none=>rfl|some x=>grind[RM.si,RM.af,RM.ij]
def jQ(E:aq)(ops:Array gE)(F:Nat->FP):List Nat->au->au->Prop| [],st,st'=>jx st st'|i::l,st,st'=>∃o u a,ops[i]?=some o/\(gx E ops o).af st=some u/\(gx E ops o).ij st=(F i).r/\u.b=(F i).w/\cD st (kS ops o) u=some a/\jQ E ops F l a st'
theorem aeX(h:id∉aV l)(m):Map.av (eX m l) id=Map.av m id:=by
 rcases vy m l id with⟨b,_⟩| ⟨o,_,a⟩;omega;exact absurd (et.2 ⟨_,a,rfl⟩) h
theorem Js{m m'}(h:Map.av m' id=Map.av m id):Map.av (eX m' l) id=Map.av (eX m l) id:=by induction l generalizing m m' with|nil=>exact h|cons p l a=>exact a (by grind[Map.lq])
theorem Eo{a}(h:cD st m u=some a):a.N=st.N/\a.d=nT m st.d/\(∀d,(d,true)∉u.b->Map.av a.a d=Map.av st.a d)/\(∀d,(d,false)∉u.b->Map.av a.b d=Map.av st.b d)/\a.b=eX st.b u.d/\(∀d sl,u.c=some (d,sl)->st.e d=true/\xY m d=false/\a.a=Map.jw st.a d sl)/\(u.c=none->a.a=st.a)/\a.c=st.c:=by
 unfold cD at h;have⟨b,c⟩:=u;have i:∀d,(d,false)∉(er.b ⟨b,c⟩)->Map.av (eX st.b c) d=Map.av st.b d:=by intro d e;refine aeX (λ f=>e ?_) _;refine fl _ ?_;have⟨p,hp,g⟩:=et.1 f;grind
 cases b with
 |none=>grind|some p=>grind[xY,hY,Map.lq,er.b,Option.some.injEq,Prod.mk.injEq]
theorem Vk{e b}(h:cD st m u=some e)(a:jx st b):∃f,cD b m u=some f/\jx e f:=by
 have⟨g,l⟩:=u;have c:∀q,q∈nT m b.d↔q∈nT m st.d:=by intro q;cases m with|none=>exact a.e q|some s=>simp[nT,hR,a.e]
 unfold cD at h⊢;cases g with|none=>cases h;exact⟨_,rfl,a.N,c,a.b,λ id=>Js (a.f _),a.c⟩|some p=>
  have⟨d,sl⟩:=p;dsimp only at h⊢;have j:b.e d=st.e d:=by rw[Bool.eq_iff_iff,pa,pa,a.N,a.e,a.c]
  rw[j];cases i:(st.e d&&!xY m d)with|false=>grind|true=>rw[i]at h;cases h;exact⟨_,rfl,a.N,c,λ k=>by simp[Map.lq,a.b],λ id=>Js (a.f _),a.c⟩
theorem jQ.c{ops}:(l:List Nat)->{st st' b:au}->jQ E ops F l st st'->jx st b->jQ E ops F l b st'| [],st,st',b,h,a=>a.j.h h|i::l,st,st',b,⟨o,u,st1,h1,h2,h3,h4,h5,h6⟩,a=>by have c:=Gc (gx E ops o) (st:=st) (st':=b) (λ d _=>a.b d) (λ d _=>a.f d);have⟨f,k1,e⟩:=Vk h5 a;exact⟨o,u,_,h1,c.1.trans h2,c.2.trans h3,h4,k1,jQ.c l h6 e⟩
theorem adf{ops o s}(a:(gx E ops o).af st=some u)(b:kS ops o=some s):(s,true)∈(gx E ops o).ij st:=by grind[kS,gx,zO,RM.ij]
theorem ur{l m}(h:DO l m=true){k}(a:k∈l):k∉m:=by intro b;have:=kR.1 h k a;grind[hY,List.any_eq_false,Od,gF]
theorem jQ.d{ops F i j l st st'}(h:jQ E ops F (i::j::l) st st')(D:tW (F i) (F j)=true):jQ E ops F (j::i::l) st st':=by
 have⟨o,u,af,N,O,w,q,P,c,f,st2,L,B,n,v,M,Q⟩:=h;simp[tW,ee]at D;have⟨⟨d1,d2⟩,d3⟩:=D;have⟨U,p2,p3,p4,ai,V,aj,W⟩:=Eo P;have G:=Gc (gx E ops c) (st:=af) (st':=st) (λ d b=>(p3 d (λ a=>by rw[n]at b;rw[q]at a;exact ur d1 a b)).symm) (λ d b=>(p4 d (λ a=>by rw[n]at b;rw[q]at a;exact ur d1 a b)).symm);have aa:(gx E ops c).af st=some f:=G.1.trans B;have T:(gx E ops c).ij st=(F j).r:=G.2.trans n;have⟨ak,X,Y,al,am,Z,an,ao⟩:=Eo M;have R:∃g,cD st (kS ops c) f=some g:=by unfold cD;cases b:f.c with|none=>exact⟨_,rfl⟩|some p=>
  have⟨d,sl⟩:=p;have⟨m1,m2,_⟩:=Z d sl b;have:st.e d=true:=by have⟨y,t,z⟩:=pa.1 m1;refine pa.2 ⟨by rw[<-U];exact y,λ a=>t ?_,by rw[<-W];exact z⟩;rw[p2];cases kS ops o<;>simp[nT,a]
  dsimp only;rw[this,m2];exact⟨_,rfl⟩
 have⟨g,J⟩:=R;have⟨ab,K,ac,ad,ap,aq,ar,ae⟩:=Eo J;have H:=Gc (gx E ops o) (st:=st) (st':=g) (λ d b=>ac d (λ a=>by rw[w]at b;rw[v]at a;exact ur d2 a b)) (λ d b=>ad d (λ a=>by rw[w]at b;rw[v]at a;exact ur d2 a b));have r:∃A,cD g (kS ops o) u=some A:=by unfold cD;cases b:u.c with
  |none=>exact⟨_,rfl⟩|some p=>
   have⟨d,sl⟩:=p;have⟨m1,m2,_⟩:=V d sl b;have:g.e d=true:=by have⟨y,t,z⟩:=pa.1 m1;refine pa.2 ⟨by rw[ab];exact y,λ a=>?_,by rw[ae];exact z⟩;rw[K]at a;cases x:kS ops c with|none=>rw[x]at a;exact t a|some s=>
    rw[x]at a;rcases hR.1 a with e|a
    have I:=adf B x;rw[n]at I;refine ur d1 (k:=(d,true)) ?_ (by rw[e];exact I);rw[<-q];unfold er.b;rw[b];simp;exact t a
   grind
 have⟨A,r⟩:=r;have⟨av,ag,ah,aw,ax,ay,az,aA⟩:=Eo r;have heq:jx st2 A:=by
  refine⟨by omega,λ m=>?_,λ d=>?_,λ id=>?_,by grind⟩;rw[ag,K,X,p2];cases kS ops o<;>cases kS ops c<;>simp only[nT,hR]
  grind
  by_cases b:(d,true)∈u.b;have C:(d,true)∉f.b:=by grind[ur]
  rw[Y d C];cases S:u.c with
  |none=>grind
  |some p=>
   grind[Map.lq]
  rw[ah d b];by_cases C:(d,true)∈f.b;cases S:f.c with
  |none=>grind
  |some p=>
   grind[Map.lq]
  grind
  by_cases b:(id,false)∈u.b
  all_goals grind[id,ur,Js]
 exact⟨_,_,_,L,aa,T,v,J,o,u,_,N,H.1.trans O,H.2.trans w,q,r,jQ.c l Q heq⟩
theorem jQ.b{ops i q}:(p:List Nat)->{st st':au}->jQ E ops F (p++i::q) st st'->(∀j∈p,tW (F j) (F i)=true)->jQ E ops F (i::(p++q)) st st'| [],st,st',h,_=>h|j::p,st,st',⟨o,u,st1,h1,h2,h3,h4,h5,h6⟩,hi=>by have:=jQ.b p h6 λ k a=>hi k (gl _ a);exact jQ.d (i:=j) (j:=i) (l:=p++q) ⟨o,u,_,h1,h2,h3,h4,h5,this⟩ (by grind)
theorem Tf{b g}:∀fs i,yh b g i fs=true->∀k f,fs[k]?=some f->hy b (i+k)=true\/tW f g=true| [],i,h,k,f,a=>by simp at a|c::r,i,h,k,f,a=>by simp[yh,ee,s4]at h;cases k with|zero=>simp[hJ,Option.some.injEq]at a;subst a;exact h.1|succ k=>simp[ml]at a;have:=Tf r (i+1) h.2 k f a;grind
theorem Ln{R ops d K}{r:R}:∀l fs st,(∀k o,l[k]?=some o->ops[fs.length+k]?=some o)->Bd E ops d l fs st K=some r->∃a st',a.length=l.length/\K st'=some r/\(∀F,(∀k g,a[k]?=some g->F (fs.length+k)=g)->jQ E ops F (List.range' fs.length l.length) st st')/\(∀i j f g,fs.length<=i->j<i->(fs++a)[i]?=some g->(fs++a)[j]?=some f->hy (d.getD i 0) j=true\/tW f g=true)
 | [],fs,st,n,h=>by refine⟨[],st,rfl,h,λ F t=>jx.i st,?_⟩;intro i j f g q s b c;rw[k5,List.getElem?_eq_none q]at b;cases b|o::l,fs,st,n,h=>by rw[Bd,ain]at h;cases p:(gx E ops o).af st with|none=>rw[p]at h;cases h|some u=>rw[p]at h;simp only[n2]at h;cases e:cD st (kS ops o) u with|none=>rw[e]at h;cases h|some z=>rw[e]at h;dsimp only at h;cases m:yh (d.getD fs.length 0) ⟨(gx E ops o).ij st,u.b⟩ 0 fs with|false=>rw[m]at h;cases h|true=>
     rw[m]at h;simp[cond_true]at h;have⟨a,st',A,v,w,B⟩:=Ln l (fs++ [⟨(gx E ops o).ij st,u.b⟩]) z (λ k y D=>by have:=n (k+1) y (by trivial);grind) h;refine⟨⟨(gx E ops o).ij st,u.b⟩::a,st',by grind,v,λ F t=>?_,?_⟩;have h0:F fs.length= ⟨(gx E ops o).ij st,u.b⟩:=t 0 _ rfl;refine⟨o,u,_,by simpa using n 0 o rfl,p,by rw[h0],by rw[h0],e,?_⟩;have:=w F (λ k g C=>by rw[fx,qq,show fs.length+1+k=fs.length+ (k+1)from by omega];simp_all);grind;intro i j f g q s b c;rw[show fs++ ⟨(gx E ops o).ij st,u.b⟩::a=(fs++ [⟨(gx E ops o).ij st,u.b⟩])++a from by simp]at b c;by_cases x:i=fs.length;subst x;rw[lv (by simp),List.getElem?_append_right (by omega)]at b;simp[Nat.sub_self,hJ,Option.some.injEq]at b;rw[lv (by grind),lv s]at c;have:=Tf fs 0 m j f c;grind;grind
theorem Ku{a j}:∀es s,hy (uR es a s) j=true->hy s j=true\/∃e∈es,hL .any e=true/\(e.on=j\/hy (a.getD e.on 0) j=true)| [],s,h=> .inl h|e::r,s,h=>by rw[uR]at h;rcases Ku r _ h with h| ⟨b,c,d,f⟩;all_goals grind
theorem Sl:∀l a,∃r,qo l a=a++r/\∀k o,l[k]?=some o->∀j,hy (r.getD k 0) j=true->∃e∈o.after.toList,hL .any e=true/\(e.on=j\/hy ((qo l a).getD e.on 0) j=true)
 | [],a=> ⟨[],by simp[qo],λ k o h=>by trivial⟩|o::l,a=>by
  have⟨r,n,d⟩:=Sl l (a++ [uR o.after.toList a 0]);have f:qo (o::l) a=qo l (a++ [uR o.after.toList a 0]):=by rw[qo,CheckFast.force_eq]
  refine⟨uR o.after.toList a 0::r,by grind,?_⟩;intro k p c j b;rw[f];cases k with
  |zero=>simp[hJ,Option.some.injEq]at c;subst c;rw[List.getD_cons_zero]at b;rcases Ku _ _ b with h| ⟨e,g,i,m⟩;all_goals grind|succ k=>exact d k _ (by grind) j (by grind)
theorem SJ:∀l i,yq i l=true->∀k o,l[k]?=some o->∀e∈o.after.toList,hL .any e=true->e.on<i+k
 | [],i,h,k,o,a=>by trivial|d::r,i,h,k,o,a=>by simp only[yq,ee]at h;cases k with|zero=>simp[hJ,Option.some.injEq]at a;subst a;intro e c b;have:=kR.1 h.1 e c;rw[b]at this;simpa using this|succ k=>have:=SJ r (i+1) h.2 k o (by simpa using a);intro e c b;have:=this e c b;omega
theorem T9(hE:al P E){rd nn ops}{B:Nat->Nat}{Q st2} (C:∀i o,ops[i]?=some o->∀j,hy (B i) j=true->∃e∈o.after.toList,hL .any e=true/\(e.on=j\/hy (B e.on) j=true)) (af:∀i o,ops[i]?=some o->∀e∈o.after.toList,hL .any e=true->e.on<i) (hI:∀i j,i<ops.size->j<i->hy (B i) j=true\/tW (F j) (F i)=true) (R:∀a' w',cT P w0 st2 a' w'->Q .normal a' w'):∀n listed l{st:au}{a:np}{w:eb},l.length=n->l.Pairwise (· < ·)->listed.size=ops.size->(∀i,i∈l↔i<ops.size/\listed.getD i true=false)->(∀i,i<ops.size->i∉l->∀j,hy (B i) j=true->j∉l)->cT P w0 st a w->jQ E ops F l st st2->wpAnyIn (Fr rd) nn P .any ops Q n listed a w:=by
 have X:∀(listed:Array Bool)i,i∈p1 .any ops listed↔i<ops.size/\listed.getD i true=false/\∃o,ops[i]?=some o/\∀e∈o.after.toList,hL .any e=true->listed.getD e.on false=true:=by grind[p1,hY,Array.all_eq_true_iff_forall_mem,hL]
 have aj:∀(listed:Array Bool)(l:List Nat),listed.size=ops.size->(∀i,i∈l↔i<ops.size/\listed.getD i true=false)->∀i,i<ops.size->(listed.getD i false=true↔i∉l):=by grind
 intro n
 induction n with|zero=>intro listed l st a w s hp v c H d f;have:l= []:=o2 s;subst this;refine⟨?_,R a w (jx.g f d)⟩;simp_all[List.eq_nil_iff_forall_not_mem,absurd]|succ n T=>
  intro listed l st a w s hp v c H d f;constructor;intro ah;cases l with
  |nil=>trivial
  |cons h0 t=>
   have⟨ac,ad⟩:=(c h0).1 kk
   grind[p1,rL]
  intro i I;have⟨g,A,o,h,ae⟩:=(X _ _).1 I;have J:i∈l:=(c i).2 ⟨g,A⟩;obtain⟨p,q,rfl⟩:=List.append_of_mem J;have D:∀j,hy (B i) j=true->j∉p++i::q:=by
   intro j b;have⟨e,Z,aa,ab⟩:=C i o h j b
   grind
  have O:=List.pairwise_append.1 hp;have N:∀j∈p,j<i:=λ j b=>O.2.2 j b i kk;have S:=jQ.b p f λ j b=>(hI i j g (N j b)).resolve_left λ G=>D j G (by grind);have⟨U,u,Y,ak,z,am,an,V,W⟩:=S;have M:U=o:=by grind
  subst M;have x:=Pj hE d z V;have ai:i∉p++q:=by
   grind[absurd,rL]
  have next:∀a' w',cT P w0 Y a' w'->wpAnyIn (Fr rd) nn P .any ops Q n (listed.setIfInBounds i true) a' w':=by
   intro a' w' L;refine T _ _ (by grind) ?_ (by grind) ?_ ?_ L W
   grind
   intro k;have m:=c k;by_cases r:k=i;simp_all;have:(k∈p++q)↔(k∈p++i::q):=by grind
   rw[this,m];by_cases K:k<ops.size;simp[v,K,Ne.symm r];omega;intro k m ag j b;by_cases r:k=i
   all_goals grind
  unfold wpOpIn;rw[h];dsimp only;cases y:hF _ _ with
  |true=>
   exact H7 (Sm z) (x.1 y _ Q (by omega))
  |false=>
   exact⟨λ _ _=>trivial,next _ _ (x.2 y)⟩
end
end Go.Abs
