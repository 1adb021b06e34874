/- Part of a proof that the statement holds. No conditions. -/
import Derived.Conc.Own
import GoSem.Dispatch
import Derived.Laws.Sem
import Derived.RunT
import Derived.Conc.Events
import Derived.KernelRfl
import Derived.Conc.Beside
import Derived.Conc.CrowdComm
import Derived.Conc.CrowdCom2
set_option linter.all false
open Go renaming World->b2,Value->df,Sem->dk,stepG->dr,Frame->ea,Goroutine->eb,lone->ee,Program->ef,undef->eg,Addr->eo,stuck->ew,runN->eQ,underlying->gw,execOp->gE,TypeId->hg,Deferred->hs,MapEntry->ht,step->hv,binOp->hy,Question->hA,Item->hB,Operand->hG,asAddr->hJ,invoke->hL,unwind->hM,Event->hN,seen->hP,typeInfo->hQ,program->hR,exitTo->hS,behindNumber->ih,results->jA,FuncId->j1,newRow->j2,elemOf->j3,Trace->kg,runNT->kk,Obj->ko,boundsPanic->kV,callFunc->k5,eqGuard->k6,cellAtBytes->l4,movedNumber->l7,byteOfCell->mb,zeroValue->mo,doReturn->mv,yielded->mx,sizeOf->mA,GStep->mZ,Next->nb,runT->nc,deafBehind->nH,askRoom->n3,loadVar->oj,method->o0,Code->o1,Func->o2,loadCellsFrom->pV,HappensBefore->p7,loadCells->q3,asNumber->q4,newObj->q5,runtimePanic->sv,cellOfByte->tv,receiverAt->u0,callMethod->u1,IntKind->vE,MemAct->vR,markStringish->D3,FrameMode->PH
open Pure renaming pure->cr
open Bool renaming and_eq_true->ei,false_eq_true->hF,eq_iff_iff->JD,not_false->N1
open Go.Conc renaming Deaf->ej,Knows->ep,mem_ofEvents->fR,touchAt->gb,crowd->gf,rcase->hz,served->jc,heard_old->kH,Before->k3,act?_old->lB,awake_of->l1,parked->l9,ofEvent_cell0->nv,touch_of->nz,Past->nL,knows_own->pS,hb_app->qF,scase->q0,runT_crowd_go->rH,lt_of_act?->r3,touch_mute->r5,seen_app->sr,Leavers->s8,woken->u2,getElem?_append_cases->xM,mem_of_getElem?->x2,noRace_append->y4,Deaf_other->z1,low_mute->G5
open Go.GStep renaming after->en
open Go.Sem renaming run->et,bind->eL,runT->fb,runT_fst->qc,getObj->tm,store->O6
open Go.MemOp renaming ofEvents->eH
open Go.Instr renaming sameBits->eV,enterLoop->fx,sliceBound->hZ,sliceBounds->lb,checkKey->lA,fill->ma,takeDeferred->np,beginRound->pH,findKey->p1,getLoop->p5,keyThatStays->rr,endRound->sc,makeInterface->yl,buildSlice->y5,findAsking->y6,makeSlice->zh,mapUpdate->zj,sureAddr->z6,makeFunc->AI,storeAt->A2,extract->BP,makeMap->B1,fieldAt->B2,indexAt->Cv,sliceAt->C8,endLoop->FU,loadAt->I0,lookup->JR,alloc->LS,field->L1,index->L2,build->L3,slice->NT,range->N2,entry->N3,yield->N4,box->Pl
open Option renaming bind_eq_some_iff->fl,map_eq_some_iff->hY,elim_none->p6,getD_some->Gw,bind_some->GY
open Go.ConcN renaming upd_ne->fu,upd->fv,upd_same->gu
open Nat renaming le_refl->fz,le_trans->gl,lt_of_lt_of_le->hh,zero_add->vj
open Go.MemAct renaming ofEvent->gg,touch?->hq,low_mono->zt
open Go.stepG renaming exec->gk,oper->k4
open Go.Builtin renaming firstCells->hD,unsafeAdd_->pt,zeroCells->pv,mayShare->rV,append_->r1,copy_->sf,len_->sy,cap_->s0,min_->s5,max_->s7,holdsCells->yt,lenOf->Dd,min2->Lk,max2->Ls
open Array renaming getElem?_eq_some_iff->hU,append_empty->kp,forIn_toList->kq,mem_append->kL,getElem?_eq_getElem->k7,all_eq_true_iff_forall_mem->nf,getElem?_setIfInBounds_ne->ng,append_push->ny,range->nV,mapM_eq_mapM_toList->pk,getElem?_append->pn,getElem?_map->pN,swapAt!->qW,getElem?_push->rL,foldl_toList->r2,isEmpty->tw,getElem?_setIfInBounds->x0,toList_filter->y9,find?_toList->zl,getElem_ofFn->zs,all_toList->D1,toList_zip->FQ,replicate->HY,ofFn->QP
open Go.Value renaming slice->iA,pointer->pX,tuple->qn
open List renaming all_eq_true->kR,forIn_cons->s4,mapM_cons->tc,range->vL,cons_append->F0,nil_append->Lt,all_cons->N6,find?->P9
open Go.Conv renaming bytesToString->k8,stringToBytes->y2,runesToString->y3
open Go.Deferred renaming ofValue->lf,target->lv
open Go.Target renaming collected->lk
open Go.Frame renaming round->l8,eval->qO,oper?->tl,pos->PK,enter->a6,finish->a7
open Go.Op renaming equalIn->ml,equal->mr,eqGuardIn->p8,maxDepth->qq,intDiv->vi,shift->vo,twoPlaces->Jx,addrMod->N5,addrSub->Oc,addrCmp->Ov
open Go.Made renaming depth->mm,reckonStruct->pz,reckon->qz,infoAt->tg
open Go.Event renaming mute->mn
open Go.World renaming freeze->nB,cell?->qi,frozen?->A1
open ForIn renaming forIn->n1
open Go.Trace renaming g?->n2
open Std.Legacy.Range renaming forIn_eq_forIn_range'->pc
open Go.Extern.BytealgIndexByte renaming indexByte->q6
open Go.Extern.BytealgCount renaming count->q7
open Go.Extern.BytealgIndex renaming index->q8,maxLen->w6
open Decidable renaming byContradiction->q9
open Go.Extern.Bytes renaming loadBytes->re,bytesOf->x1,asByte->ym
open Classical renaming byContradiction->rm,axiomOfChoice->x3
open Go.Goroutine renaming again->r4
open Go.Region renaming wanted->so,schedule->zr
open Go.Question renaming appendCap->y0
open Go.CallKind renaming wrapped->za
open Go.Tables renaming info?->JZ
open Go.Item renaming code->P8
open Go.Stepped.next renaming inj->QT
open Option.some renaming inj->R0
open Ne renaming symm->bb
noncomputable section
namespace Go.Rs
open Go.Conc
open Go.ConcN (sumTo upd sumTo_upd upd_ne upd_same sumTo_congr)
section
variable{xs ys:Array Value}{y x:Value}{o o':Obj}
def r9:Addr:= ⟨0,0,some 7⟩
class aW where
 n:Nat
 c:o1->Bool
 e:Nat->df->Prop
 d:∀r a b,e r a->e r b->a=b
class ck where
 a:j1->Bool
 b:Nat
class Gl where
 a:Nat->Bool
instance I9:Gl:= ⟨λ _=>false⟩
variable[aW][ck][Gl]
structure ah where
 h:Nat->Nat->Prop
 f:∀r a b,h r a->h r b->a=b
 e:∀r s a,h r a->h s a->r=s
 d:∀r a,h r a->(r<aW.n↔a<aW.n)
 c:∀g,Gl.a g=true->h g g
instance:CoeFun ah (λ _=>Nat->Nat->Prop):= ⟨ah.h⟩
def bF(β b:ah):=∀r a,β r a->b r a
theorem bF.b(β):bF β β:=λ _ _ h=>h
theorem bF.a{β b c}(h:bF β b)(d:bF b c):bF β c:=λ r a x=>d r a (h r a x)
def AR(β:ah)(a a':eo):=β a.block a'.block/\a.off=a'.off/\a.spot=a'.spot
def AO(β:ah):Option eo->Option eo->Prop|none,none=>True|some a,some a'=>AR β a a'|_,_=>False
def NO(β:ah):Option Nat->Option Nat->Prop|none,none=>True|some a,some a'=>β a a'|_,_=>False
def rq:df->Bool| .pointer (some _)| .chan (some _)=>true|_=>false
def FR(β:ah):Fn->Fn->Prop| .yield l,.yield l'=>β l l'| .func f,.func f'=>f=f'/\ck.a f=false|_,_=>False
theorem AR.a{β b}(h:bF β b){a a'}(x:AR β a a'):AR b a a':= ⟨h _ _ x.1,x.2⟩
theorem AO.a{β b}(h:bF β b):{a a':Option eo}->AO β a a'->AO b a a'|none,none,_=>trivial|some _,some _,x=>AR.a h x|none,some _,x=>x.elim|some _,none,x=>x.elim
theorem NO.a{β b}(h:bF β b):{a a':Option Nat}->NO β a a'->NO b a a'|none,none,_=>trivial|some _,some _,x=>h _ _ x|none,some _,x=>x.elim|some _,none,x=>x.elim
theorem FR.a{β a}(h:bF β a){f f'}(x:FR β f f'):FR a f f':=by cases f<;>cases f'<;>first|exact x|exact h _ _ x|exact x.elim
def p9:df->Bool| .func (.func _) _ _| .func (.yield _) _ _=>false| .func _ _ _=>true|_=>false
theorem pT(h:p9 y=true):∃f a b,y= .func f a b:=by cases y<;>first|exact⟨_,_,_,rfl⟩| (simp[p9]at h)
theorem pr(h:rq y=true):(∃a,y= .pointer (some a))\/∃a,y= .chan (some a):=by cases y with
 |pointer a=>cases a with|none=>cases h|some a=>simp
 |chan a=>cases a with|none=>cases h|some a=>simp
 |_=>cases h
def od:df->Bool| .bool _| .agg _| .tuple _| .pointer none| .nilIface| .nilFunc=>false|v=>!p9 v
inductive VR(β:ah):df->df->Prop|fY (b:Bool):VR β (.bool b) (.bool b)|cx (k:vE) (n:Int):VR β (.int k n) (.int k n)|eI (s:ByteArray):VR β (.string s) (.string s)|nG:VR β .nilFunc .nilFunc|mj:VR β .nilIface .nilIface|dc {a a':Option eo} (h:AO β a a'):VR β (.pointer a) (.pointer a')|dz {a a':Option eo} (h:AO β a a') (n c:Nat):VR β (.slice a n c) (.slice a' n c)|ez (a':eo):VR β (.slice (some r9) 0 0) (.slice (some a') 0 0)|kM {r r':Option Nat} (h:NO β r r'):VR β (.map r) (.map r')|me:VR β (.chan none) (.chan none)|gW {r:Nat} {y:df} (h:aW.e r y) (hp:rq y=true):VR β (.chan (some r)) y|sg {f f':Fn} {xs ys us vs:Array df} (d:FR β f f') (h1:xs.size=ys.size) (h2:∀(i:Nat) v v',xs[i]?=some v->ys[i]?=some v'->VR β v v') (h3:us.size=vs.size) (h4:∀(i:Nat) v v',us[i]?=some v->vs[i]?=some v'->VR β v v'):VR β (.func f xs us) (.func f' ys vs)|qM (t:hg) {v v':df} (h:VR β v v'):VR β (.iface t v) (.iface t v')|gU {xs ys:Array df} (h1:xs.size=ys.size) (h2:∀(i:Nat) v v',xs[i]?=some v->ys[i]?=some v'->VR β v v'):VR β (.agg xs) (.agg ys)|nA {xs ys:Array df} (h1:xs.size=ys.size) (h2:∀(i:Nat) v v',xs[i]?=some v->ys[i]?=some v'->VR β v v'):VR β (.tuple xs) (.tuple ys)|jL {y:df} (h:p9 y=true):VR β .nilFunc y|fy {y:df} (h:od y=true):VR β eg y
theorem VR.a{β f}(h:bF β f)(j:VR β x y):VR f x y:=by induction j with|fY b=>exact .fY b|cx k n=>exact .cx k n|eI s=>exact .eI s|nG=>exact .nG|mj=>exact .mj|dc x=>exact .dc (x.a h)|dz x n c=>exact .dz (x.a h) n c|ez a=>exact .ez a|kM x=>exact .kM (x.a h)|me=>exact .me|gW h hp=>exact .gW h hp|sg i d _ g _ l m=>exact .sg (i.a h) d l g m|qM t _ e=>exact .qM t e|gU d _ e=>exact .gU d e|nA d _ e=>exact .nA d e|jL h=>exact .jL h|fy h=>exact .fy h
def AV(β:ah)(xs ys:Array df):=xs.size=ys.size/\∀(i:Nat)v v',xs[i]?=some v->ys[i]?=some v'->VR β v v'
theorem AV.a{β c}(h:bF β c)(x:AV β xs ys):AV c xs ys:= ⟨x.1,λ i v v' a b=>(x.2 i v _ a b).a h⟩
theorem AV.d{β}(h:AV β xs ys)(i:Nat):(xs[i]?=none/\ys[i]?=none)\/∃v v',xs[i]?=some v/\ys[i]?=some v'/\VR β v v':=by
 by_cases a:i<xs.size;have b:i<ys.size:=h.1▸a;exact .inr ⟨_,_,k7 a,k7 b,h.2 i _ _ (by grind) (by grind)⟩;have b:¬i<ys.size:=h.1▸a
 grind
theorem AV.k{β}(h:AV β xs ys)(i){d a}(f:VR β d a):VR β (xs.getD i d) (ys.getD i a):=by rcases h.d i with⟨b,c⟩| ⟨v,v',b,c,e⟩;all_goals simp_all
theorem AV.e(β):AV β #[] #[]:= ⟨rfl,by grind⟩
theorem AV.c{β}(h:VR β x y):AV β #[x] #[y]:= ⟨rfl,λ i v v' a b=>by grind⟩
theorem AV.h{β}(h:AV β xs ys)(d:VR β x y):AV β (xs.push x) (ys.push y):=by
 refine⟨by simp[h.1],λ i v v' a b=>?_⟩;rw[rL]at a b;by_cases c:i=xs.size;rw[if_pos (h.1▸c)]at b
 grind
 rw[if_neg c]at a;rw[if_neg (h.1▸c)]at b;exact h.2 i v _ a b
theorem AV.b{β us vs}(h:AV β xs ys)(d:AV β us vs):AV β (xs++us) (ys++vs):=by refine⟨by simp[h.1,d.1],λ i v v' a b=>?_⟩;rw[pn]at a b;by_cases c:i<xs.size;rw[if_pos c]at a;rw[if_pos (h.1▸c)]at b;exact h.2 i v _ a b;rw[if_neg c]at a;rw[if_neg (h.1▸c),<-h.1]at b;exact d.2 _ v _ a b
theorem AV.l{β}(h:AV β xs ys)(k)(d:VR β x y):AV β (xs.setIfInBounds k x) (ys.setIfInBounds k y):=by refine⟨by simp[h.1],λ i v v' a b=>?_⟩;rw[x0]at a b;by_cases c:k=i;grind;rw[if_neg c]at a b;exact h.2 i v _ a b
theorem AV.m{β}(h:AV β xs ys)(a b):AV β (xs.extract a b) (ys.extract a b):=by refine⟨by simp[h.1],λ i v v' c d=>?_⟩;rw[Array.getElem?_extract]at c d;rw[h.1]at c;split at c;rw[if_pos ‹_›]at d;exact h.2 _ v _ c d;trivial
theorem AV.f{β}(n)(h:VR β x y):AV β (HY n x) (HY n y):=by refine⟨by simp,λ i v v' a b=>?_⟩;grind
theorem AV.j{β}{α:Type}(l:Array α){f g}(h:∀a∈l,VR β (f a) (g a)):AV β (l.map f) (l.map g):=by refine⟨by simp,λ i v v' b c=>?_⟩;grind
theorem AV.i{β l}(h:∀v∈l,VR β v v):AV β l l:= ⟨rfl,λ i v v' a b=>by grind⟩
theorem VR.c(β):VR β eg undef:= .nA rfl (by grind)
theorem VR.b{β}(h:AV β xs ys):VR β (.tuple xs) (.tuple ys):= .nA h.1 h.2
theorem VR.d{β}(h:AV β xs ys):VR β (.agg xs) (.agg ys):= .gU h.1 h.2
theorem VR.f{β f f' us vs}(b:FR β f f')(h:AV β xs ys)(a:AV β us vs):VR β (.func f xs us) (.func f' ys vs):= .sg b h.1 h.2 a.1 a.2
theorem VR.e{β x y}(h:VR β x y):AV β x.cells y.cells:=by cases h with
 |gU d e=>trivial|jL h=>cases y<;>first| (simp[p9]at h;done)|exact AV.c (.jL h)
 |fy h=>cases y<;>first| (simp[od]at h;done)|exact AV.c (.fy h)
 |fY b=>exact AV.c (.fY b)|cx k n=>exact AV.c (.cx k n)|eI s=>exact AV.c (.eI s)|nG=>exact AV.c .nG|mj=>exact AV.c .mj|dc x=>exact AV.c (.dc x)|dz x n c=>exact AV.c (.dz x n c)|ez a=>exact AV.c (.ez a)|kM x=>exact AV.c (.kM x)|me=>exact AV.c .me|gW h hp=>cases y<;>first| (simp[rq]at hp;done)|exact AV.c (.gW h hp)
 |sg i d e f g=>exact AV.c (.sg i d e f g)|qM t x=>exact AV.c (.qM t x)|nA d e=>exact AV.c (.nA d e)
def TR(β:ah):Target->Target->Prop| .fn f c,.fn f' c'=>FR β f f'/\AV β c c'| .nil,.nil=>True| .builtin b a t k,.builtin d a' t' k'=>b=d/\a=a'/\t=t'/\k=k'| .collected r,.collected r'=>β r r'|_,_=>False
def DR(β:ah)(d a:hs):=TR β d.target a.target/\AV β d.args a.args
def DL(β:ah):List hs->List hs->Prop| [],[]=>True|d::l,d'::l'=>DR β d d'/\DL β l l'|_,_=>False
theorem TR.a{β a}(h:bF β a){t t'}(x:TR β t t'):TR a t t':=by cases t<;>cases t'<;>first|exact x.elim|exact trivial|exact x|exact⟨x.1.a h,x.2.a h⟩|exact h _ _ x
theorem DR.a{β b}(h:bF β b){d a}(x:DR β d a):DR b d a:= ⟨x.1.a h,x.2.a h⟩
theorem DL.a{β a}(h:bF β a):{l l':List hs}->DL β l l'->DL a l l'| [],[],_=>trivial|_::_,_::_,x=> ⟨x.1.a h,DL.a h x.2⟩| [],_::_,x=>x.elim|_::_,[],x=>x.elim
theorem DL.b{β}:{l l' m m':List hs}->DL β l l'->DL β m m'->DL β (l++m) (l'++m')| [],[],_,_,_,h=>h|_::_,_::_,_,_,x,h=> ⟨x.1,DL.b x.2 h⟩| [],_::_,_,_,x,_=>x.elim|_::_,[],_,_,x,_=>x.elim
def ER(β:ah)(e a:ht):=VR β e.key a.key/\VR β e.val a.val/\e.born=a.born
def EA(β:ah)(es b:Array ht):=es.size=b.size/\∀(i:Nat)e a,es[i]?=some e->b[i]?=some a->ER β e a
theorem EA.c{β d}(h:bF β d){es c}(x:EA β es c):EA d es c:= ⟨x.1,λ i e f a b=>let⟨p,q,r⟩:=x.2 i e _ a b; ⟨p.a h,q.a h,r⟩⟩
structure LR(β:ah)(l l':Loop):Prop where
 g:l.state=l'.state
 d:l.pending=l'.pending
 n:l.fn=l'.fn
 i:AV β l.tmps l'.tmps
 e:l.params=l'.params
 f:l.assign=l'.assign
 h:l.body=l'.body
 a:β l.defers l'.defers
 m:aW.c l.assign=true
 k:aW.c l.body=true
 j:∀c,l.pending=some c->aW.c c=true
theorem LR.b{β a}(h:bF β a){l l'}(x:LR β l l'):LR a l l':= ⟨x.1,x.2,x.3,x.4.a h,x.5,x.6,x.7,h _ _ x.8,x.9,x.10,x.11⟩
inductive OR(β:ah):Bool->ko->ko->Prop|jM {c c':Array df} (e:hg) (fr:Nat×Nat) (h:AV β c c'):OR β false (.cells c e fr) (.cells c' e fr)|qb {c c':Array df} (e:hg) (fr:Nat×Nat) (h:AV β c c'):OR β true (.cells c e (0,c.size)) (.cells c' e fr)|mw {es b:Array ht} (clock:Nat) (h:EA β es b):OR β false (.map es clock) (.map b clock)|tY (s:ByteArray) (pos:Nat):OR β false (.stringIter s pos) (.stringIter s pos)|rn {m m':Option Nat} (g:Nat) (f:Array Nat) (i:Nat) (h:NO β m m'):OR β false (.mapIter m g f i) (.mapIter m' g f i)|rh {l l':Loop} (h:LR β l l'):OR β false (.loop l) (.loop l')|xc:OR β false (.deferred (some [])) (.deferred (some []))|yE:OR β false (.deferred none) (.deferred none)|xE {a a':eo} (d:Bool) (h:AR β a a'):OR β false (.number a d) (.number a' d)
theorem OR.a{β d}(h:bF β d){f}(x:OR β f o o'):OR d f o o':=by cases x with|jM e fr x=>exact .jM e _ (x.a h)|qb e fr x=>exact .qb e _ (x.a h)|mw c x=>exact .mw c (x.c h)|tY s p=>exact .tY s p|rn a b c x=>exact .rn a b c (x.a h)|rh x=>exact .rh (x.b h)|xc=>exact .xc|yE=>exact .yE|xE l x=>exact .xE l (x.a h)
structure cw(F:Nat->Bool)(β:ah)(v w:b2):Prop where
 b:∀r a,β r a->∃o o',v.heap[r]?=some o/\w.heap[a]?=some o'/\OR β (F r) o o'
 c:∀r,F r=true->r<v.heap.size
 d:aW.n<=v.heap.size/\aW.n<=w.heap.size
def ah.i(β:ah)(r a:Nat)(n:∀s b,β s b->s≠r/\b≠a)(m:aW.n<=r/\aW.n<=a):ah where
 h:=λ s b=>β s b\/(s=r/\b=a)
 f:=by
  rintro s b c(x| ⟨i,j⟩)(y| ⟨k,l⟩);exact β.f s b c x y;all_goals grind
 e:=by
  rintro s t b(x| ⟨i,j⟩)(y| ⟨k,l⟩);exact β.e s t b x y;all_goals grind
 d:=by
  rintro s b(x| ⟨i,j⟩);exact β.d s b x;omega
 c:=λ g h=> .inl (β.c g h)
section
variable{F:Nat->Bool}{β:ah}{v w:World}
theorem cw.f(h:cw F β v w){r a}(x:β r a):r<v.heap.size/\a<w.heap.size:=by have⟨o,o',b,c,_⟩:=h.b r a x;grind
theorem cw.t(h:cw F β v w):∀s b,β s b->s≠v.heap.size/\b≠w.heap.size:=λ s b x=>by have:=h.f x;omega
def cw.h(h:cw F β v w):=β.i v.heap.size w.heap.size h.t h.d
theorem cw.e(h:cw F β v w):bF β h.h:=λ _ _ x=> .inl x
theorem cw.m(h:cw F β v w):h.h v.heap.size w.heap.size:= .inr ⟨rfl,rfl⟩
theorem cw.s(h:cw F β v w)(e:OR β false o o'):cw F h.h {v with heap:=v.heap.push o} {w with heap:=w.heap.push o'}:=by
 have b:=h.e;refine⟨?_,?_,?_⟩
 ·rintro r a(x| ⟨rfl,rfl⟩)
  ·have⟨p,p',g,i,c⟩:=h.b r a x;refine⟨p,_,?_,?_,c.a b⟩;all_goals grind
  ·refine⟨o,o',by simp,by simp,?_⟩;have:F v.heap.size=false:=by cases d:F _ with|false=>rfl|true=>have:=h.c _ d;omega
   rw[this];exact e.a b
 ·intro r f;have:=h.c r f;grind
 ·have:=h.d;grind
theorem cw.p(h:cw F β v w){r a}(x:β r a)(k:OR β (F r) o o'):cw F β {v with heap:=v.heap.setIfInBounds r o} {w with heap:=w.heap.setIfInBounds a o'}:=by
 refine⟨?_,?_,by simpa using h.d⟩;intro s b y;by_cases c:r=s;subst c;obtain rfl:=β.f r a b x y;have j:=h.f x
 grind
 have i:a≠b:=λ e=>c (β.e r s a x (e▸y));obtain⟨p,p',d,f,g⟩:=h.b s b y
 grind
 intro s c;have:=h.c s c
 grind
theorem cw.k(h:cw F β v w){v' w'}(b:v'.heap=v.heap)(f:∀r a,β r a->w'.heap[a]?=w.heap[a]?)(e:w.heap.size<=w'.heap.size):cw F β v' w':= ⟨λ r a x=>let⟨o,o',c,_,d⟩:=h.b r a x; ⟨o,_,b▸c,by grind,d⟩,b▸h.c,b▸h.d.1,gl h.d.2 e⟩
theorem cw.g(h:cw F β v w){v' w'}(a:v'.heap=v.heap)(b:w'.heap=w.heap):cw F β v' w':=h.k a (by grind) (by grind)
end
def jX:Halt->Bool| .panic _| .stuck _=>true| .unsupported (.initOrder _)=>false| .unsupported _=>true|_=>false
def AL:ko->Bool| .coro _| .chan .. =>false|_=>true
def Hd(v:b2):=∀(r:Nat)o,v.heap[r]?=some o->(∀l,o= .deferred (some l)->l= [])/\AL o=true
theorem Hd.a{v}(h:Hd v){o}(b:(∀l,o= .deferred (some l)->l= [])/\AL o=true):Hd {v with heap:=v.heap.push o}:=by intro q l a;rw[rL]at a;split at a;grind;exact h q l a
structure BH(v v2:b2)(x:Halt):Prop where
 a:jX x=true
 b:Hd v->Hd v2
theorem ru{α γ P}(f:α->dk γ):∀(s:dk α)v,(s.bind f).run P v=match s.run P v with| .ok a v2=>(f a).run P v2| .halt x v2=> .halt x v2:=by
 intro s
 induction s with
 |pure a=>intro v;rfl|load m a k b=>grind[eL,et]|store m a y k b=>
  intro v;cases y;case agg=>rfl
  case tuple=>rfl
  all_goals
   simp[eL,et];cases v.cell? a with
   |some _=>
    simp;cases v.frozen? a with
    |true=>rfl
    |false=>exact b _
   |none=>
    simp;split;exact b _;rfl
 |new o k b=>exact λ v=>b _ _|shape r k b=>exact λ v=>b _ _|freeze a n k b=>exact λ v=>b _|frozen a k b=>exact λ v=>b _ _|getObj r k b=>
  grind[eL,et]|setObj r o k b=>
  grind[eL,et]|choose q k b=>
  grind[eL,et]|sys c k b=>exact λ v=>b _ _|program k b=>exact λ v=>b _ _|mark m k b=>trivial|halt y=>exact λ v=>rfl
theorem ql{α γ P x v v2}(f:α->dk γ)(s:dk α)(h:s.run P v= .halt x v2):(s.bind f).run P v= .halt x v2:=by rw[ru,h]
def _root_.Go.World.tp(v:b2)(T:Nat->hA->Nat)(D:Nat):World:={v with tape:=T,drawn:=D}
section
variable(F:Nat->Bool)(P' P:Program)
inductive RS{α α':Type}(A:ah->α->α'->Prop):ah->dk α->dk α'->Prop|ak {β:ah} {a:α} {a':α'} (h:A β a a'):RS A β (.pure a) (.pure a')|ti {β:ah} {a a':eo} {k:df->dk α} {k':df->dk α'} (g:AR β a a') (c:∀x e,VR β x e->RS A β (k x) (k' e)):RS A β (.load .plain a k) (.load .plain a' k')|vW {β:ah} {a a':eo} {x e:df} {k:dk α} {k':dk α'} (g:AR β a a') (z:VR β x e) (c:RS A β k k'):RS A β (.store .plain a x k) (.store .plain a' e k')|oq {β:ah} {o d:ko} {k:Nat->dk α} {k':Nat->dk α'} (p:OR β false o d) (c:∀r r' i,bF β i->i r r'->F r=false->RS A i (k r) (k' r')):RS A β (.new o k) (.new d k')|nt {β:ah} {r r':Nat} {k:Option (hg×Nat)->dk α} {k':Option (hg×Nat)->dk α'} (j:β r r') (c:∀s,RS A β (k s) (k' s)):RS A β (.shape r k) (.shape r' k')|zv {β:ah} {a a':eo} {k:Bool->dk α} {k':Bool->dk α'} (g:AR β a a') (c:∀b l,RS A β (k b) (k' l)):RS A β (.frozen a k) (.frozen a' k')|vH {β:ah} {a a':eo} {n:Nat} {k:dk α} {k':dk α'} (g:AR β a a') (u:F a.block=false) (c:RS A β k k'):RS A β (.freeze a n k) (.freeze a' n k')|jF {β:ah} {r r':Nat} {k:ko->dk α} {k':ko->dk α'} (j:β r r') (c:∀o d,OR β false o d->RS A β (k o) (k' d)):RS A β (.getObj r k) (.getObj r' k')|mD {β:ah} {r r':Nat} {o d:ko} {k:dk α} {k':dk α'} (j:β r r') (p:OR β false o d) (c:RS A β k k'):RS A β (.setObj r o k) (.setObj r' d k')|uP {β:ah} {q:hA} {k:Nat->dk α} {k':Nat->dk α'} (c:∀n,RS A β (k n) (k' n)):RS A β (.choose q k) (.choose q k')|v8 {β:ah} {q:hA} {k:Nat->dk α} {s':dk α'} (n:Nat) (y:if q.forced then n=0 else∃t,q.cut t=n) (c:RS A β (k n) s'):RS A β (.choose q k) s'|wD {β:ah} {k:ef->dk α} {k':ef->dk α'} (c:RS A β (k P') (k' P)):RS A β (.program k) (.program k')|vc {β:ah} {m:Mark} {k:dk α} {k':dk α'} (w:m= .noRoom\/∃f,m= .extern f) (c:RS A β k k'):RS A β (.mark m k) (.mark m k')|gp {β:ah} {s:dk α} {s':dk α'} (h:∀v,∃x v2,s.run P' v= .halt x v2/\BH v v2 x):RS A β s s'|vA {β:ah} {s:dk α} {s':dk α'} (h:∀v,Hd v->∃x v2,s.run P' v= .halt x v2/\BH v v2 x):RS A β s s'
end
section
variable{F:Nat->Bool}{P' P:Program}{α α' γ γ':Type}
theorem RS.c{A C}{f:α->dk γ}{f':α'->dk γ'}{β s s'}(h:RS F P' P A β s s')(c:∀j a a',bF β j->A j a a'->RS F P' P C j (f a) (f' a')):RS F P' P C β (s.bind f) (s'.bind f'):=by induction h with|ak h=>exact c _ _ _ (bF.b _) h|ti d _ b=>exact .ti d (by grind)|vW d t _ b=>exact .vW d t (b c)|oq l _ b=>exact .oq l λ r r' j m e k=>b r _ _ m e k λu a a' g i=>c _ a _ (m.a g) i|nt e _ b=>exact .nt e λ s=>b s c|zv d _ b=>exact .zv d (by grind)|vH d k _ b=>exact .vH d k (b c)|jF e _ b=>exact .jF e (by grind)|mD e l _ b=>exact .mD e l (b c)|uP _ b=>exact .uP λ n=>b n c|v8 n p _ b=>exact .v8 n p (b c)|wD _ b=>exact .wD (b c)|vc o _ b=>exact .vc o (b c)|gp h=>exact .gp λ v=>let⟨x,_,g,i⟩:=h v; ⟨x,_,ql _ _ g,i⟩|vA h=>exact .vA λ v q=>let⟨x,_,g,i⟩:=h v q; ⟨x,_,ql _ _ g,i⟩
theorem RS.a{A:ah->α->α'->Prop}{β h s'}(a:jX h=true):RS F P' P A β (.halt h) s':= .gp λ v=> ⟨h,v,rfl,a,id⟩
def lQ(F:Nat->Bool)(β:ah)(e:hN):Prop:=match e.loc with| .cell a=>(∃r,β r a.block/\(e.write=true->F r=false))/\e.sync=false| .obj n=>(∃r,β r n/\(e.write=true->F r=false))/\e.sync=false| .mark m=>m= .noRoom\/∃f,m= .extern f|_=>False
theorem lQ.a{β d}(h:bF β d){e}(x:lQ F β e):lQ F d e:=by have⟨f,i,g⟩:=e;cases f<;>simp[lQ]at x⊢;have⟨⟨r,a,b⟩,c⟩:=x;exact⟨⟨r,h _ _ a,b⟩,c⟩;have⟨⟨r,a,b⟩,c⟩:=x;exact⟨⟨r,h _ _ a,b⟩,c⟩;omega
structure im(F:Nat->Bool)(β:ah)(v w:b2)(c:ah)(v' w':b2):Prop where
 b:bF β c
 e:w.heap.size<=w'.heap.size
 f:v.heap.size<=v'.heap.size
 k:∀a,a<w.heap.size->(∀r,β r a->F r=true)->w'.heap[a]?=w.heap[a]?
 n:∀a,w.heap.size<=a->a<w'.heap.size->∃r,c r a
 d:∀r a,c r a->β r a\/(v.heap.size<=r/\w.heap.size<=a)
 o:w'.os=w.os
 g:w'.output=w.output
 h:w'.tape=w.tape
theorem im.c(F)(β)(v w):im F β v w β v w:= ⟨bF.b _,fz _,fz _,λ _ _ _=>rfl,by omega,by grind,rfl,rfl,rfl⟩
theorem im.j{β g i v w v' w' e f}(h:im F β v w g v' w')(b:im F g v' w' i e f)(n:∀r,F r=true->r<v.heap.size):im F β v w i e f:=by
 refine⟨h.b.a b.b,gl h.e b.e,gl h.f b.f,λ a d c=>?_,λ a j k=>?_,λ r a c=>?_,b.o.trans h.o,b.g.trans h.g,b.h.trans h.h⟩
 ·rw[b.k a (hh d h.e) λ r l=>?_,h.k a d c];rcases h.d r a l with x| ⟨_,x⟩;all_goals grind
 ·by_cases m:a<w'.heap.size;have⟨r,c⟩:=h.n a j m;exact⟨r,b.b _ _ c⟩;exact b.n a (by omega) k
 ·rcases b.d r a c with x| ⟨x,y⟩;exact h.d r a x;exact .inr ⟨gl h.f x,gl h.e y⟩
def gy(d:Nat)(t:Nat->hA->Nat)(T:Nat->hA->Nat)(D:Nat):=∀j,j<d->T (D+j)=t j
def fM(F:Nat->Bool)(P' P:ef)(A:ah->α->α'->Prop)(β:ah)(v w:b2)(es:Array hN)(s:dk α)(s':dk α'):=∃d t,(∀T D,gy d t T D->∃x v2,s.run P' (v.tp T D)= .halt x v2/\jX x=true/\Hd v2)\/∃a v2 a' w2 c b,s'.runT P w es=(.ok a' w2,es++c)/\A b a a'/\cw F b v2 w2/\im F β v w b v2 w2/\(∀e∈c,lQ F b e)/\Hd v2/\∀T D,gy d t T D->s.run P' (v.tp T D)= .ok a (v2.tp T (D+d))
section
variable{A:ah->α->α'->Prop}{β:ah}{v w:World}{es:Array Event}{s:Sem α}{s':Sem α'}
theorem fM.a(h:∀T D,∃x v2,s.run P' (v.tp T D)= .halt x v2/\jX x=true/\Hd v2):fM F P' P A β v w es s s':= ⟨0,λ _ _=>0,by simp_all⟩
theorem fM.b{b v1 w1 ev1 k k'}(o:im F β v w b v1 w1)(n:∀x,F x=true->x<v.heap.size)(h:fM F P' P A b v1 w1 (es++ev1) k k')(m:∀e∈ev1,lQ F b e)(h1:∀T D,s.run P' (v.tp T D)=k.run P' (v1.tp T D))(h2:s'.runT P w es=k'.runT P w1 (es++ev1)):fM F P' P A β v w es s s':=by have⟨d,t,h⟩:=h;refine⟨d,t,?_⟩;obtain h| ⟨a,v2,a',w2,f,q,r,g,i,c,j,l,u⟩:=h;grind;exact .inr ⟨a,v2,a',w2,ev1++f,q,by grind,g,i,o.j c n,λ e p=>(kL.1 p).elim (λ x=>(m e x).a c.b) (j e),l,λ T D hT=>by grind⟩
theorem fM.c{w1 k k'}(a)(n:im F β v w β v w1)(m:∀x,F x=true->x<v.heap.size) (h:fM F P' P A β v w1 es k k') (h1:∀T D,T D=a->s.run P' (v.tp T D)=k.run P' (v.tp T (D+1))) (h2:s'.runT P w es=k'.runT P w1 es):fM F P' P A β v w es s s':=by
 have⟨d,t,h⟩:=h;refine⟨d+1,λ j=>if j=0 then a else t (j- 1),?_⟩;have cut:∀T D,gy (d+1) (λ j=>if j=0 then a else t (j- 1)) T D->T D=a/\gy d t T (D+1):=λ T D hT=>by refine⟨by simpa using hT 0 (by omega),λ j r=>?_⟩;have:=hT (j+1) (by omega);grind
 obtain h| ⟨b,v2,a',w2,c,o,p,e,f,g,i,l,q⟩:=h;grind;refine .inr ⟨b,v2,a',w2,c,o,by grind,e,f,n.j g m,i,l,λ T D hT=>?_⟩;grind
end
end
section
variable{F:Nat->Bool}{P' P:Program}{α α':Type}{β:ah}{v w:World}
variable{a a':Addr}{u:World}{o:Obj}{b:Nat}{c:Array Value}{e:TypeId}{fr:Nat×Nat}
theorem cw.q(h:cw F β v w)(c:AR β a a'){x}(b:v.cell? a=some x):∃i,w.cell? a'=some i/\VR β x i:=by have⟨o,q,j,k,g⟩:=h.b _ _ c.1;unfold qi at b⊢;rw[j]at b;rw[k];generalize F a.block=p at g;cases g with
 |jM e fr d=>
  simp only at b⊢;rw[<-c.2.2,<-c.2.1];split at b;trivial;rcases d.d a.off with⟨f,_⟩| ⟨y,n,f,l,m⟩
  all_goals grind|qb e fr d=>
  simp only at b⊢;rw[<-c.2.2,<-c.2.1];split at b;trivial;rcases d.d a.off with⟨f,_⟩| ⟨y,n,f,l,m⟩
  all_goals grind|_=>trivial
theorem cw.i(h:cw F β v w)(d:AR β a a')(e):jX (v.noCell a e)=true:=by have⟨o,i,c,g,b⟩:=h.b _ _ d.1;unfold World.noCell;rw[c];generalize F a.block=f at b;cases b<;>rfl
theorem cw.l(h:cw F β v w)(c:AR β a a')(q):∃x,v.farLoad P' a q= .error x/\jX x=true:=by have⟨o,g,d,f,b⟩:=h.b _ _ c.1;refine⟨_,?_,h.i c "load: no such cell"⟩;unfold World.farLoad;rw[d];generalize F a.block=e at b;cases b<;>rfl
theorem cw.j(h:cw F β v w)(c:AR β a a')(x)(q):∃d,v.farStore P' a x q= .error d/\jX d=true:=by have⟨o,i,e,g,b⟩:=h.b _ _ c.1;refine⟨_,?_,h.i c "store: no such cell"⟩;unfold World.farStore;rw[e];generalize F a.block=f at b;cases b<;>rfl
theorem im.l{r a}(h:cw F β v w)(x:β r a)(o c)(d:F r=false):im F β v w β {v with heap:=v.heap.setIfInBounds r o} {w with heap:=w.heap.setIfInBounds a c}:= ⟨bF.b _,by simp,by simp,λ b e f=>by grind,by grind,by grind,rfl,rfl,rfl⟩
theorem im.m(h:cw F β v w)(o c):im F β v w h.h {v with heap:=v.heap.push o} {w with heap:=w.heap.push c}:= ⟨h.e,by simp,by simp,λ b f g=>by grind,λ b d e=> ⟨v.heap.size,.inr (by grind)⟩,λ r a y=>y.elim .inl (by omega),rfl,rfl,rfl⟩
theorem im.i{v' w'}(a:v'.heap=v.heap)(b:w'.heap=w.heap)(h1:w'.os=w.os)(h2:w'.output=w.output)(h3:w'.tape=w.tape):im F β v w β v' w':= ⟨bF.b _,by grind,by grind,by grind,by grind,by grind,h1,h2,h3⟩
theorem Cp(d:a.block=b)(h:u.heap[b]?=some (.cells c e fr))(x):u.setCell a x={u with heap:=u.heap.setIfInBounds b (.cells (if a.spot.isSome then c else c.setIfInBounds a.off x) e fr)}:=by
 subst d;unfold World.setCell
 congr 1;grind
theorem Ce(d:a.block=b)(h:u.heap[b]?=some (.cells c e fr))(n):u.freeze a n=if n=0 then u else{u with heap:=u.heap.setIfInBounds b (.cells c e (if fr.1==fr.2 then(a.off,a.off+n)else(min fr.1 a.off,max fr.2 (a.off+n))))}:=by
 subst d;unfold nB;split;rfl
 congr 1
 grind
theorem Ow(h:u.heap[a.block]?=some o)(b:∀c e fr,o≠ .cells c e fr)(n):(u.freeze a n).heap=u.heap:=by grind[nB,absurd]
theorem Hd.d{v}(h:Hd v){r}(b:(∀l,o= .deferred (some l)->l= [])/\AL o=true):Hd {v with heap:=v.heap.setIfInBounds r o}:=by intro q l a;rw[x0]at a;split at a;grind;exact h q l a
theorem OR.d{β f a}(h:OR β f o a):(∀l,o= .deferred (some l)->l= [])/\AL o=true:=by
 constructor;intro l e;cases h<;>first| (cases e;done)| (cases e;rfl)
 cases h<;>rfl
theorem Sz(v:b2)(a)(n)(T)(D):(v.tp T D).freeze a n=(v.freeze a n).tp T D:=by unfold nB;split<;>rfl
theorem RS.d{A}{s:dk α}{s':dk α'}(h:RS F P' P A β s s'):∀v w,cw F β v w->Hd v->∀es,fM F P' P A β v w es s s':=by induction h with
 | @ak β a a' h=>exact λ v w d f es=> ⟨0,λ _ _=>0,.inr ⟨a,v,a',w,#[],β,by simp[fb],h,d,.c _ _ _ _,by simp,f,λ T D _=>rfl⟩⟩| @ti β a a' k k' u J j=>
  intro v w d f es;cases g:v.cell? a with
  |none=>
   refine .a λ T D=>?_;have⟨x,Q,Y⟩:=(d.g (v':=v.tp T D) (w':=w) rfl rfl).l (P':=P') u false;have K:(v.tp T D).cell? a=none:=g;exact⟨x,v.tp T D,by simp[et,K];rw[show(Mode.plain==Mode.atomic)=false from rfl,Q],Y,f⟩
  |some x=>
   have⟨L,aq,ap⟩:=d.q u g;refine fM.b (ev1:= #[⟨.cell a',false,false⟩]) (.c _ _ _ _) d.c (j x L ap v w d f _) ?_ (λ T D=>?_) ?_;intro e B;simp at B;subst B;exact⟨⟨a.block,u.1,by simp⟩,rfl⟩;have K:(v.tp T D).cell? a=some x:=g;simp only[et,K];simp only[fb,aq];rfl
 | @vW β a a' x L k k' u Q J j=>
  intro v w d f es;by_cases X:(∃c,x= .agg c)\/∃c,x= .tuple c;refine .a λ T D=> ⟨.stuck "store: not the value of one cell",v.tp T D,?_,rfl,f⟩;rcases X with⟨c,rfl⟩| ⟨c,rfl⟩<;>rfl
  have ac:∀c,x≠ .agg c:=λ c e=>X (.inl ⟨c,e⟩);have ad:∀c,x≠ .tuple c:=λ c e=>X (.inr ⟨c,e⟩);have al:∀c,L≠ .agg c:=λ c e=>by subst e;cases Q with|gU t C=>exact ac _ rfl|jL h=>simp[p9]at h|fy h=>simp[od]at h|gW _ h=>simp[rq]at h
  have am:∀c,L≠ .tuple c:=λ c e=>by subst e;cases Q with|nA t C=>exact ad _ rfl|jL h=>simp[p9]at h|fy h=>simp[od]at h|gW _ h=>simp[rq]at h
  have W:∀v:b2,(O6 .plain a x k).run P' v=match v.cell? a with
   |some _=>if v.frozen? a then .halt (.unsupported (.unsafePointer "a write to bytes that a string shares")) v else k.run P' (v.setCell a x)
   |none=>match v.farStore P' a x false with
    | .ok (w,_)=>k.run P' w
    | .error h=> .halt h v:=by
   intro v;cases x<;>first|rfl|exact absurd rfl (ac _)|exact absurd rfl (ad _)
  have I:(O6 .plain a' L k').runT P w es=match w.cell? a' with
   |some _=>
    if w.frozen? a' then(.halt (.unsupported (.unsafePointer "a write to bytes that a string shares")) w,es)
    else k'.runT P (w.setCell a' L) (es.push ⟨.cell a',true,false⟩)
   |none=>match w.farStore P a' L false with
    | .ok (w,az)=>k'.runT P w (es++az.toArray.map (⟨.cell ·,true,false⟩))
    | .error h=>(.halt h w,es):=by
   cases L<;>first|rfl|exact absurd rfl (al _)|exact absurd rfl (am _)
  cases g:v.cell? a with
  |none=>
   refine .a λ T D=>?_;obtain⟨y,ar,Y⟩:=(d.g (v':=v.tp T D) (w':=w) rfl rfl).j (P':=P') u x false;have K:(v.tp T D).cell? a=none:=g;rw[W,K];exact⟨y,v.tp T D,by simp only[ar],Y,f⟩
  |some y=>
   obtain⟨aA,au,_⟩:=d.q u g;by_cases H:v.frozen? a=true;refine .a λ T D=>?_;have K:(v.tp T D).cell? a=some y:=g;have Z:(v.tp T D).frozen? a=true:=H;rw[W,K];simp only[Z,if_true];exact⟨_,v.tp T D,rfl,rfl,f⟩;obtain⟨o,G,t,C,z⟩:=d.b _ _ u.1;have ae:a.spot=none:=by
    unfold qi at g;rw[t]at g;cases o<;>simp at g
    exact g.1
   generalize U:F a.block=V at z;cases z with
   | @jM c c' e fr aa=>
    have ai:¬w.frozen? a'=true:=by
     unfold A1 at H⊢;rw[t]at H;rw[C,<-u.2.1];exact H
    have E:OR β (F a.block) (.cells (if a.spot.isSome then c else c.setIfInBounds a.off x) e fr) (.cells (if a'.spot.isSome then c' else c'.setIfInBounds a'.off L) e fr):=by
     rw[U,<-u.2.2,<-u.2.1,ae];exact .jM e fr (aa.l _ Q)
    refine fM.b (ev1:= #[⟨.cell a',true,false⟩]) (im.l d u.1 _ _ U) d.c (j _ _ (d.p u.1 E) (f.d E.d) _) ?_ (λ T D=>?_) ?_;intro e B;simp at B;subst B;exact⟨⟨a.block,u.1,λ _=>U⟩,rfl⟩;have K:(v.tp T D).cell? a=some y:=g;have Z:(v.tp T D).frozen? a=false:=(by simpa using H:v.frozen? a=false);have M:(v.tp T D).heap[a.block]?=some (.cells c e fr):=t;rw[W,K];simp only[Z,hF,if_false];rw[Cp rfl M];rfl;rw[I];simp only[au];rw[if_neg ai,Cp rfl C];simp
   | @qb c c' e fr aa=>
    exfalso;apply H;unfold A1;rw[t];unfold qi at g;rw[t]at g;simp only[ae]at g;have:=(hU.1 g).1;simp[this]
   |_=>unfold qi at g;rw[t]at g;cases g
 | @oq β o G k k' E J j=>
  intro v w d f es;have S:F v.heap.size=false:=by
   cases Q:F v.heap.size with
   |false=>rfl
   |true=>have:=d.c _ Q;omega
  exact fM.b (ev1:= #[]) (im.m d o G) d.c (j v.heap.size w.heap.size _ d.e d.m S _ _ (d.s E) (f.a E.d) _) (by simp) (λ T D=>rfl) (by rw[kp];rfl)
 | @nt β r r' k k' O J j=>
  intro v w d f es;have⟨o,G,t,C,z⟩:=d.b _ _ O;have e:v.shape? r=w.shape? r':=by
   unfold World.shape?;rw[t,C];generalize F r=V at z;cases z with
   |jM e fr g=>simp[g.1]
   |qb e fr g=>simp[g.1]
   |_=>rfl
  refine fM.b (ev1:= #[]) (.c _ _ _ _) d.c (j (v.shape? r) v w d f _) (by simp) (λ T D=>rfl) ?_;simp only[fb];rw[<-e,kp]
 | @zv β a a' k k' u J j=>
  intro v w d f es;exact fM.b (ev1:= #[]) (.c _ _ _ _) d.c (j (v.frozen? a) (w.frozen? a') v w d f _) (by simp) (λ T D=>rfl) (by rw[kp];rfl)
 | @vH β a a' n k k' u S J j=>
  intro v w d f es;have⟨o,G,t,C,z⟩:=d.b _ _ u.1;rw[S]at z;have af:v.freeze a n=v->w.freeze a' n=w->fM F P' P A β v w es (.freeze a n k) (.freeze a' n k'):=λ ax ay=>by
   refine fM.b (ev1:= #[]) (.c _ _ _ _) d.c (j v w d f _) (by simp) (λ T D=>?_) ?_;simp only[et];rw[Sz,ax];simp only[fb];rw[ay,kp]
  cases z with
  | @jM c c' e fr g=>
   by_cases N:n=0;exact af (by rw[Ce rfl t,if_pos N]) (by rw[Ce rfl C,if_pos N]);have E:OR β (F a.block) (.cells c e (if fr.1==fr.2 then(a.off,a.off+n)else(min fr.1 a.off,max fr.2 (a.off+n)))) (.cells c' e (if fr.1==fr.2 then(a.off,a.off+n)else(min fr.1 a.off,max fr.2 (a.off+n)))):=by
    rw[S];exact .jM e _ g
   refine fM.b (ev1:= #[]) (im.l d u.1 _ _ S) d.c (j _ _ (d.p u.1 E) (f.d E.d) _) (by simp) (λ T D=>?_) ?_;simp only[et];rw[Sz,Ce rfl t,if_neg N];simp only[fb];rw[Ce rfl C,if_neg N,<-u.2.1,kp]
  |_=>
   refine af ?_ ?_;have I:=Ow t (by intro _ _ _ h;cases h) n;unfold nB at I⊢;split;rfl;rename_i N;rw[if_neg N]at I;simp only at I;rw[I];have I:=Ow C (by intro _ _ _ h;cases h) n;unfold nB at I⊢;split;rfl;rename_i N;rw[if_neg N]at I;simp only at I;rw[I]
 | @jF β r r' k k' O J j=>
  intro v w d f es;have⟨o,G,t,C,z⟩:=d.b _ _ O;generalize F r=V at z;have key:∀(E:OR β false o G),(∀c e fr,o≠ .cells c e fr)->(∀c e fr,G≠ .cells c e fr)->G.isChan=false->fM F P' P A β v w es (.getObj r k) (.getObj r' k'):=by
   intro E av aw ab;refine fM.b (ev1:= #[⟨.obj r',false,false⟩]) (.c _ _ _ _) d.c (j o G E v w d f _) ?_ (λ T D=>?_) ?_;intro e B;simp at B;subst B;exact⟨by grind,rfl⟩;have M:(v.tp T D).heap[r]?=some o:=t
   grind[et,absurd]
   simp only[fb,C,ab];rfl
  have ag:∀c e fr,o= .cells c e fr->fM F P' P A β v w es (.getObj r k) (.getObj r' k'):=by
   intro c e fr B;refine .a λ T D=>?_;have M:(v.tp T D).heap[r]?=some (.cells c e fr):=B▸t;exact⟨_,v.tp T D,by simp[et,M];rfl,rfl,f⟩
  cases z with
  |jM e fr g=>grind
  |qb e fr g=>grind
  |mw c x=>exact key (.mw c x) (by simp) (by simp) rfl
  |tY s p=>exact key (.tY s p) (by simp) (by simp) rfl
  |rn a b c x=>exact key (.rn a b c x) (by simp) (by simp) rfl
  |rh x=>exact key (.rh x) (by simp) (by simp) rfl
  |xc=>exact key .xc (by simp) (by simp) rfl
  |yE=>exact key .yE (by simp) (by simp) rfl
  |xE l x=>exact key (.xE l x) (by simp) (by simp) rfl
 | @mD β r r' o G k k' O E J j=>
  intro v w d f es;have⟨p,p',t,C,z⟩:=d.b _ _ O;generalize U:F r=V at z;have ab:G.isChan=false:=by cases E<;>rfl
  have key:V=false->(∀c e fr,p≠ .cells c e fr)->(∀c e fr,p'≠ .cells c e fr)->fM F P' P A β v w es (.setObj r o k) (.setObj r' G k'):=by
   intro H av aw;have an:OR β (F r) o G:=by grind
   refine fM.b (ev1:= #[⟨.obj r',true,false⟩]) (im.l d O _ _ (U.trans H)) d.c (j _ _ (d.p O an) (f.d E.d) _) ?_ (λ T D=>?_) ?_;intro e B;simp at B;subst B;exact⟨by grind,rfl⟩;have M:(v.tp T D).heap[r]?=some p:=t;simp only[et,M];rfl;simp_all[fb,absurd]
  have ag:∀c e fr,p= .cells c e fr->fM F P' P A β v w es (.setObj r o k) (.setObj r' G k'):=by
   intro c e fr B;refine .a λ T D=>?_;have M:(v.tp T D).heap[r]?=some (.cells c e fr):=B▸t;exact⟨_,v.tp T D,by simp[et,M];rfl,rfl,f⟩
  cases z with
  |jM e fr g=>grind
  |qb e fr g=>grind
  |_=>grind
 | @uP β q k k' J j=>
  intro v w d f es;by_cases R:q.forced=true;refine fM.b (ev1:= #[]) (.c _ _ _ _) d.c (j 0 v w d f _) (by simp) (λ T D=>by grind[et]) ?_
  grind[fb]
  refine fM.c (w.tape w.drawn) (w1:={w with drawn:=w.drawn+1}) (k:=k (q.cut (w.tape w.drawn q))) (k':=k' (q.cut (w.tape w.drawn q))) (.i rfl rfl rfl rfl rfl) d.c (j _ v {w with drawn:=w.drawn+1} (d.g rfl rfl) f _) (λ T D e=>?_) ?_;simp only[et];rw[if_neg R];show(k (q.cut (T D q))).run _ (v.tp T (D+1))=_;rw[e]
  grind[fb]
 | @v8 β q k s' n R J j=>
  intro v w d f es;by_cases H:q.forced=true;rw[if_pos H]at R;subst R;refine fM.b (ev1:= #[]) (.c _ _ _ _) d.c (j v w d f _) (by simp) (λ T D=>by grind[et]) rfl;rw[if_neg H]at R;obtain⟨m,aj⟩:=R;refine fM.c (λ _=>m) (.c _ _ _ _) d.c (j v w d f _) (λ T D e=>?_) rfl;simp only[et];rw[if_neg H];show(k (q.cut (T D q))).run _ (v.tp T (D+1))=_
  grind
 | @wD β k k' J j=>trivial
 | @vc β m k k' aj J j=>
  intro v w d f es;refine fM.b (ev1:= #[⟨.mark m,false,true⟩]) (.c _ _ _ _) d.c (j v w d f _) ?_ (λ T D=>rfl) ?_;intro e B;simp at B;subst B;trivial;rfl
 | @gp β s s' h=>
  exact λ v w d f es=> .a λ T D=>by
   have⟨x,v2,t,C,z⟩:=h (v.tp T D);exact⟨x,_,t,C,z f⟩
 | @vA β s s' h=>
  exact λ v w d f es=> .a λ T D=>by
   have⟨x,v2,t,C,z⟩:=h (v.tp T D) f;exact⟨x,_,t,C,z f⟩
end
variable{a a':Addr}{x':Value}
abbrev lp(P:ef)(fs:Array o2):={P with funcs:=fs}
def cW{α:Type}:ah->α->α->Prop:=λ _ a b=>a=b
def fB(v:df):=∀β,VR β v v
def nC(P:ef):=∀t i z,P.info? t=some i->i.zero=some z->fB z
def LV(β:ah):List df->List df->Prop| [],[]=>True|x::l,y::m=>VR β x y/\LV β l m|_,_=>False
theorem LV.b{β a}(h:bF β a):{l m:List df}->LV β l m->LV a l m| [],[],_=>trivial|_::_,_::_,x=> ⟨x.1.a h,LV.b h x.2⟩| [],_::_,x=>x.elim|_::_,[],x=>x.elim
theorem LV.c{β}:{l m:List df}->l.length=m.length->(∀(i:Nat)v v',l[i]?=some v->m[i]?=some v'->VR β v v')->LV β l m| [],[],_,_=>trivial|_::_,_::_,h,x=> ⟨x 0 _ _ rfl rfl,LV.c (by grind) λ i v v' a b=>x (i+1) v v' (by trivial) (by trivial)⟩| [],_::_,h,_=>by trivial|_::_,[],h,_=>by trivial
theorem LV.d{β}:{l m:List df}->LV β l m->l.length=m.length/\∀(i:Nat)v v',l[i]?=some v->m[i]?=some v'->VR β v v'
 | [],[],_=> ⟨rfl,λ i v v' h=>by trivial⟩|_::_,_::_,x=> ⟨by simpa using(LV.d x.2).1,λ i v v' a b=>by cases i with|zero=>simp at a b;subst a b;exact x.1|succ i=>exact(LV.d x.2).2 i v _ (by trivial) (by trivial)⟩| [],_::_,x=>x.elim|_::_,[],x=>x.elim
theorem AV.g{β xs ys}(h:AV β xs ys):LV β xs.toList ys.toList:=LV.c (by simpa using h.1) λ i v v' a b=>h.2 i v _ (by grind) (by grind)
theorem LV.e{β l m}(h:LV β l m):AV β l.toArray m.toArray:= ⟨by simpa using h.d.1,λ i v v' a b=>h.d.2 i v _ (by grind) (by grind)⟩
section
variable{F:Nat->Bool}{P:Program}{fs:Array Func}{α α' γ γ':Type}{β:ah}
theorem bK{A C}{f:α->dk γ}{f':α'->dk γ'}{s s'}(h:RS F (lp P fs) P A β s s')(c:∀b a a',bF β b->A b a a'->RS F (lp P fs) P C b (f a) (f' a')):RS F (lp P fs) P C β (s>>=f) (s'>>=f'):=RS.c h c
theorem bc{C}{f:α->dk γ}{f':α->dk γ'}{s s'}(h:RS F (lp P fs) P cW β s s')(c:∀b a,bF β b->RS F (lp P fs) P C b (f a) (f' a)):RS F (lp P fs) P C β (s>>=f) (s'>>=f'):=RS.c h λb a a' d e=>by cases e;grind
theorem mc{C}{f:ef->dk γ}{f':ef->dk γ'}(h:RS F (lp P fs) P C β (f (lp P fs)) (f' P)):RS F (lp P fs) P C β (hR>>=f) (hR>>=f'):= .wD h
theorem db{A:ah->α->α'->Prop}{h s'}(b:jX h=true:=by rfl):RS F (lp P fs) P A β (.halt h) s':= .a b
theorem aN{A:ah->α->α'->Prop}{why s'}:RS F (lp P fs) P A β (ew why) s':= .a rfl
theorem tC{A why}{f:α->dk γ}{s':dk γ'}:RS F (lp P fs) P A β (ew why>>=f) s':= .a rfl
theorem tV{A s}{f:α->dk γ}{s':dk γ'}(h:∀v,∃x v2,s.run (lp P fs) v= .halt x v2/\BH v v2 x):RS F (lp P fs) P A β (s>>=f) s':= .gp λ v=>let⟨x,_,a,b⟩:=h v; ⟨x,_,ql f s a,b⟩
theorem RS.e{A C}{s:dk α}{s':dk α'}(h:RS F (lp P fs) P A β s s')(c:∀f a a',bF β f->A f a a'->C f a a'):RS F (lp P fs) P C β s s':=by induction h with|ak h=>exact .ak (c _ _ _ (bF.b _) h)|ti d _ b=>exact .ti d (by grind)|vW d p _ b=>exact .vW d p (b c)|oq i _ b=>exact .oq i λ r r' f j e g=>b r _ _ j e g λq a a' k l=>c _ a _ (j.a k) l|nt e _ b=>exact .nt e λ s=>b s c|zv d _ b=>exact .zv d (by grind)|vH d g _ b=>exact .vH d g (b c)|jF e _ b=>exact .jF e (by grind)|mD e i _ b=>exact .mD e i (b c)|uP _ b=>exact .uP λ n=>b n c|v8 n o _ b=>exact .v8 n o (b c)|wD _ b=>exact .wD (b c)|vc m _ b=>exact .vc m (b c)|gp h=>exact .gp h|vA h=>exact .vA h
theorem rJ(t):RS F (lp P fs) P cW β (hQ t) (hQ t):=by refine mc ?_;cases P.info? t with|none=>exact aN|some i=>exact .ak rfl
theorem ig(t):RS F (lp P fs) P cW β (gw t) (gw t):=by refine mc ?_;show RS F (lp P fs) P cW β (match P.underlying t with|some i=>cr i|none=>ew "no such type") (match P.underlying t with|some i=>cr i|none=>ew "no such type");cases P.underlying t with|none=>exact aN|some i=>exact .ak rfl
theorem jR(t):RS F (lp P fs) P cW β (mA t) (mA t):=bc (rJ t) λa i _=> .ak rfl
theorem Pz(t):RS F (lp P fs) P cW β (isAgg t) (isAgg t):=bc (ig t) λa d _=>by cases d<;>exact .ak rfl
theorem vr(a:nC P)(t):RS F (lp P fs) P (λ _ z d=>z=d/\fB z) β (mo t) (mo t):=by refine mc ?_;show RS F _ P _ _ ((match P.info? t with|some i=>cr i|none=>ew _)>>=_) ((match P.info? t with|some i=>cr i|none=>ew _)>>=_);cases b:P.info? t with|none=>exact tC|some i=>show RS F (lp P fs) P _ β (match i.zero with|some v=>cr v|none=>_) (match i.zero with|some v=>cr v|none=>_);cases c:i.zero with|none=>exact db|some z=>exact .ak ⟨rfl,a t i z b c⟩
theorem JK{C q}{f:Nat->dk γ}{f':Nat->dk γ'}(h:∀n,RS F (lp P fs) P C β (f n) (f' n)):RS F (lp P fs) P C β (choose q>>=f) (choose q>>=f'):= .uP h
theorem Qv(n):RS F (lp P fs) P cW β (n3 n) (n3 n):=by unfold n3;split;exact .vc (.inl rfl) (.ak rfl);exact .ak rfl
theorem AR.b(h:AR β a a')(n):AR β (a.add n) (a'.add n):=by unfold Addr.add;split;exact h;exact⟨h.1,by simp[h.2.1],rfl⟩
theorem Sa(h:AR β a a'):RS F (lp P fs) P VR β (load a) (load a'):= .ti h λ x x' b=> .ak b
theorem Wt(h:AR β a a')(b:VR β x x'):RS F (lp P fs) P cW β (store a x) (store a' x'):= .vW h b (.ak rfl)
theorem TE:∀n{β:ah}{a a':eo}(i:Nat){b c:Array df},AR β a a'->AV β b c->RS F (lp P fs) P AV β (pV a i n b) (pV a' i n c)|0,_,_,_,_,_,_,_,h=> .ak h|n+1,_,_,_,i,_,_,d,h=>bK (Sa (d.b i)) λg x x' e f=>TE n (i+1) (d.a e) ((h.a e).h f)
theorem J5(n)(h:AR β a a'):RS F (lp P fs) P AV β (q3 a n) (q3 a' n):=TE n 0 h (AV.e _)
theorem Ds:∀{l l':List df}{β:ah}{a a':eo}(i:Nat),AR β a a'->LV β l l'->RS F (lp P fs) P cW β (storeCells a l i) (storeCells a' l' i)| [],[],_,_,_,_,_,_=> .ak rfl|x::l,y::m,_,_,_,i,ha,h=>bc (Wt (ha.b i) h.1) λc _ b=>Ds (i+1) (ha.a b) (h.2.b b)| [],_::_,_,_,_,_,_,h=>h.elim|_::_,[],_,_,_,_,_,h=>h.elim
theorem QA(t)(h:AR β a a'):RS F (lp P fs) P VR β (oj t a) (oj t a'):=by refine bc (Pz t) λi b d=>?_;cases b with|true=>exact bc (jR t) λj n e=>bK (J5 n ((h.a d).a e)) λk c c' g f=> .ak (VR.d f)|false=>exact Sa (h.a d)
theorem Ui(t)(h:AR β a a')(f:VR β x x'):RS F (lp P fs) P cW β (storeVar t a x) (storeVar t a' x'):=by refine bc (jR t) λg n b=>?_;have c:=(f.a b).e;by_cases d:x.cells.size=n;simp[d,c.1▸d,ne_eq,not_true_eq_false,if_false];exact Ds 0 (h.a b) c.g;grind[not_false_eq_true,tC]
theorem yW(e){c c'}(h:AV β c c'):RS F (lp P fs) P (λβ a a'=>AR β a a'/\F a.block=false) β (j2 e c) (j2 e c'):= .oq (.jM e _ h) λ r r' f _ d b=> .ak ⟨⟨d,rfl,rfl⟩,b⟩
theorem OW(t)(h:VR β x x'):RS F (lp P fs) P (λβ a a'=>AR β a a'/\F a.block=false) β (newVar t x) (newVar t x'):=yW t h.e
theorem rs_part(t){c c'}(off)(h:AV β c c'):RS F (lp P fs) P VR β (part t c off) (part t c' off):=by refine bc (Pz t) λj b e=>?_;cases b with|true=>exact bc (jR t) λk n g=> .ak (VR.d (((h.a e).a g).m _ _))|false=>show RS F _ P _ _ (match c[off]? with|some v=>cr v|none=>_) (match c'[off]? with|some v=>cr v|none=>_);rcases(h.a e).d off with⟨a,d⟩| ⟨y,i,a,d,f⟩;grind[aN];rw[a,d];exact .ak f
theorem PS{Q t u v v2}(h:(j3 t).run Q v= .ok u v2):v2=v:=by unfold j3 at h;change(eL (eL hR _) _).run Q v=_ at h;simp[hR,eL,et]at h;cases a:Q.underlying t with|none=>rw[a]at h;cases h|some d=>rw[a]at h;cases d<;>cases h<;>rfl
theorem nE(e){α}:∀v,∃x v2,(sv e:dk α).run (lp P fs) v= .halt x v2/\BH v v2 x:=by intro v;cases e with
 |typeAssertion i c a m=>show∃x v2,((j3 (lp P fs).rt.typeAssertionError)>>=_:dk α).run (lp P fs) v= .halt x v2/\BH v v2 x;generalize b:(j3 (lp P fs).rt.typeAssertionError).run (lp P fs) v=r;cases r with
  |halt x v2=>refine⟨x,v2,ql _ _ b,?_⟩;change(eL (eL hR _) _).run (lp P fs) v=_ at b;simp[hR,eL,et]at b;cases f:(lp P fs).underlying (lp P fs).rt.typeAssertionError with|none=>rw[f]at b;cases b;exact⟨rfl,id⟩|some d=>rw[f]at b;cases d<;>cases b<;>exact⟨rfl,id⟩
  |ok t v2=>show∃x v2,(eL _ _).run (lp P fs) v= .halt x v2/\BH v v2 x;rw[ru,b];exact⟨_,_,rfl,rfl,λ h=>by rw[PS b];exact h.a ⟨by grind,rfl⟩⟩
 |panicNil=>show∃x v2,((j3 (lp P fs).rt.panicNilError)>>=_).run _ v= .halt x _/\BH v _ x;generalize b:(j3 (lp P fs).rt.panicNilError).run (lp P fs) v=r;cases r with
  |halt x v2=>refine⟨x,v2,ql _ _ b,?_⟩;change(eL (eL hR _) _).run (lp P fs) v=_ at b;simp[hR,eL,et]at b;cases f:(lp P fs).underlying (lp P fs).rt.panicNilError with|none=>rw[f]at b;cases b;exact⟨rfl,id⟩|some d=>rw[f]at b;cases d<;>cases b<;>exact⟨rfl,id⟩
  |ok t v2=>show∃x v2,(eL _ _).run (lp P fs) v= .halt x v2/\BH v v2 x;rw[ru,b];exact⟨_,_,rfl,rfl,λ h=>by rw[PS b];exact h.a ⟨λ l e=>(by cases e),rfl⟩⟩
 |_=>exact⟨_,v,rfl,rfl,id⟩
theorem E7{A:ah->α->α'->Prop}(e){s'}:RS F (lp P fs) P A β (sv e) s':= .gp (nE e)
theorem yb{A}(e){f:α->dk γ}{s':dk γ'}:RS F (lp P fs) P A β (sv e>>=f) s':=tV (nE e)
end
theorem C2{β}(place):∀{ps o:List (Nat×df)}{c c':Array df},(ps.length=o.length/\∀(i:Nat)x x',ps[i]?=some x->o[i]?=some x'->x.1=x'.1/\VR β x.2 x'.2)->AV β c c'->(ma place c ps=none)\/∃d f,ma place c ps=some d/\ma place c' o=some f/\AV β d f
 | [],[],c,c',_,h=> .inr ⟨c,c',rfl,rfl,h⟩| [],_::_,_,_,h,_=>by grind|_::_,[],_,_,h,_=>by grind| (i,x)::ps,(j,y)::o,c,c',⟨hl,hp⟩,h=>by have⟨e,s⟩:=hp 0 _ _ rfl rfl;subst e;simp only[ma];cases place i with|none=>simp|some q=>
  have⟨off,size⟩:=q;simp only;have r:=s.e;rw[<-r.1,<-h.1];split;simp;refine C2 _ ⟨by grind,λ k a b v t=>hp (k+1) a b (by grind) (by grind)⟩ ?_;have:∀(n:Nat)(l m:List df)(d f:Array df),LV β l m->AV β d f->
   AV β ((l.zipIdx n).foldl (λ cs(q:df×Nat)=>cs.setIfInBounds (off+q.2) q.1) d) ((m.zipIdx n).foldl (λ cs(q:df×Nat)=>cs.setIfInBounds (off+q.2) q.1) f):=by
   intro n l
   induction l generalizing n with
   |nil=>intro m d f g p;cases m<;>first|exact p|exact g.elim
   |cons a l u=>
    intro m d f g p;cases m with
    |nil=>trivial
    |cons b m=>exact u _ m _ _ g.2 (p.l _ g.1)
  have t:=this 0 x.cells.toList y.cells.toList c c' r.g h
  grind[Array.foldl,List.foldl,Array.toList_zipIdx]
theorem Gk{z}(c:fB z):∀v∈z.cells,fB v:=λ v b β=>have⟨i,a⟩:=Array.mem_iff_getElem?.1 b;(c _).e.2 i v v a a
theorem Jh{z:Array df}(b:∀v∈z,fB v)(i:Nat)(β):VR β (z[i]!) (z[i]!):=by by_cases a:i<z.size;exact b _ (by grind) _;rw[getElem!_neg z _ a];exact VR.fY _
section
variable{F:Nat->Bool}{P:Program}{fs:Array Func}{α α' γ γ':Type}{β:ah}
theorem acA(b:nC P)(e):RS F (lp P fs) P VR β (LS e true (.tuple #[])) (LS e true (.tuple #[])):=bK (vr b e) λj z i f⟨c,d⟩=>by subst c;exact bK (OW e (d _)) λk a a' g h=> .ak (.dc (a:=some a) (a':=some _) h.1)
theorem ady(e)(h:VR β x x'):RS F (lp P fs) P VR β (Pl e x) (Pl e x'):=bK (OW e h) λc a a' b h=> .ak (.dc (a:=some a) (a':=some _) h.1)
theorem zi(h:VR β x x'):RS F (lp P fs) P AR β (z6 x) (z6 x'):=by cases h with
 | @dc a a' h=>cases a<;>cases a'<;>first|exact h.elim|exact .ak h|exact aN
 |_=>exact aN
theorem acs(t)(h:VR β x x'):RS F (lp P fs) P VR β (I0 t x) (I0 t x'):=bK (zi h) λd a a' c b=>QA t b
theorem ad7(t){y b}(h:VR β x x')(e:VR β y b):RS F (lp P fs) P cW β (A2 t x y) (A2 t x' b):=bK (zi h) λf a a' c d=>Ui t d (e.a c)
theorem aci(h:VR β x x')(i):RS F (lp P fs) P VR β (BP x i) (BP x' i):=by cases h with| @nA xs ys d e=>show RS F (lp P fs) P VR β (match xs[i]? with|some v=>cr v|none=>_) (match ys[i]? with|some v=>cr v|none=>_);rcases AV.d (β:=β) (xs:=xs) (ys:=ys) ⟨d,e⟩ i with⟨a,b⟩| ⟨v,v',a,b,c⟩;grind[aN];rw[a,b];exact .ak c|fy h=>exact aN|_=>exact aN
theorem ahl{f f'}(b:FR β f f'){xs ys us vs}(h:AV β xs ys)(a:AV β us vs):RS F (lp P fs) P VR β (AI f xs us) (AI f' ys vs):= .ak (VR.f b h a)
theorem ahg(t)(h:VR β x x'):RS F (lp P fs) P VR β (yl t x) (yl t x'):=bc (ig t) λb d a=>by cases d<;>first|exact aN|exact .ak (.qM t (h.a a))
theorem aea(t):RS F (lp P fs) P VR β (B1 t none) (B1 t none):= .oq (.mw 0 ⟨rfl,by grind⟩) λ r r' b _ a _=> .ak (.kM (r:=some r) (r':=some _) a)
theorem Dh(h:VR β x x'):RS F (lp P fs) P cW β (asIntOf x) (asIntOf x'):=by cases h with
 |cx k n=>exact .ak rfl| @dc a a' h=>cases a<;>first|exact db|exact aN
 |_=>exact aN
theorem HK(h:VR β x x'):RS F (lp P fs) P cW β (asInt x) (asInt x'):=bc (Dh h) λ _ _ _=> .ak rfl
theorem abX(h:VR β x x'):RS F (lp P fs) P cW β (asBool x) (asBool x'):=by cases h with|fY b=>exact .ak rfl|_=>exact aN
theorem aaR(k)(x y)(c){α}:∀v,∃z v2,(kV k x y c:dk α).run (lp P fs) v= .halt z v2/\BH v v2 z:=by intro v;unfold kV;split;have⟨z,v2,b,a⟩:=nE (P:=P) (fs:=fs) (.bounds (IntKind.i64.wrap x) y ((Question.extern "runtime.boundsError.signed" 2).cut (v.tape v.drawn (.extern "runtime.boundsError.signed" 2))==1) c) (α:=α) {v with drawn:=v.drawn+1};exact⟨z,_,b,a.a,a.b⟩;exact nE (P:=P) (fs:=fs) (.bounds _ y _ c) (α:=α) v
theorem Am{A:ah->α->α'->Prop}(k)(x y)(c){s'}:RS F (lp P fs) P A β (kV k x y c) s':= .gp (aaR k x y c)
theorem Vq(t)(h:VR β x x')(i):RS F (lp P fs) P VR β (L1 t x i) (L1 t x' i):=by refine bc (ig t) λj d e=>?_;cases d with
 |struct a=>show RS F (lp P fs) P VR j (match a[i]? with|some f=>_|none=>_) (match a[i]? with|some f=>_|none=>_);cases a[i]? with|none=>exact aN|some f=>cases (h.a e) with|gU b c=>exact rs_part _ _ ⟨b,c⟩|_=>exact tC
 |_=>exact aN
theorem acY(t){y b}(h:VR β x x')(l:VR β y b):RS F (lp P fs) P VR β (L2 t x y) (L2 t x' b):=by refine bc (Dh l) λm q f=>?_;have⟨k,i⟩:=q;refine bc (ig t) λo d g=>?_;have a:=(h.a f).a g;cases d with
 |array len elem=>cases a with|gU c e=>simp;split;exact bc (jR _) λp n j=>rs_part _ _ (AV.a j ⟨c,e⟩);grind[Am]|_=>exact aN
 |string=>cases a with|eI s=>simp;split;exact .ak (.cx _ _);grind[Am]|_=>exact aN
 |_=>grind[aN]
theorem WW(k:nC P)(t){y i}(h:VR β x x')(o:VR β y i):RS F (lp P fs) P VR β (zh t x y) (zh t x' i):=by refine bc (ig t) λB d f=>?_;cases d with
 |slice elem=>
  refine bc (HK (h.a f)) λC l j=>?_;refine bc (HK ((o.a f).a j)) λD c p=>?_;refine bc (rJ elem) λE info q=>?_;simp only;split;split
  grind[yb]
  split
  grind[yb]
  refine .gp λ v=>?_;exact⟨_,_,rfl,rfl,λ h=>h⟩;refine bc (Qv _) λG _ r=>?_;refine bc (jR elem) λH n s=>?_;have key:∀(b:ah)(z:Array df),(∀v∈z,fB v)->RS F (lp P fs) P VR b
   (do let a<-j2 elem ((nV ((IntKind.i64.wrap c).toNat*n)).map (z[· %z.size]!));cr (iA (some a) (IntKind.i64.wrap l).toNat (IntKind.i64.wrap c).toNat))
   (do let a<-j2 elem ((nV ((IntKind.i64.wrap c).toNat*n)).map (z[· %z.size]!));cr (iA (some a) (IntKind.i64.wrap l).toNat (IntKind.i64.wrap c).toNat)):=by
   intro b z g;refine bK (yW elem (AV.j _ λ a _=>?_)) λI a a' w m=> .ak (.dz (a:=some a) (a':=some a') m.1 _ _)
   grind[Jh]
  split;exact key _ _ (by simp);refine bK (vr k elem) λb z A u⟨e,g⟩=>?_;subst e;exact key _ _ (Gk g)|_=>exact aN
end
end
section
variable[aW][ck][Gl]
def PV(β:ah)(ps b:Array (Nat×df)):=ps.size=b.size/\∀(i:Nat)x a,ps[i]?=some x->b[i]?=some a->x.1=a.1/\VR β x.2 a.2
theorem PV.a{β f}(h:bF β f){ps e}(x:PV β ps e):PV f ps e:= ⟨x.1,λ i a b c d=> ⟨(x.2 i a b c d).1,(x.2 i a b c d).2.a h⟩⟩
theorem PV.b{β ps d}(h:PV β ps d):ps.toList.length=d.toList.length/\∀(i:Nat)x c,ps.toList[i]?=some x->d.toList[i]?=some c->x.1=c.1/\VR β x.2 c.2:= ⟨by simpa using h.1,λ i x c a b=>h.2 i x _ (by grind) (by grind)⟩
section
variable{F:Nat->Bool}{P:Program}{fs:Array Func}{α α' γ γ':Type}{β:ah}
theorem Qz{a c:Type}(f:a->dk c)(b:∀i β,RS F (lp P fs) P cW β (f i) (f i)):∀(l:List a)β,RS F (lp P fs) P cW β (l.mapM f) (l.mapM f)
 | [],β=>by exact .ak rfl|i::l,β=>by simp[tc];exact bc (b i _) λg x d=>bc (Qz f b l _) λh y e=> .ak rfl
theorem VG{a c:Type}(f:a->dk c)(b:∀i β,RS F (lp P fs) P cW β (f i) (f i))(l:Array a)(β):RS F (lp P fs) P cW β (l.mapM f) (l.mapM f):=by rw[pk];exact bc (Qz f b _ _) λe x d=> .ak rfl
theorem afe(r:nC P)(t){ps m}(h:PV β ps m):RS F (lp P fs) P VR β (L3 t ps) (L3 t m):=by refine bK (vr r t) λx z v p⟨e,l⟩=>?_;subst e;refine bc (ig t) λu d q=>?_;have hp:=(h.a p).a q;cases d with|struct o=>refine bc (VG _ (λ f β=>bc (jR f.type) λw n _=> .ak rfl) o u) λk s g=>?_;rcases C2 (s[·]?) (hp.a g).b (l k).e with e| ⟨c,c',a,b,j⟩;grind[aN];simp[a,b];exact .ak (VR.d j)|array n elem=>refine bc (jR elem) λk size g=>?_;rcases C2 (λ i=>some (i*size,size)) (hp.a g).b (l k).e with e| ⟨c,c',a,b,j⟩;grind[aN];simp[a,b];exact .ak (VR.d j)|_=>exact aN
theorem aiU(o:nC P)(t)(len){ps j}(h:PV β ps j):RS F (lp P fs) P VR β (y5 t len ps) (y5 t len j):=by refine bc (ig t) λw d m=>?_;cases d with
 |slice elem=>
  refine bc (jR elem) λr size n=>?_;have key:∀b(z:Array df),bF r b->(∀v∈z,fB v)->RS F (lp P fs) P VR b (do
   let some cells:=ma (λ i=>some (i*size,size)) ((nV (len*size)).map (z[· %z.size]!)) ps.toList|stuck "buildSlice: a part of the wrong size"
   cr (iA (some (<-j2 elem cells)) len len)) (do
   let some cells:=ma (λ i=>some (i*size,size)) ((nV (len*size)).map (z[· %z.size]!)) j.toList|stuck "buildSlice: a part of the wrong size"
   cr (iA (some (<-j2 elem cells)) len len)):=by
   intro b z f g;rcases C2 (λ i=>some (i*size,size)) (((h.a m).a n).a f).b (AV.j (β:=b) (nV (len*size)) λ a _=>Jh g (a%z.size) b)with e| ⟨c,c',k,l,q⟩
   grind[aN]
   simp only[k,l];exact bK (yW _ q) λx a a' s p=> .ak (.dz (a:=some a) (a':=some _) p.1 _ _)
  simp only;split;exact db;split;exact key _ _ (bF.b _) (by simp);refine bK (vr o elem) λb z u f⟨e,g⟩=>?_;subst e;exact key _ _ f (Gk g)|_=>exact aN
end
section
variable{F:Nat->Bool}{P:Program}{fs:Array Func}{α α' γ γ':Type}{β:ah}
variable{a a':Addr}{x x':Value}
theorem aah(h:AR β a a'):RS F (lp P fs) P cW β (noView a) (noView a'):=by
 refine bK (A:=λ _(x y:Option _)=>x=none/\y=none) ?_ λg x y e⟨b,c⟩=>by subst b c;exact .ak rfl
 refine .nt h.1 λ s=>?_;cases s with|some q=>exact .ak ⟨rfl,rfl⟩|none=>refine .jF h.1 λ o f d=>?_;cases d<;>exact .ak ⟨rfl,rfl⟩
theorem Ki:∀d t off,mb (lp P fs) d t off=mb P d t off:=by
 intro d
 induction d with|zero=>intro t off;rfl|succ d a=>intro t off;unfold mb;simp[a];rfl
theorem tE(h:AR β a a'):RS F (lp P fs) P cW β (byteOf a) (byteOf a'):=by unfold byteOf;rw[<-h.2.2,<-h.2.1];cases a.spot with|some s=>exact .ak rfl|none=>refine mc ?_;refine bc (aah h) λd _ c=>?_;refine .nt (c _ _ h.1) λ s=>?_;cases s with|none=>exact aN|some q=>have⟨e,n⟩:=q;show RS F _ P _ _ (if P.cellsOf e=0 then cr 0 else _) (if P.cellsOf e=0 then cr 0 else _);split;exact .ak rfl;rw[Ki];show RS F (lp P fs) P cW d (match mb P P.depth e (a.off%P.cellsOf e)with|some b=>cr (a.off/P.cellsOf e*P.bytesOf e+b)|_=>ew "byteOf: no such cell") (match mb P P.depth e (a.off%P.cellsOf e)with|some b=>cr (a.off/P.cellsOf e*P.bytesOf e+b)|_=>ew "byteOf: no such cell");cases mb P _ e _ with|none=>exact aN|some b=>exact .ak rfl
theorem VV(h:AR β a a')(c b):RS F (lp P fs) P AR β (partAt a c b) (partAt a' c b):=by refine bc (tE h) λg x f=>?_;have d:AR g {block:=a.block,off:=a.off+c} {block:=a'.block,off:=a'.off+c}:= ⟨f _ _ h.1,by simp[h.2.1],rfl⟩;refine bc (tE d) λi y e=> .ak ?_;split;exact d.a e;exact⟨e _ _ d.1,d.2.1,rfl⟩
theorem aaM(h:AR β a a')(f):RS F (lp P fs) P AR β (fieldPlace a f) (fieldPlace a' f):=by refine bc (jR f.type) λc n b=>?_;split;exact VV (h.a b) _ _;exact .ak ((h.a b).b _)
theorem VN(t)(h:VR β x x')(i):RS F (lp P fs) P VR β (B2 t x i) (B2 t x' i):=by refine bc (ig t) λn d e=>?_;cases d with
 |struct c=>simp;cases c[i]? with|none=>exact aN|some f=>exact bK (zi (h.a e)) λo a a' l g=>bK (aaM g f) λp b k m j=> .ak (.dc (a:=some b) (a':=some _) j)
 |_=>exact aN
theorem ab9(t){y o}(h:VR β x x')(v:VR β y o):RS F (lp P fs) P VR β (Cv t x y) (Cv t x' o):=by
 refine bc (Dh v) λz q p=>?_;have⟨k,i⟩:=q;refine bc (ig t) λA d r=>?_;have m:=(h.a p).a r;have rest:∀f b e len elem,(b≠none->AO f b e\/len=0)->RS F (lp P fs) P VR f (do
   let l:=len<=1&& (match<-gw t with| .array .. =>true|_=>false) match b with
   |some a=>if 0<=i/\i<len then cr (.pointer (some (a.add (i.toNat* (<-mA elem))))) else if l then unsupported (.noEntry "op/indexAddr.an index out of range at an array of length 0 or 1 (ledger 616)") else kV k i len .index|none=>kV k i 0 .index) (do let l:=len<=1&& (match<-gw t with| .array .. =>true|_=>false) match e with
   |some a=>if 0<=i/\i<len then cr (.pointer (some (a.add (i.toNat* (<-mA elem))))) else if l then unsupported (.noEntry "op/indexAddr.an index out of range at an array of length 0 or 1 (ledger 616)") else kV k i len .index|none=>kV k i 0 .index):=by intro f b e len elem j;refine bc (ig t) λB d2 s=>?_;cases b with|none=>grind[Am]|some a=>
   rcases j (by simp) with j|hl;case inr=>subst hl;simp;rw[if_neg (by omega)];cases d2<;>simp only<;>split<;>first|exact .a rfl|exact Am _ _ _ _
   cases e with|none=>trivial|some a'=>simp;split;exact bc (jR _) λC n u=> .ak (.dc (a:=some _) (a':=some _) (((AR.a s j).a u).b _));cases d2<;>simp only<;>split<;>first|exact .a rfl|exact Am _ _ _ _
 cases d with
 |array len elem=>exact bK (zi m) λf a a' w g=>rest _ (some a) (some _) _ _ λ _=> .inl g|slice elem=>cases m with|dz g n c=>exact rest _ _ _ n _ λ _=> .inl g|ez a'=>exact rest _ (some r9) (some a') 0 _ λ _=> .inr rfl|_=>exact aN
 |_=>exact aN
def VO(β:ah):Option df->Option df->Prop|none,none=>True|some x,some y=>VR β x y|_,_=>False
theorem VO.b{β b}(h:bF β b):{a a':Option df}->VO β a a'->VO b a a'|none,none,_=>trivial|some _,some _,x=>VR.a h x|none,some _,x=>x.elim|some _,none,x=>x.elim
theorem Bo(h:VR β x x')(y)(c):RS F (lp P fs) P cW β (hZ x y c) (hZ x' y c):=by refine bc (Dh h) λb q a=>?_;have⟨k,i⟩:=q;simp;split;exact .ak rfl;grind[Am]
theorem B3(s)(len cap){lo d e c j f}(h1:VO β lo d)(g:VO β e c)(h3:VO β j f):RS F (lp P fs) P cW β (lb s len cap lo e j) (lb s len cap d c f):=by
 have low:∀k(h m:Nat)(b:Bool),bF β k->RS F (lp P fs) P cW k (do
  let l<-match lo with|some v=>hZ v h (if b then .slice3C else .sliceB)|none=>cr 0
  cr (l,h,m)) (do
  let l<-match d with|some v=>hZ v h (if b then .slice3C else .sliceB)|none=>cr 0
  cr (l,h,m)):=by intro k h m b a;cases lo with
  |none=>cases d with
   |none=>exact .ak rfl|some _=>trivial
  |some x=>cases d with
   |none=>trivial|some x'=>exact bc (Bo (VR.a a h1) _ _) λn l g=> .ak rfl
 cases j with
 |none=>cases f with|some _=>trivial|none=>refine bc (s:=cr cap) (s':=cr cap) (.ak rfl) λn m a=>?_;cases e with
  |none=>cases c with|none=>exact low _ _ m _ a|some _=>trivial
  |some x=>cases c with|none=>trivial|some x'=>exact bc (Bo (VR.a a g) _ _) λo l i=>low _ l m _ (a.a i)
 |some x=>cases f with|none=>trivial|some x'=>refine bc (Bo h3 _ _) λn m a=>?_;cases e with|none=>grind[tC]|some y=>cases c with|none=>trivial|some p=>exact bc (Bo (VR.a a g) _ _) λo l i=>low _ l m _ (a.a i)
def Z0(_:ah)(a b:Nat):=a=0/\b=0
theorem adE(h:VR β x x')(c):RS F (lp P fs) P Z0 β (hZ x 0 c) (hZ x' 0 c):=by refine bc (Dh h) λb q a=>?_;have⟨k,i⟩:=q;simp;split;exact .ak (by unfold Z0;omega);exact Am _ _ _ _
theorem anl{lo f g e k h}(h1:VO β lo f)(i:VO β g e)(h3:VO β k h):RS F (lp P fs) P (λ _ q q'=>q=q'/\q=(0,0,0)) β (lb true 0 0 lo g k) (lb true 0 0 f e h):=by
 have low:∀n(b:Bool),bF β n->RS F (lp P fs) P (λ _(q q':Nat×Nat×Nat)=>q=q'/\q=(0,0,0)) n (do
   let l<-match lo with|some v=>hZ v 0 (if b then .slice3C else .sliceB)|none=>cr 0
   cr (l,0,0)) (do
   let l<-match f with|some v=>hZ v 0 (if b then .slice3C else .sliceB)|none=>cr 0
   cr (l,0,0)):=by intro n b d;cases lo with
  |none=>cases f with
   |none=>exact .ak ⟨rfl,rfl⟩|some _=>trivial
  |some x=>cases f with
   |none=>trivial|some x'=>exact bK (adE (VR.a d h1) _) λo l l' i⟨a,c⟩=>by subst a c;exact .ak ⟨rfl,rfl⟩
 cases k with
 |none=>cases h with|some _=>trivial|none=>refine bK (A:=Z0) (s:=cr 0) (s':=cr 0) (.ak ⟨rfl,rfl⟩) λo m m' d⟨a,c⟩=>?_;subst a c;cases g with
   |none=>cases e with|none=>exact low _ _ d|some _=>trivial
   |some x=>cases e with|none=>trivial|some x'=>exact bK (adE (VR.a d i) _) λp l l' j⟨a,c⟩=>by subst a c;exact low _ _ (d.a j)
 |some x=>cases h with|none=>trivial|some x'=>refine bK (adE h3 _) λo m m' d⟨a,c⟩=>?_;subst a c;cases g with|none=>exact tC|some y=>cases e with|none=>trivial|some r=>exact bK (adE (VR.a d i) _) λp l l' j⟨a,c⟩=>by subst a c;exact low _ _ (d.a j)
theorem AO.c{a a'}(h:AO β a a')(n):AO β (a.map (·.add n)) (a'.map (·.add n)):=by cases a<;>cases a'<;>first|exact h.elim|exact trivial|exact AR.b h n
theorem XA(t){lo w r u p k}(G:VR β x x')(h1:VO β lo w)(h2:VO β r u)(h3:VO β p k):RS F (lp P fs) P VR β (C8 t x lo r p) (C8 t x' w u k):=by
 have slice:∀y,bF β y->RS F (lp P fs) P VR y (NT t x lo r p) (NT t x' w u k):=by intro y v;refine bc (ig t) λD d B=>?_;have b:=v.a B;have C:=G.a b;cases d with
  |string=>cases C with
   |eI s=>cases p with
    |some _=>cases k with
     |none=>exact h3.elim
     |some _=>exact tC
    |none=>cases k with
     |some _=>exact h3.elim
     |none=>exact bc (B3 false s.size _ (h1.b b) (h2.b b) trivial) λz q i=> .ak (.eI _)
   |_=>exact aN
  |slice elem=>cases C with
   | @dz a a' o n c=>
    refine bc (B3 true n c (h1.b b) (h2.b b) (h3.b b)) λz q i=>?_;have⟨l,h,m⟩:=q;refine bc (jR elem) λE size j=> .ak ?_;have f:=(o.a i).a j;by_cases g:m=l
    simp[g,if_true];exact .dz f _ _;simp[g,if_false];exact .dz (f.c _) _ _|ez a'=>
    refine bK (anl (h1.b b) (h2.b b) (h3.b b)) λz q q' i⟨e,K⟩=>?_;subst e;cases K;refine bc (jR elem) λE size j=> .ak ?_;exact .ez a'|_=>exact aN
  |pointer arr=>
   have J:RS F (lp P fs) P AR D (hJ x) (hJ x'):=by
    cases C with
    | @dc a a' h=>cases a<;>cases a'<;>first|exact h.elim|exact .ak h|exact E7 .nilDeref
    |_=>exact aN
   have body:RS F (lp P fs) P VR D (do
    let a<-hJ x
    let .array n elem<-gw arr|stuck "Slice: array type expected"
    let(l,h,m)<-lb false n n lo r p
    let size<-mA elem
    cr (.slice (some (if m=l then a else a.add (l*size))) (h- l) (m- l))) (do
    let a<-hJ x'
    let .array n elem<-gw arr|stuck "Slice: array type expected"
    let(l,h,m)<-lb false n n w u k
    let size<-mA elem
    cr (.slice (some (if m=l then a else a.add (l*size))) (h- l) (m- l))):=by
    refine bK J λz a a' i o=>?_;refine bc (ig arr) λE d2 j=>?_;cases d2 with
    |array n elem=>
     have A:=(b.a i).a j;refine bc (B3 false n n (h1.b A) (h2.b A) (h3.b A)) λL q H=>?_;have⟨l,h,m⟩:=q;refine bc (jR elem) λM size I=> .ak ?_;have f:=((o.a j).a H).a I;by_cases g:m=l
     simp[g,if_true];exact .dz (a:=some a) (a':=some _) f _ _;simp[g,if_false];exact .dz (a:=some _) (a':=some _) (f.b _) _ _
    |_=>exact aN
   omega|_=>grind[aN]
 refine bc (ig t) λy d v=>?_;cases d with|array n elem=>refine bK (zi (G.a v)) λD a a' B o=>?_;have b:=v.a B;refine bc (B3 false n n (h1.b b) (h2.b b) (h3.b b)) λz q i=>?_;have⟨l,h,m⟩:=q;refine bc (jR elem) λE size j=> .ak ?_;have f:=(o.a i).a j;by_cases g:m=l;simp[g,if_true];exact .dz (a:=some a) (a':=some _) f _ _;simp[g,if_false];exact .dz (a:=some _) (a':=some _) (f.b _) _ _|_=>grind
end
section
variable{F:Nat->Bool}{P:Program}{fs:Array Func}{α α' γ γ':Type}{β:ah}
variable{xs ys:Array Value}
theorem S4{A}{s':dk α'}(r)(k:ko->dk α)(i:∀o,AL o=true->∃m,k o=ew m):RS F (lp P fs) P A β (tm r k) s':= .vA λ v j=>by cases a:v.heap[r]? with|none=>exact⟨_,_,by simp[et,a];rfl,rfl,id⟩|some o=>
 have⟨m,d⟩:=i o ((j r o a).2);by_cases h:∃c e f,o= .cells c e f;obtain⟨c,e,f,rfl⟩:=h;exact⟨_,_,by simp only[et,a];rfl,rfl,id⟩;have g:(tm r k).run (lp P fs) v=(k o).run (lp P fs) v:=by
  grind[et,absurd]
 exact⟨_,_,g.trans (by rw[d];rfl),rfl,id⟩
theorem abc(i)(t)(h:AV β xs ys):RS F (lp P fs) P VR β (sy i t xs) (sy i t ys):=by unfold sy;rcases h.d 0 with⟨j,l⟩| ⟨x,y,j,l,q⟩;grind[aN];rw[j,l];cases i[0]? with|none=>exact aN|some u=>refine bc (ig u) λw d m=>?_;have f:=q.a m;cases d with
 |string=>cases f<;>first|exact aN|exact .ak (.cx _ _)
 |array n e=>exact .ak (.cx _ _)|pointer arr=>exact bc (ig _) λz d2 s=>by cases d2<;>first|exact aN|exact .ak (.cx _ _)
 |slice e=>cases f<;>first|exact aN|exact .ak (.cx _ _)
 |map k e=>cases f with
  | @kM r r' h=>cases r with
   |none=>cases r' with|none=>exact .ak (.cx _ _)|some _=>trivial
   |some r=>cases r' with|none=>trivial|some r'=>refine .jF h λ o v g=>?_;cases g with|mw c p=>exact .ak (by rw[p.1];exact .cx _ _)|_=>exact aN
  |_=>exact aN
 |chan a b=>cases f with
  |me=>exact .ak (.cx _ _)|gW h hp=>exact S4 _ _ λ o g=>by cases o<;>first|exact⟨_,rfl⟩|cases g
  |_=>exact aN
 |_=>grind[aN]
theorem afI(c)(t)(h:AV β xs ys):RS F (lp P fs) P VR β (s0 c t xs) (s0 c t ys):=by unfold s0;rcases h.d 0 with⟨f,g⟩| ⟨x,y,f,g,l⟩;grind[aN];rw[f,g];cases c[0]? with|none=>exact aN|some u=>refine bc (ig u) λp d j=>?_;have i:=l.a j;cases d with
 |array n e=>exact .ak (.cx _ _)|pointer arr=>exact bc (ig _) λq d2 m=>by cases d2<;>first|exact aN|exact .ak (.cx _ _)
 |slice e=>cases i<;>first|exact aN|exact .ak (.cx _ _)
 |chan a b=>cases i with
  |me=>exact .ak (.cx _ _)|gW h hp=>exact S4 _ _ λ o k=>by cases o<;>first|exact⟨_,rfl⟩|cases k
  |_=>exact aN
 |_=>grind[aN]
def anA(x:df)(_:ah)(a b:Nat):=a=b/\∀l c,x= .slice (some r9) l c->a=l
theorem Oh{x a}(h:VR β x a):RS F (lp P fs) P (anA x) β (Dd x) (Dd a):=by cases h<;>first|exact aN|exact .ak ⟨rfl,λ _ _ e=>by cases e;rfl⟩|exact .ak ⟨rfl,λ _ _ e=>by cases e⟩
theorem K5(size)(a)(l c):hD size 0 (.slice a l c)=cr #[]:=by unfold hD;cases a<;>simp[q3];rfl
theorem Ek(size n){x d}(h:VR β x d)(h0:∀l c,x= .slice (some r9) l c->n<=l):RS F (lp P fs) P AV β (hD size n x) (hD size n d):=by cases h with
 | @dz a a' h l c=>cases a<;>cases a'<;>first|exact h.elim|exact J5 _ h|exact .ak (AV.e _)
 |ez a'=>rw[Nat.le_zero.1 (h0 _ _ rfl),K5,K5];exact .ak (AV.e _)|eI s=>exact .ak (AV.j _ λ b _=> .cx _ _)|_=>exact aN
theorem amD(size){x d}(h:VR β x d):RS F (lp P fs) P (λ _ a b=>a= #[]/\b= #[]) β (hD size 0 x) (hD size 0 d):=by cases h with| @dz a a' h l c=>rw[K5,K5];exact .ak ⟨rfl,rfl⟩|ez a'=>rw[K5,K5];exact .ak ⟨rfl,rfl⟩|eI s=>exact .ak ⟨by simp,by simp⟩|_=>exact aN
theorem ac0{z}(b:∀v∈z,fB v)(n)(β):AV β (pv z n) (pv z n):=AV.j _ λ a _=>Jh b _ _
theorem adB(m)(t)(h:AV β xs ys):RS F (lp P fs) P VR β (sf m t xs) (sf m t ys):=by unfold sf;rcases h.d 0 with⟨f,g⟩| ⟨x,y,f,g,A⟩;grind[aN];rcases h.d 1 with⟨o,p⟩| ⟨u,v,o,p,k⟩;grind[aN];rw[f,g,o,p];cases m[0]? with|none=>exact aN|some d=>refine bc (ig d) λI d b=>?_;cases d with
  |slice elem=>cases (A.a b) with
   | @dz a a' s n c=>refine bK (Oh (k.a b)) λD l l' i⟨e,r⟩=>?_;subst e;refine bc (jR elem) λE size j=>?_;refine bK (Ek size _ (((k.a b).a i).a j) λ C c2 e=>by have:=r C c2 e;subst this;exact Nat.min_le_left _ _) λG c c' q z=>?_;cases a with
    |none=>cases a' with|none=>exact .ak (.cx _ _)|some _=>trivial
    |some a=>cases a' with|none=>trivial|some a'=>exact bc (Ds 0 (((s.a i).a j).a q) z.g) λJ _ H=> .ak (.cx _ _)
   |ez a'=>refine bK (Oh (k.a b)) λD l l' i⟨e,r⟩=>?_;subst e;refine bc (jR elem) λE size j=>?_;rw[show l.min 0=0 from Nat.min_zero _];refine bK (amD size (((k.a b).a i).a j)) λG c c' q⟨f,g⟩=>?_;subst f g;exact .ak (.cx _ _)|_=>exact aN
  |_=>exact aN
theorem kW(t):RS F (lp P fs) P (λ _ a a'=>a=a'/\P.underlying t=some a) β (gw t) (gw t):=by refine mc ?_;show RS F (lp P fs) P _ β (match P.underlying t with|some i=>cr i|none=>ew "no such type") (match P.underlying t with|some i=>cr i|none=>ew "no such type");cases h:P.underlying t with|none=>exact aN|some i=>exact .ak ⟨rfl,rfl⟩
theorem NK(Q)(a)(n)(v):∃b,(yt a n).run Q v= .ok b v:=by show∃b,((match v.shape? _ with|some (_,m)=>cr _|none=>cr _:dk _)).run Q v= .ok b v;cases v.shape? _ with|none=>simp|some q=>simp
theorem aej(Q)(size sl n)(a)(x)(v):∃b,(rV size sl n a x).run Q v= .ok b v:=by
 have tail:∀t,∃b,((do
  if !t then return true
  match x with| .slice (some b) _ _=>do cr (!(<-yt b (n*size))||a.any (·.block==b.block))|_=>cr false:dk Bool)).run Q v= .ok b v:=by intro t;cases t with|false=>simp|true=>cases x with
   |slice b l c=>cases b with|none=>simp|some b=>have⟨y,d⟩:=NK Q b (n*size) v;simp_all
   |_=>simp
 unfold rV;cases a with|none=>exact tail true|some a=>have⟨y,d⟩:=NK Q a (sl*size) v;have⟨b,e⟩:=tail (y&&!v.frozen? (a.add (sl/2*size)));refine⟨b,?_⟩;rw[<-e];show(eL _ _).run Q v=_;rw[ru,d];rfl
theorem VC(ad:nC P)(i)(t){xs ys}(R:i[1]?≠none/\∀u,i[1]?=some u->(∃e,P.underlying u=some (.slice e))\/P.underlying u=some .string)(h:AV β xs ys):RS F (lp P fs) P VR β (r1 i t xs) (r1 i t ys):=by unfold r1;rcases h.d 0 with⟨w,y⟩| ⟨s,s',w,y,ah⟩;grind[aN];rcases h.d 1 with⟨H,I⟩| ⟨x,an,H,I,am⟩;grind[aN];rw[w,y,H,I];cases i[0]? with|none=>exact aN|some d=>refine bc (ig d) λao d J=>?_;cases d with
  |slice elem=>
   have Q:=ah.a J;have ai:(∃a a' sl f,s= .slice a sl f/\s'= .slice a' sl f/\(AO ao a a'\/sl=0/\f=0))\/(∀a l c,s≠ .slice a l c):=by cases Q<;>first|exact .inl ⟨_,_,_,_,rfl,rfl,.inl ‹_›⟩|exact .inl ⟨_,_,_,_,rfl,rfl,.inr ⟨rfl,rfl⟩⟩|exact .inr (by intro _ _ _ h;cases h)
   obtain⟨a,a',sl,f,rfl,rfl,p⟩|q:=ai;refine bc (jR elem) λaE size B=>?_;have U:=(am.a J).a B;cases S:i[1]? with
   |none=>exact absurd S R.1|some u=>
    refine bK (kW u) λaF d ar A⟨e,M⟩=>?_;subst e;have ae:(∃e,d= .slice e)\/d= .string:=by rcases R.2 u S with⟨e,r⟩|r;rw[M]at r;cases r;exact .inl ⟨e,rfl⟩;rw[M]at r;cases r;exact .inr rfl
    obtain⟨e,rfl⟩|rfl:=ae;all_goals
     simp only[pure_bind,hF,if_false,N1,if_true,false_or];refine bK (Oh (U.a A)) λaq n ay C⟨X,af⟩=>?_;subst X;have E:=(U.a A).a C;have T:=((Q.a B).a A).a C;have O:∀l c,x= .slice (some r9) l c->n<=l:=λ l c e=>Nat.le_of_eq (af l c e);split;rename_i av;obtain p| ⟨rfl,rfl⟩:=p
     refine bK (Ek size n E O) λV c c' k D=>?_;have L:=(((p.a B).a A).a C).a k;cases a with
     |none=>cases a' with
      |none=>exact .ak (.dz (a:=none) (a':=none) trivial _ _)
      |some _=>exact p.elim
     |some a=>cases a' with
      |none=>exact p.elim
      |some a'=>exact bc (Ds 0 (AR.b L _) D.g) λj _ m=> .ak (.dz (a:=some a) (a':=some a') (AR.a m L) _ _)
     have G:n=0:=by omega
     subst G;refine bK (amD size E) λV c c' k⟨w,y⟩=>?_;subst w y;cases a<;>cases a'<;>exact .ak (T.a k)
     refine bc (rJ elem) λV info k=>?_;have Y:∀j,bF aq j->RS F (lp P fs) P VR j (do
      let g<-choose (y0 (sl+n) f elem)
      let __do_lift<-hQ elem
      n3 (g*__do_lift.bytes)
      let old<-hD size sl (iA a sl f)
      let new<-hD size n x
      let __do_lift<-mo elem
      let __do_lift<-j2 elem (old++new++pv __do_lift.cells (g- (sl+n)))
      cr (iA (some __do_lift) (sl+n) g)) (do
      let g<-choose (y0 (sl+n) f elem)
      let __do_lift<-hQ elem
      n3 (g*__do_lift.bytes)
      let old<-hD size sl (iA a' sl f)
      let new<-hD size n an
      let __do_lift<-mo elem
      let __do_lift<-j2 elem (old++new++pv __do_lift.cells (g- (sl+n)))
      cr (iA (some __do_lift) (sl+n) g)):=by
      intro j m;refine JK λ az=>bc (rJ elem) λaG ax aa=>bc (Qv _) λaH _ ab=>?_;have N:=(m.a aa).a ab;refine bK (Ek size sl (T.a N) λ l c e=>by cases e;exact fz _) λaI o aA ac ag=>?_;refine bK (Ek size n ((E.a N).a ac) O) λaC c c' Z D=>?_;refine bK (vr ad elem) λap z aB K⟨e,G⟩=>?_;subst e;refine bK (yW elem (AV.b (AV.b ((ag.a Z).a K) (D.a K)) (ac0 (Gk G) _ ap))) λaD b W au q=> .ak (.dz (a:=some b) (a':=some W) q.1 _ _)
     split;exact yb _;refine bc (rJ elem) λj aw m=>?_;split;refine tV λ v=>?_;have⟨b,q⟩:=aej (lp P fs) size sl n a x v;show∃z v2,(eL (rV size sl n a x) _).run (lp P fs) v= .halt z v2/\BH v v2 z;rw[ru,q];cases b<;>exact⟨_,_,rfl,rfl,id⟩
     exact Y j (k.a m)
   cases s<;>first|exact aN|exact absurd rfl (q _ _ _)
  |_=>exact aN
end
section
variable{F:Nat->Bool}{P:Program}{fs:Array Func}{α α' γ γ':Type}{β:ah}
variable{a a':Addr}
theorem ad9{r r'}(h:β r r'):RS F (lp P fs) P (λ _(x y:Option (eo×hg))=>x=none/\y=none) β (viewAt r) (viewAt r'):=by refine .nt h λ s=>?_;cases s with|some q=>exact .ak ⟨rfl,rfl⟩|none=>refine .jF h λ o b a=>?_;cases a<;>exact .ak ⟨rfl,rfl⟩
def NR:ah->Option (eo×Bool)->Option (eo×Bool)->Prop|_,none,none=>True|β,some x,some y=>AR β x.1 y.1/\x.2=y.2|_,_,_=>False
theorem XS{r r'}(h:β r r'):RS F (lp P fs) P NR β (numberAt r) (numberAt r'):=by refine .nt h λ s=>?_;cases s with|some q=>exact .ak trivial|none=>refine .jF h λ o b a=>?_;cases a with|xE l x=>exact .ak ⟨x,rfl⟩|_=>exact .ak trivial
theorem sn(h:AR β a a'):RS F (lp P fs) P (λβ x y=>AR β x.1 y.1/\x.2=y.2) β (ih a) (ih a'):=by refine bK (XS h.1) λd x y c b=>?_;cases x<;>cases y<;>first|exact b.elim|exact .ak ⟨h.a c,rfl⟩|exact .ak b
theorem adm(h:AR β a a')(l):RS F (lp P fs) P VR β (q4 a l) (q4 a' l):= .oq (.xE l h) λ r r' c _ b _=> .ak (.dc (a:=some _) (a':=some _) ⟨b,rfl,rfl⟩)
theorem V6:∀d t off,tv (lp P fs) d t off=tv P d t off:=by
 intro d
 induction d with|zero=>intro t off;rfl|succ d a=>intro t off;unfold tv;simp[a];rfl
theorem afG(d)(e)(count off)(b):l4 (lp P fs) d e count off b=l4 P d e count off b:=by unfold l4;simp[Ki,V6];rfl
def PA:ah->df->df->Prop:=λβ x y=>∃b a,x= .pointer b/\y= .pointer a/\AO β b a
theorem Ke(d)(t){a a'}(h:AO β a a')(n)(k):RS F (lp P fs) P PA β (pt d t #[.pointer a,.int k n]) (pt d t #[.pointer a',.int k n]):=by
 refine bc (HK (.cx k n)) λl m i=>?_;have b:=h.a i;simp;split;cases a with
 |none=>exact db
 |some a=>cases a' with
  |none=>trivial
  |some a'=>
   refine bK (ad9 b.1) λo x y j⟨f,g⟩=>?_;subst f g;exact .ak ⟨_,_,rfl,rfl,AO.a j b⟩
 split;exact tV λ v=> ⟨_,_,rfl,rfl,λ h=>h⟩;cases a with
 |none=>exact db
 |some a=>cases a' with
  |none=>trivial
  |some a'=>
   refine .nt b.1 λ s=>?_;cases s with
   |none=>exact db
   |some q=>
    obtain⟨e,c⟩:=q;refine mc ?_;rw[afG,<-b.2.1];show RS F (lp P fs) P PA l (match l4 P P.depth e (c/P.cellsOf e) a.off m with|some off=>cr (.pointer (some {a with off}))|none=>_) (match l4 P P.depth e (c/P.cellsOf e) a.off m with|some off=>cr (.pointer (some {a' with off}))|none=>_);cases l4 P _ e _ _ m with
    |none=>exact db
    |some off=>exact .ak ⟨_,_,rfl,rfl,b.1,rfl,b.2.2⟩
theorem HQ(op)(t)(k)(a)(k')(b):RS F (lp P fs) P VR β (hy op t (.int k a) (.int k' b)) (hy op t (.int k a) (.int k' b)):=by
 have d:∀op,RS F (lp P fs) P VR β (vo op k a k' b) (vo op k a k' b):=by
  intro op;unfold vo;split
  grind[E7]
  cases op<;>first|exact .ak (.cx _ _)|exact aN
 have c:∀op,RS F (lp P fs) P VR β (vi op k a b) (vi op k a b):=by
  intro op;unfold vi;split
  grind[E7]
  cases op<;>first|exact .ak (.cx _ _)|exact aN
 cases op<;>simp only[hy]<;>first|exact d _| (
  split;exact aN
  first
  |exact c _
  |exact .ak (.cx _ _)
  |exact .ak (.fY _))
theorem G4(op)(t)(a b):RS F (lp P fs) P VR β (hy op t (.string a) (.string b)) (hy op t (.string a) (.string b)):=by cases op<;>simp[hy,Op.stringOp]<;>first|exact .ak (.fY _)|exact aN| (
 split;exact db;exact .ak (.eI _))
theorem Ky(k:aW.n=P.globals.size){b d}(c:AR β a a')(e:AR β b d):RS F (lp P fs) P cW β (Jx a b) (Jx a' d):=by
 refine mc ?_;have f:(a.block !=b.block)=(a'.block !=d.block):=by rw[JD,bne_iff_ne,bne_iff_ne];exact not_congr ⟨λ h=>β.f _ _ _ c.1 (h▸e.1),λ h=>β.e _ _ _ c.1 (h▸e.1)⟩
 have g:decide (a.block>=(lp P fs).globals.size)=decide (a'.block>=P.globals.size):=by have:=β.d _ _ c.1;grind
 simp[f,g];split;exact .a rfl;exact bc (tE c) λl x i=>bc (tE (e.a i)) λm y j=> .ak rfl
theorem HT(h:AR β a a')(k)(n):RS F (lp P fs) P VR β (N5 k a n) (N5 k a' n):=by refine .nt h.1 λ s=>?_;cases s with|none=>exact db|some q=>have⟨e,c⟩:=q;show RS F _ P _ _ (hQ e>>=λ i=>_) (hQ e>>=λ i=>_);refine bc (rJ e) λg info d=>?_;simp;split;exact tV λ v=> ⟨_,_,rfl,rfl,λ h=>h⟩;exact bc (tE (h.a d)) λj b f=> .ak (.cx _ _)
theorem Fx(t){x l}(h:VR β x l)(c:∃a,x= .pointer a)(k)(n):RS F (lp P fs) P VR β (l7 t x (.int k n)) (l7 t l (.int k n)):=by obtain⟨a,rfl⟩:=c;cases h with| @dc a a' h=>
 refine bc (ig t) λz d q=>?_;have body:RS F (lp P fs) P VR z (do
  let .pointer (some f):=pX a|Builtin.unsafeAdd_ #[] t #[.pointer a,.int k n]
  let(a,e)<-ih f match<-pt #[] t #[.pointer (some a),.int k n]with
  | .pointer (some b)=>q4 b e|v=>cr v) (do
  let .pointer (some f):=pX a'|Builtin.unsafeAdd_ #[] t #[.pointer a',.int k n]
  let(a,e)<-ih f match<-pt #[] t #[.pointer (some a),.int k n]with
  | .pointer (some b)=>q4 b e|v=>cr v):=by cases a with
  |none=>cases a' with|none=>exact RS.e (Ke _ _ (a:=none) (a':=none) trivial n k) λG x y _⟨b,g,m,o,h⟩=>by subst m o;exact .dc h|some _=>trivial
  |some a=>cases a' with|none=>trivial|some a'=>refine bK (sn (h.a q)) λH x y A⟨c,j⟩=>?_;have⟨s,D⟩:=x;have⟨w,E⟩:=y;subst j;refine bK (Ke _ _ (a:=some s) (a':=some w) c n k) λI u C B r=>?_;obtain⟨b,g,rfl,rfl,i⟩:=r;cases b<;>cases g<;>first|exact i.elim|exact adm i _|exact .ak (.dc (a:=none) (a':=none) trivial)
 cases d<;>first|exact tV λ v=> ⟨_,_,rfl,rfl,λ h=>h⟩|exact body
end
def ik(Q P:ef):Nat->hg->Bool|0,_=>false|n+1,t=>match P.underlying t with|some .bool|some (.int _)|some .string|some (.slice _)=>true|some (.struct fs)=>!P.stoodInHeld t&&!Q.stoodInHeld t&&fs.all λ f=>ik Q P n f.type|some (.array _ e)=>ik Q P n e|_=>false
section
variable{F:Nat->Bool}{P:Program}{fs:Array Func}{α α' γ γ':Type}{β:ah}
def Ni{a:Type}(A:ah->a->a->Prop):ah->ForInStep a->ForInStep a->Prop|β,.yield x,.yield y=>A β x y|β,.done x,.done y=>A β x y|_,_,_=>False
theorem yn{c a:Type}{A f f'}:∀(l:List c),(∀i∈l,∀β s s',A β s s'->RS F (lp P fs) P (Ni A) β (f i s) (f' i s'))->∀β(s s':a),A β s s'->RS F (lp P fs) P A β (n1 l s f) (n1 l s' f')
 | [],_,β,s,s',h=>by exact .ak h|i::l,hf,β,s,s',h=>by simp[s4];refine bK (hf i (by simp) β s s' h) λe x y g b=>?_;cases x<;>cases y<;>first|exact b.elim|exact .ak b|exact yn l (λ j d=>hf j (by simp[d])) e _ _ b
theorem afL(d)(t)(k0)(K:P.underlying t=some (.int k0))(O:aW.n=P.globals.size){x B y C}(s:VR β x B)(f:VR β y C):RS F (lp P fs) P cW β (ml (d+1) t x y) (ml (d+1) t B C):=by refine bK (kW t) λY u V o⟨e,A⟩=>?_;subst e;rw[K]at A;cases A;have f:=f.a o;cases (s.a o) with
 |cx k a=>cases f with
  |cx k' b=>simp;split;exact .ak rfl;exact aN| @dc b g j=>cases b with
   |none=>cases g with|none=>exact db|some _=>exact j.elim
   |some b=>cases g with|none=>exact j.elim|some g=>
     cases a with
     |ofNat n=>cases n<;>first|exact .ak rfl|exact db
     |negSucc n=>exact db
  |_=>first|exact aN|exact db
 | @dc a a' H=>cases a with|none=>cases f<;>exact db|some a=>cases a' with|none=>trivial|some a'=>cases f with
    |cx k b=>
     cases b with
     |ofNat n=>cases n<;>first|exact .ak rfl|exact db
     |negSucc n=>exact db
    | @dc b g j=>
     cases b with
     |none=>exact db
     |some b=>cases g with
      |none=>trivial
      |some g=>
       refine bK (sn H) λZ p q w⟨hp,_⟩=>?_;refine bK (sn (AR.a w j)) λl u v z⟨c,_⟩=>?_;have⟨p,p2⟩:=p;have⟨q,L⟩:=q;have⟨u,W⟩:=u;have⟨v,v2⟩:=v;have hp:=hp.a z;have D:(p.block==u.block)=(q.block==v.block):=by
        rw[JD,beq_iff_eq,beq_iff_eq];exact⟨λ h=>l.f _ _ _ hp.1 (h▸c.1),λ h=>l.e _ _ _ hp.1 (h▸c.1)⟩
       have G:decide (p.block< (lp P fs).globals.size)=decide (q.block<P.globals.size):=by
        have:=l.d _ _ hp.1
        grind
       refine mc ?_;simp only[D,G];split
       exact bc (tE hp) λM m i=>bc (tE (c.a i)) λaa n N=> .ak rfl;refine bc (rJ t) λM info i=>?_;have E:p=u->q=v:=by
        intro e;subst e;have⟨T,L,U⟩:=q;have⟨v1,v2,X⟩:=v;have w:=hp.2.1.symm.trans c.2.1;have z:=hp.2.2.symm.trans c.2.2
        grind
       by_cases r:p=u;have J:=E r;subst r J;simp[beq_self_eq_true,if_true];split;exact .ak rfl;exact .a rfl;simp[beq_false_of_ne r,hF,if_false];split<;>exact .a rfl
    |_=>exact db
 |fy h=>cases f<;>first|exact aN|exact db
 |_=>cases f<;>first|exact aN|exact db
theorem NU(ag:aW.n=P.globals.size):∀d n t,ik (lp P fs) P n t=true->∀{β:ah}{x G y H:df},VR β x G->VR β y H->RS F (lp P fs) P cW β (ml d t x y) (ml d t G H):=by
 intro d
 induction d with|zero=>intro n t _ β x G y H g k;exact db|succ d T=>intro n t p β x G y H g k;cases n with|zero=>simp[ik]at p|succ n=>unfold ik at p;cases j:P.underlying t with|none=>rw[j]at p;simp at p|some u=>cases u with
    |int k0=>grind[afL]|bool=>refine bK (kW t) λw u z o⟨e,h⟩=>?_;subst e;rw[j]at h;cases h;have g:=g.a o;cases g with
     |fY a=>cases k<;>first|exact .ak rfl|exact aN
     |_=>exact aN
    |string=>refine bK (kW t) λw u z o⟨e,h⟩=>?_;subst e;rw[j]at h;cases h;have g:=g.a o;cases g with
     |eI a=>cases k<;>first|exact .ak rfl|exact aN
     |_=>exact aN
    |slice e=>refine bK (kW t) λw u z o⟨e,h⟩=>?_;subst e;rw[j]at h;cases h;have g:=g.a o;have k:=k.a o;cases g with
     | @dz a a' O l c=>cases k with
      | @dz b E Q Z c2=>
       cases a<;>cases a'<;>cases b<;>cases E<;>first|exact O.elim|exact Q.elim|exact .ak rfl|exact aN
      |ez E=>cases a<;>cases a'<;>first|exact O.elim|exact .ak rfl|exact aN
      |_=>cases a<;>cases a'<;>first|exact O.elim|exact aN
     |ez a'=>
      cases k with
      | @dz b E Q Z c2=>cases b<;>cases E<;>first|exact Q.elim|exact .ak rfl|exact aN
      |_=>exact aN
     |_=>exact aN
    |struct U=>rw[j]at p;simp only[ei,Bool.not_eq_true',kR,nf]at p;have⟨⟨X,Y⟩,V⟩:=p;refine bK (kW t) λw u z o⟨e,h⟩=>?_;subst e;rw[j]at h;cases h;have g:=g.a o;have k:=k.a o;cases g with
     | @gU xs ab I J=>
      cases k with
      | @gU ys ac K L=>
       refine mc ?_;simp only[X,Y,hF,if_false];rw[<-kq,<-kq];refine bK (yn (A:=λβ s s'=>s=s'/\bF w β) U.toList ?_ w _ _ ⟨rfl,bF.b _⟩) λD s s' M⟨e,_⟩=>?_
       intro f W D s s' ⟨e,q⟩;subst e;split;refine bK (rs_part f.type f.offset (AV.a q ⟨I,J⟩)) λad u z B j=>?_;refine bK (rs_part f.type f.offset (AV.a (q.a B) ⟨K,L⟩)) λae v v' C S=>?_;refine bc (T n f.type (V f (by simpa using W)) (j.a C) S) λaf r N=>?_;have R:=((q.a B).a C).a N;cases r<;>exact .ak ⟨rfl,R⟩
       exact .ak ⟨rfl,q⟩;subst e;split<;>exact .ak rfl
      |_=>exact aN
     |_=>exact aN
    |array len e=>rw[j]at p;refine bK (kW t) λw u z o⟨e,h⟩=>?_;subst e;rw[j]at h;cases h;cases (g.a o) with
     | @gU xs ab I J=>
      cases (k.a o) with
      | @gU ys ac K L=>
       refine bc (jR _) λD m M=>?_;rw[pc,pc];refine bK (yn (A:=λβ s s'=>s=s'/\bF w β) _ ?_ D _ _ ⟨rfl,M⟩) λD s s' M⟨e,_⟩=>?_
       intro i _ D s s' ⟨e,q⟩;subst e;refine bK (rs_part _ _ (AV.a q ⟨I,J⟩)) λad u z B j=>?_;refine bK (rs_part _ _ (AV.a (q.a B) ⟨K,L⟩)) λae v v' C S=>?_;refine bc (T n _ p (j.a C) S) λaf r N=>?_;cases r<;>exact .ak ⟨rfl,((q.a B).a C).a N⟩
       subst e;have⟨aa,ai⟩:=s;cases aa<;>exact .ak rfl
      |_=>exact aN
     |_=>exact aN
    |_=>rw[j]at p;simp at p
end
section
variable{F:Nat->Bool}{P:Program}{fs:Array Func}{α α' γ γ':Type}{β:ah}
variable{β':ah}{n:Nat}{t:TypeId}
theorem AO.b{a b a' c}(h:AO β a a')(d:AO β b c)(e:a=b):a'=c:=by subst e;cases a with
 |none=>cases a'<;>cases c<;>first|rfl|exact h.elim|exact d.elim
 |some a=>cases a' with|none=>exact h.elim|some a'=>cases c with|none=>trivial|some c=>have⟨j,k,l⟩:=a';have⟨v1,v2,m⟩:=c;have f:=β.f _ _ _ h.1 d.1;have g:=h.2.1.symm.trans d.2.1;have i:=h.2.2.symm.trans d.2.2;grind
theorem Wu{p:df->df->Bool}{l m l' m'}(c:LV β l l')(d:LV β m m')(hp:∀x e y f,VR β x e->VR β y f->p x y=true->p e f=true)(h:(l.zip m).all (λ(x,y)=>p x y)=true):(l'.zip m').all (λ(x,y)=>p x y)=true:=by induction l generalizing l' m m' with
 |nil=>cases l' with|nil=>simp|cons _ _=>trivial
 |cons a l g=>cases l' with|nil=>rfl|cons a' l'=>cases m with
  |nil=>cases m' with|nil=>simp|cons _ _=>trivial
  |cons b m=>cases m' with|nil=>rfl|cons i m'=>simp only[List.zip_cons_cons,N6,ei]at h⊢;exact⟨hp _ _ _ _ c.1 d.1 h.1,g c.2 d.2 h.2⟩
theorem PL:∀n{y:df},rq y=true->eV n y y=true:=by intro n y h;cases y with|pointer a=>grind[eV]|chan a=>grind[eV]|_=>trivial
theorem aaj:∀n{x d y e:df},VR β x d->VR β y e->eV n x y=true->eV n d e=true:=by
 intro n
 induction n with
 |zero=>intro x d y e f a h;cases f with
  |dc b=>cases a<;>first| (simp[eV,eg]at h;done)| (rename_i c;simp[eV,beq_iff_eq]at h⊢;exact b.b c h)
  |me=>cases a<;>first| (simp[eV,eg]at h;done)|rfl
  |gW b hp=>cases a<;>first| (simp[eV,eg]at h;done)| (rename_i c p;simp[eV,beq_iff_eq,Option.some.injEq]at h;subst h;cases aW.d _ _ _ b c;exact PL _ hp)
  |_=>cases a<;>first|exact h| (simp[eV,eg]at h;done)
 |succ n j=>intro x d y e f a h;cases f with
  |dc b=>cases a<;>first| (simp[eV,eg]at h;done)| (rename_i c;simp[eV,beq_iff_eq]at h⊢;exact b.b c h)
  |me=>cases a<;>first| (simp[eV,eg]at h;done)|rfl
  |gW b hp=>cases a<;>first| (simp[eV,eg]at h;done)| (rename_i c p;simp[eV,beq_iff_eq,Option.some.injEq]at h;subst h;cases aW.d _ _ _ b c;exact PL _ hp)
  |qM t q=>cases a<;>first| (simp[eV,eg]at h;done)| (rename_i r;simp[eV,ei]at h⊢;exact⟨h.1,j q r h.2⟩)
  |gU g k=>cases a with|gU i l=>simp only[eV,ei]at h⊢;rw[<-g,<-i];exact⟨h.1,Wu (AV.g ⟨g,k⟩) (AV.g ⟨i,l⟩) (λ _ _ _ _ m o=>j m o) h.2⟩|_=>trivial
  |_=>cases a<;>first|exact h| (simp[eV,eg]at h;done)
theorem YZ{x b y c}(e:VR β x b)(a:VR β y c):RS F (lp P fs) P VR β (rr x y) (rr b c):=by unfold rr;by_cases h:eV 10000 x y=true;rw[if_pos h,if_pos (aaj _ e a h)];exact .ak a;rw[if_neg h];by_cases d:eV 10000 b c=true;rw[if_pos d];refine .v8 0 (⟨0,rfl⟩) ?_;exact .ak a;rw[if_neg d];refine .uP λ n=> .ak ?_;grind
theorem agz(t):RS F (lp P fs) P cW β (typeStr t) (typeStr t):=by refine bc (rJ t) λb i a=>?_;simp;split;exact db;exact .ak rfl
theorem zx:∀n empty t{β:ah}{x p:df},VR β x p->RS F (lp P fs) P cW β (lA empty n t x) (lA empty n t p)|0,_,_,_,_,_,_=>db|n+1,empty,t,β,x,p,b=>by refine bc (ig t) λD d v=>?_;have b:=b.a v;cases d with
  |interface ms=>cases b with
   |qM d o=>refine bc (rJ d) λr info w=>?_;split;grind[yb,bc,agz];exact zx n _ d (o.a w)|mj=>exact .ak rfl|_=>exact aN
  |array len e=>cases b with|gU c g=>simp only;rw[pc,pc];refine bK (yn (A:=λβ s s'=>s=s'/\bF _ β) _ ?_ _ _ _ ⟨rfl,bF.b _⟩) λ _ _ _ _ _=> .ak rfl;intro i _ r s s' ⟨h,a⟩;subst h;refine bc (jR e) λE m q=>?_;exact bK (rs_part e _ (AV.a (a.a q) ⟨c,g⟩)) λz u y j l=>bc (zx n _ e l) λB _ k=> .ak ⟨rfl,((a.a q).a j).a k⟩|_=>exact aN
  |struct C=>cases b with|gU c g=>simp only;rw[<-kq,<-kq];refine bK (yn (A:=λβ s s'=>s=s'/\bF _ β) _ ?_ _ _ _ ⟨rfl,bF.b _⟩) λ _ _ _ _ _=> .ak rfl;intro f _ r s s' ⟨h,a⟩;subst h;split;refine bK (rs_part f.type f.offset (AV.a a ⟨c,g⟩)) λz u y j l=>?_;exact bc (zx n _ _ l) λB _ k=> .ak ⟨rfl,(a.a j).a k⟩;exact .ak ⟨rfl,a⟩|_=>exact aN
  |_=>cases b<;>exact .ak rfl
def KR:ah->Option (Nat×df)->Option (Nat×df)->Prop|_,none,none=>True|β,some x,some y=>x.1=y.1/\VR β x.2 y.2|_,_,_=>False
def EL(β:ah):List ht->List ht->Prop| [],[]=>True|e::l,e'::l'=>ER β e e'/\EL β l l'|_,_=>False
theorem ER.a(h:bF β β'){e a}(x:ER β e a):ER β' e a:= ⟨x.1.a h,x.2.1.a h,x.2.2⟩
theorem EL.b(h:bF β β'):{l l':List ht}->EL β l l'->EL β' l l'| [],[],_=>trivial|_::_,_::_,x=> ⟨x.1.a h,EL.b h x.2⟩| [],_::_,x=>x.elim|_::_,[],x=>x.elim
theorem EL.c:{l m:List ht}->l.length=m.length->(∀(i:Nat)v v',l[i]?=some v->m[i]?=some v'->ER β v v')->EL β l m| [],[],_,_=>trivial|_::_,_::_,h,x=> ⟨x 0 _ _ rfl rfl,EL.c (by grind) λ i v v' a b=>x (i+1) v v' (by trivial) (by trivial)⟩| [],_::_,h,_=>by trivial|_::_,[],h,_=>by trivial
theorem EA.a{es c}(h:EA β es c):EL β es.toList c.toList:=EL.c (by simpa using h.1) λ i v v' a b=>h.2 i v _ (by grind) (by grind)
theorem SI(c:aW.n=P.globals.size)(d:ik (lp P fs) P n t=true):∀{l l':List ht}{β:ah}{k k':df}(i:Nat),EL β l l'->VR β k k'->RS F (lp P fs) P KR β (y6 t k l i) (y6 t k' l' i)
 | [],[],_,_,_,_,_,_=> .ak trivial|e::l,e'::l',β,k,k',i,h,hk=>by refine bc (NU c _ n t d hk h.1.1) λf b a=>?_;cases b with|true=>exact .ak ⟨rfl,h.1.2.1.a a⟩|false=>exact SI c d _ (h.2.b a) (hk.a a)
 | [],_::_,_,_,_,_,h,_=>h.elim|_::_,[],_,_,_,_,h,_=>h.elim
theorem KX(d:aW.n=P.globals.size){n t}(j:ik (lp P fs) P n t=true)(i:∃f,P.underlying t=some (.struct f)){l l' k k'}(h:EL β l l')(a:VR β k k'):RS F (lp P fs) P KR β (p1 t k l) (p1 t k' l'):=by refine bK (kW t) λp u o b⟨e,c⟩=>?_;subst e;have⟨f,g⟩:=i;rw[g]at c;cases c;have h:=h.b b;cases l with
 |nil=>cases l' with|nil=>exact .ak trivial|cons _ _=>trivial
 |cons e l=>cases l' with|nil=>exact h.elim|cons m l'=>exact SI d j 0 h (a.a b)
end
section
variable{F:Nat->Bool}{P:Program}{fs:Array Func}{α α' γ γ':Type}{β:ah}
variable{p:MapEntry->Bool}{n:Nat}{t:TypeId}
def nq(Q P:ef)(n:Nat)(t:hg):Bool:=match P.underlying t with|some (.map k _)=>ik Q P n k&& (match P.underlying k with|some (.struct _)=>true|_=>false)|_=>false
theorem EL.d:{l m:List ht}->EL β l m->l.length=m.length/\∀(i:Nat)v v',l[i]?=some v->m[i]?=some v'->ER β v v'
 | [],[],_=> ⟨rfl,λ i v v' h=>by trivial⟩|_::_,_::_,x=> ⟨by simpa using(EL.d x.2).1,λ i v v' a b=>by cases i with|zero=>simp at a b;subst a b;exact x.1|succ i=>exact(EL.d x.2).2 i v _ (by trivial) (by trivial)⟩| [],_::_,x=>x.elim|_::_,[],x=>x.elim
theorem EL.f{es c}(h:EL β es.toList c.toList):EA β es c:= ⟨by simpa using h.d.1,λ i v v' a b=>h.d.2 i v _ (by grind) (by grind)⟩
theorem EL.a(hp:∀e a,ER β e a->p e=p a):{l m:List ht}->EL β l m->EL β (l.filter p) (m.filter p)
 | [],[],_=>trivial|e::l,a::m,x=>by simp[List.filter_cons];rw[<-hp e _ x.1];cases p e with|true=>exact⟨x.1,EL.a hp x.2⟩|false=>exact EL.a hp x.2
 | [],_::_,x=>x.elim|_::_,[],x=>x.elim
theorem EA.b(hp:∀e a,ER β e a->p e=p a){es b}(h:EA β es b):EA β (es.filter p) (b.filter p):=EL.f (by rw[y9,y9];exact EL.a hp h.a)
theorem EL.e(hp:∀e a,ER β e a->p e=p a):{l m:List ht}->EL β l m->l.all p=m.all p| [],[],_=>rfl|e::l,a::m,x=>by simp[N6,hp e a x.1,EL.e hp x.2]| [],_::_,x=>x.elim|_::_,[],x=>x.elim
theorem EA.h(hp:∀e a,ER β e a->p e=p a){es b}(h:EA β es b):es.all p=b.all p:=by rw[<-D1,<-D1];exact EL.e hp h.a
theorem EA.g{es f}(h:EA β es f){e d}(g:ER β e d):EA β (es.push e) (f.push d):=by
 refine⟨by simp[h.1],λ i v v' a b=>?_⟩;rw[rL]at a b;by_cases c:i=es.size;rw[if_pos (h.1▸c)]at b
 grind
 rw[if_neg c]at a;rw[if_neg (h.1▸c)]at b;exact h.2 i v _ a b
theorem EA.d{es k}(h:EA β es k)(i){f f'}(o:∀e g,ER β e g->ER β (f e) (f' g)):EA β (es.modify i f) (k.modify i f'):=by refine⟨by simp[h.1],λ j v v' c d=>?_⟩;rw[Array.getElem?_modify]at c d;by_cases l:i=j;subst l;rw[if_pos rfl]at c d;obtain⟨a,m,rfl⟩:=hY.1 c;obtain⟨b,n,rfl⟩:=hY.1 d;exact o a b (h.2 i a b m n);rw[if_neg l]at c d;exact h.2 j v _ c d
theorem EA.f{es a}(h:EA β es a)(i:Nat):(es[i]?=none/\a[i]?=none)\/∃v v',es[i]?=some v/\a[i]?=some v'/\ER β v v':=by
 by_cases b:i<es.size;have c:i<a.size:=h.1▸b;exact .inr ⟨_,_,k7 b,k7 c,h.2 i _ _ (by grind) (by grind)⟩;have c:¬i<a.size:=h.1▸b
 grind
theorem ad0(C:nC P)(B:aW.n=P.globals.size)(d:nq (lp P fs) P n t=true){x A y h}(m:VR β x A)(g:VR β y h)(ok):RS F (lp P fs) P VR β (JR t x y ok) (JR t A h ok):=by refine bK (kW t) λJ u O p⟨e,D⟩=>?_;subst e;unfold nq at d;rw[D]at d;cases u with
 |map key elem=>
  simp[ei]at d;have H:∃f,P.underlying key=some (.struct f):=by grind
  have g:=g.a p;have rest:∀j es a,bF J j->EA j es a->RS F (lp P fs) P VR j (do
   lA es.isEmpty 10000 key y
   let(v,o)<-match<-p1 key y es.toList with
    |some (_,v)=>cr (v,true)
    |none=>cr (<-mo elem,false)
   cr (if ok then .tuple #[v,.bool o]else v)) (do
   lA a.isEmpty 10000 key h
   let(v,o)<-match<-p1 key h a.toList with
    |some (_,v)=>cr (v,true)
    |none=>cr (<-mo elem,false)
   cr (if ok then .tuple #[v,.bool o]else v)):=by
   intro j es a q b;have E:es.isEmpty=a.isEmpty:=by simp[tw,b.1]
   rw[<-E];refine bc (zx 10000 _ key (g.a q)) λR _ s=>?_;have fin:∀k v v' o,VR k v v'->RS F (lp P fs) P VR k (cr (if ok then qn #[v,.bool o]else v)) (cr (if ok then qn #[v',.bool o]else v')):=by
    intro k v v' o w;cases ok with
    |true=>exact .ak (VR.b (AV.h (AV.c w) (.fY o)))
    |false=>exact .ak w
   refine bK (KX B d.1 H (b.a.b s) ((g.a q).a s)) λk r r' K l=>?_;cases r with
   |none=>cases r' with
    |none=>
     refine bK (vr C elem) λS z Q L⟨e,I⟩=>?_;subst e;exact fin _ z z _ (I _)
    |some _=>trivial
   |some r=>cases r' with
    |none=>trivial
    |some r'=>
     have⟨i,v⟩:=r;have⟨M,v'⟩:=r';exact fin _ v _ _ l.2
  cases (m.a p) with
  | @kM r r' l=>cases r with
   |none=>cases r' with
    |none=>exact rest _ _ _ (bF.b _) ⟨rfl,by grind⟩
    |some _=>trivial
   |some r=>cases r' with
    |none=>trivial
    |some r'=>
     refine .jF l λ o N G=>?_;cases G with
     |mw c b=>exact rest _ _ _ (bF.b _) b
     |_=>exact aN
  |_=>exact aN
 |_=>trivial
theorem OG(T:aW.n=P.globals.size){n t}(g:nq (lp P fs) P n t=true){x O y p z Q}(G:VR β x O)(j:VR β y p)(I:VR β z Q):RS F (lp P fs) P cW β (zj t x y z) (zj t O p Q):=by refine bK (kW t) λai u ah B⟨e,V⟩=>?_;subst e;unfold nq at g;rw[V]at g;cases u with
 |map key elem=>
  simp[ei]at g;have ab:∃f,P.underlying key=some (.struct f):=by cases m:P.underlying key with|none=>rw[m]at g;simp at g|some d=>rw[m]at g;cases d<;>simp at g;exact⟨_,rfl⟩
  have j:=j.a B;cases (G.a B) with
  | @kM r r' L=>cases r with|none=>grind[E7]|some r=>cases r' with|none=>trivial|some r'=>refine .jF L λ o ag Y=>?_;cases Y with
   | @mw es S c W=>refine bc (s:=lA false 10000 key y) (s':=lA false 10000 key p) (zx 10000 _ key j) λad _ h=>?_;have K:=W.c h;refine bK (KX T g.1 ab K.a (j.a h)) λR q q' l E=>?_;have M:R r r':=l _ _ (h _ _ L);have D:=K.c l;have H:=(j.a h).a l;have N:=((I.a B).a h).a l;cases q with
    |none=>cases q' with|none=>exact .mD M (.mw _ (D.g ⟨H,N,rfl⟩)) (.ak rfl)|some _=>exact E.elim
    |some q=>cases q' with|none=>exact E.elim|some q'=>
     have⟨i,v⟩:=q;have⟨af,v'⟩:=q';have⟨J,ac⟩:=E;subst J;have Z:VR R (((es[i]?).map (·.key)).getD y) (((S[i]?).map (·.key)).getD p):=by rcases D.f i with⟨w,A⟩| ⟨a,b,w,A,U⟩;rw[w,A];exact H;rw[w,A];exact U.1
     exact bK (YZ Z H) λaj k k' C m=>.mD (C _ _ M) (.mw _ ((D.c C).d i λ e ae X=> ⟨m,N.a C,X.2.2⟩)) (.ak rfl)
   |_=>exact aN
  |_=>exact aN
 |_=>exact aN
end
section
variable{F:Nat->Bool}{P:Program}{fs:Array Func}{α α' γ γ':Type}{β:ah}
variable{x x':Value}
theorem aiW(t){x x'}(f:VR β x x'):RS F (lp P fs) P VR β (N2 t x) (N2 t x'):=by
 refine bc (ig t) λl d n=>?_;have f:=f.a n;have i:∀j o g,OR j false o g->RS F (lp P fs) P VR j (do cr (pX (some ⟨<-q5 o,0,none⟩))) (do cr (pX (some ⟨<-q5 g,0,none⟩))):=λj o g h=> .oq h λ r r' q _ b _=> .ak (.dc (a:=some _) (a':=some _) ⟨b,rfl,rfl⟩);cases d with
 |string=>cases f with
  |eI s=>exact i l _ _ (.tY s 0)|_=>exact aN
 |map k e=>cases f with
  | @kM r r' b=>cases r with
   |none=>cases r' with|none=>exact i _ _ _ (.rn 0 _ 0 (m:=none) (m':=none) trivial)|some _=>exact b.elim
   |some r=>cases r' with|none=>exact b.elim|some r'=>refine .jF b λ o g h=>?_;cases h with|mw c p=>exact i l _ _ (.rn c #[] c (m:=some r) (m':=some r') b)|_=>exact aN
  |_=>exact aN
 |_=>cases f<;>exact aN
theorem EA.e{es d us f}(h:EA β es d)(e:EA β us f):EA β (es++us) (d++f):=by refine⟨by simp[h.1,e.1],λ i v v' a b=>?_⟩;rw[pn]at a b;by_cases c:i<es.size;rw[if_pos c]at a;rw[if_pos (h.1▸c)]at b;exact h.2 i v _ a b;rw[if_neg c]at a;rw[if_neg (h.1▸c),<-h.1]at b;exact e.2 _ v _ a b
theorem PU{es a}(h:EA β es a)(pre)(hp:∀x∈pre,x=none)(i:Nat):(pre++es.map some).size=(pre++a.map some).size/\(((pre++es.map some)[i]?=none/\(pre++a.map some)[i]?=none)\/((pre++es.map some)[i]?=some none/\(pre++a.map some)[i]?=some none)\/∃e b,(pre++es.map some)[i]?=some (some e)/\(pre++a.map some)[i]?=some (some b)/\ER β e b):=by
 refine⟨by simp[h.1],?_⟩;rw[pn,pn];by_cases c:i<pre.size
 grind[k7,Array.getElem_mem]
 rw[if_neg c,if_neg c,pN,pN];rcases h.f (i- pre.size)with⟨d,f⟩| ⟨e,b,d,f,g⟩
 all_goals grind
theorem acB(t)(f)(M:VR β x x'):RS F (lp P fs) P VR β (Instr.next x f t) (Instr.next x' f t):=by have O:∀C,RS F (lp P fs) P VR C (cr (qn #[.bool false])) (cr (qn #[.bool false])):=λC=> .ak (VR.b (AV.c (.fY false)));cases M with
 | @dc a a' D=>cases a with|none=>exact aN|some a=>cases a' with|none=>trivial|some a'=>have⟨r,off,R⟩:=a;have⟨r',Q,S⟩:=a';have⟨i,y,B⟩:=D;subst y B;cases off with|succ _=>exact aN|zero=>refine .jF i λ o N L=>?_;cases L with
     |tY s pos=>cases f with|false=>exact aN|true=>show RS F _ P _ _ (if pos<s.size then _ else _) (if pos<s.size then _ else _);split;exact .mD i (.tY s _) (.ak (VR.b (((AV.c (.fY _)).h (.cx _ _)).h (.cx _ _))));grind
     | @rn m m' c b last w=>cases f with|true=>cases m<;>exact aN|false=>cases m with
       |none=>cases m' with|none=>exact O _|some _=>trivial
       |some m=>cases m' with|none=>trivial|some m'=>refine .jF w λ o N J=>?_;cases J with| @mw es d clock n=>
          have H:es.isEmpty=d.isEmpty:=by simp[tw,n.1]
          have E:es.all (λ e=>decide (e.born>=last))=d.all (λ e=>decide (e.born>=last)):=n.h λ e g h=>by rw[h.2.2]
          have u:EA β (es.filter λ e=>!b.contains e.born) (d.filter λ e=>!b.contains e.born):=n.b λ e g h=>by rw[h.2.2]
          have z:EA β ((es.filter λ e=>!b.contains e.born).filter λ e=>decide (e.born<c)) ((d.filter λ e=>!b.contains e.born).filter λ e=>decide (e.born<c)):=u.b λ e g h=>by rw[h.2.2]
          have I:EA β ((es.filter λ e=>!b.contains e.born).filter λ e=>decide (e.born>=c)) ((d.filter λ e=>!b.contains e.born).filter λ e=>decide (e.born>=c)):=u.b λ e g h=>by rw[h.2.2]
          have q:=z.e I;have K:((es.filter λ e=>!b.contains e.born).filter λ e=>decide (e.born<c)).isEmpty=((d.filter λ e=>!b.contains e.born).filter λ e=>decide (e.born<c)).isEmpty:=by simp only[tw,z.1]
          simp only[eL];rw[<-H,<-E,<-K];split;exact tV λ v=> ⟨_,v,rfl,rfl,λ h=>h⟩;have A:∀x∈(if((es.filter λ e=>!b.contains e.born).filter λ e=>decide (e.born<c)).isEmpty then #[none]else(#[]:Array (Option ht))),x=none:=by
           simp
          rw[<-((PU q _ A 0).1)];refine JK λ k=>?_;rcases(PU q _ A k).2 with⟨j,l⟩| ⟨j,l⟩| ⟨e,g,j,l,p⟩
          grind[aN]
          grind
          simp only[j,l];rw[p.2.2];exact .mD i (.rn _ _ _ (m:=some m) (m':=some _) w) (.ak (VR.b (((AV.c (.fY _)).h p.1).h p.2.1)))|_=>exact aN
     |_=>cases f<;>exact aN
 |_=>exact aN
theorem Zb(B:VR β x x'):RS F (lp P fs) P VR β (N3 x) (N3 x'):=by cases B with
 | @dc a a' t=>cases a with|none=>exact aN|some a=>cases a' with|none=>trivial|some a'=>have⟨r,off,H⟩:=a;have⟨r',E,I⟩:=a';have⟨p,n,q⟩:=t;subst n q;cases off with|succ _=>exact aN|zero=>refine .jF p λ o D A=>?_;cases A with
  | @rn m m' G g s y=>cases m with|none=>exact aN|some m=>cases m' with|none=>trivial|some m'=>show RS F (lp P fs) P VR β (match g.back? with|some c=>_|_=>_) (match g.back? with|some c=>_|_=>_);cases g.back? with|none=>exact aN|some c=>refine .jF y λ o D z=>?_;cases z with
   | @mw es j clock u=>
    show RS F _ P _ _ (if clock !=s then _ else _) (if clock !=s then _ else _);split;exact tV λ v=> ⟨_,v,rfl,rfl,λ h=>h⟩;have w:(es.find? (λ e=>e.born==c)=none/\j.find? (λ e=>e.born==c)=none)\/∃e d,es.find? (λ e=>e.born==c)=some e/\j.find? (λ e=>e.born==c)=some d/\ER β e d:=by
     rw[<-zl,<-zl];have key:∀{l l':List ht},EL β l l'->(l.find? (λ e=>e.born==c)=none/\l'.find? (λ e=>e.born==c)=none)\/∃e d,l.find? (λ e=>e.born==c)=some e/\l'.find? (λ e=>e.born==c)=some d/\ER β e d:=by
      intro l
      induction l with
      |nil=>intro l' h;cases l' with
       |nil=>simp
       |cons _ _=>trivial
      |cons a l C=>
       intro l' h;cases l' with
       |nil=>trivial
       |cons b l'=>
        simp only[List.find?_cons];rw[<-h.1.2.2];cases a.born==c with
        |true=>exact .inr ⟨a,b,rfl,rfl,h.1⟩
        |false=>exact C h.2
     exact key u.a
    rcases w with⟨f,i⟩| ⟨e,d,f,i,k⟩;simp only[f];exact db;simp only[f,i];exact .ak (VR.b ((AV.c k.1).h k.2.1))|_=>exact aN
  |_=>exact aN
 |_=>exact aN
theorem US(op)(c:VR β x x'):RS F (lp P fs) P VR β (Op.unary op x) (Op.unary op x'):=by cases c with
 |dc d=>rename_i a a';cases op<;>cases a<;>first|exact aN|exact db
 |fY b=>cases op<;>first|exact aN|exact .ak (.fY _)
 |cx k n=>cases op<;>first|exact aN|exact .ak (.cx _ _)
 |_=>cases op<;>exact aN
end
def qh(Q P:ef)(n:Nat)(op:Go.BinOp)(t:hg):=match op with| .eql| .neq=>ik Q P n t&&!P.eqGuardType P.depth t&&!Q.eqGuardType Q.depth t|_=>match P.underlying t with|some (.int _)|some .string=>true|_=>false
section
variable{F:Nat->Bool}{P:Program}{fs:Array Func}{α α' γ γ':Type}{β:ah}
theorem Hu(t)(v):(gw t).run (lp P fs) v=match P.underlying t with|some d=> .ok d v|none=> .halt (.stuck "no such type") v:=by show(match P.underlying t with|some d=>cr d|none=>ew "no such type").run _ v=_;cases P.underlying t<;>rfl
theorem JA(d)(t)(y):∀v,∃z v2,(ml (d+1) t eg y).run (lp P fs) v= .halt z v2/\BH v v2 z:=by intro v;show∃z v2,(eL _ _).run _ v= .halt z _/\BH v _ z;rw[ru,Hu];cases P.underlying t with|none=>exact⟨_,_,rfl,rfl,id⟩|some u=>cases u<;>cases y<;>exact⟨_,_,rfl,rfl,id⟩
theorem KM(d)(t)(x)(c:∃n,ik (lp P fs) P n t=true):∀v,∃z v2,(ml (d+1) t x eg).run (lp P fs) v= .halt z v2/\BH v v2 z:=by intro v;show∃z v2,(eL (gw t) _).run (lp P fs) v= .halt z v2/\BH v _ z;rw[ru,Hu];have⟨n,b⟩:=c;cases n with|zero=>trivial|succ n=>unfold ik at b;cases e:P.underlying t with|none=>exact⟨_,_,rfl,rfl,id⟩|some u=>rw[e]at b;cases u<;>first| (simp at b;done)|skip;all_goals(cases x<;>first|exact⟨_,_,rfl,rfl,id⟩| (rename_i a;cases a<;>exact⟨_,_,rfl,rfl,id⟩)| (rename_i a _ _;cases a<;>exact⟨_,_,rfl,rfl,id⟩))
theorem af0(t):RS F (lp P fs) P cW β (p8 qq t .nilIface .nilIface) (p8 qq t .nilIface .nilIface):=by show RS F _ P _ _ (gw t>>=λ d=>_) (gw t>>=λ d=>_);refine bc (ig t) λb d a=>?_;cases d<;>exact .ak rfl
theorem ag7(op)(t)(e f)(g:P.eqGuardType P.depth t=false/\(lp P fs).eqGuardType (lp P fs).depth t=false){x i y j}(l:VR β x i)(c:VR β y j)(nx:x≠eg)(d:y≠eg):RS F (lp P fs) P cW β (k6 op t e f x y) (k6 op t e f i j):=by unfold k6;cases op<;>first|exact RS.ak (A:=cW) (a:=()) (a':=()) rfl|skip;all_goals
 cases l with
 |fy h=>exact absurd rfl nx|mj=>cases c with
  |fy h=>exact absurd rfl d|mj=>cases e<;>cases f<;>first|exact RS.ak (A:=cW) (a:=()) (a':=()) rfl| (
   refine bc (s:=p8 qq t .nilIface .nilIface) (s':=p8 qq t .nilIface .nilIface) (af0 t) λr b q=>?_;cases b with|true=>exact db|false=>exact .ak rfl)
  |jL h=>obtain⟨_,_,_,rfl⟩:=pT h;exact RS.ak (A:=cW) (a:=()) (a':=()) rfl|gW _ hp=>rcases pr hp with⟨_,rfl⟩| ⟨_,rfl⟩<;>exact RS.ak (A:=cW) (a:=()) (a':=()) rfl|_=>exact RS.ak (A:=cW) (a:=()) (a':=()) rfl
 |gU m n=>cases c with|fy h=>exact absurd rfl d|gU o p=>refine mc (mc ?_);simp[g.1,g.2,N1,if_true];exact .ak rfl|jL h=>obtain⟨_,_,_,rfl⟩:=pT h;exact RS.ak (A:=cW) (a:=()) (a':=()) rfl|gW _ hp=>rcases pr hp with⟨_,rfl⟩| ⟨_,rfl⟩<;>exact RS.ak (A:=cW) (a:=()) (a':=()) rfl|_=>exact RS.ak (A:=cW) (a:=()) (a':=()) rfl
 |jL k=>obtain⟨_,_,_,rfl⟩:=pT k;cases c<;>first|exact absurd rfl d|exact RS.ak (A:=cW) (a:=()) (a':=()) rfl| (rename_i h;have⟨_,_,_,rfl⟩:=pT h;exact RS.pure (A:=cW) (a:=()) (a':=()) rfl)| (rename_i hp;rcases pr hp with⟨_,rfl⟩| ⟨_,rfl⟩<;>exact RS.pure (A:=cW) (a:=()) (a':=()) rfl)
 |gW _ hp=>rcases pr hp with⟨_,rfl⟩| ⟨_,rfl⟩<;>cases c<;>first|exact absurd rfl d|exact RS.ak (A:=cW) (a:=()) (a':=()) rfl| (rename_i h;have⟨_,_,_,rfl⟩:=pT h;exact RS.pure (A:=cW) (a:=()) (a':=()) rfl)| (rename_i hp;rcases pr hp with⟨_,rfl⟩| ⟨_,rfl⟩<;>exact RS.pure (A:=cW) (a:=()) (a':=()) rfl)
 |_=>cases c<;>first|exact absurd rfl d|exact RS.ak (A:=cW) (a:=()) (a':=()) rfl| (rename_i h;have⟨_,_,_,rfl⟩:=pT h;exact RS.pure (A:=cW) (a:=()) (a':=()) rfl)| (rename_i hp;rcases pr hp with⟨_,rfl⟩| ⟨_,rfl⟩<;>exact RS.pure (A:=cW) (a:=()) (a':=()) rfl)
theorem adg(r:aW.n=P.globals.size){n}(op)(p:op= .eql\/op= .neq)(t)(q:ik (lp P fs) P n t=true){x l y m}(o:VR β x l)(i:VR β y m):RS F (lp P fs) P VR β (hy op t x y) (hy op t l m):=by
 have e:RS F (lp P fs) P cW β (mr t x y) (mr t l m):=NU r _ n t q o i;have c:RS F (lp P fs) P VR β (do cr (.bool (<-mr t x y))) (do cr (.bool (<-mr t l m))):=bc e λ _ b _=> .ak (.fY b);have d:RS F (lp P fs) P VR β (do cr (.bool (!(<-mr t x y)))) (do cr (.bool (!(<-mr t l m)))):=bc e λ _ b _=> .ak (.fY _);by_cases j:y=eg;subst j;refine .gp λ v=>?_;obtain⟨z,v2,f,g⟩:=(KM (P:=P) (fs:=fs) 9999 t x ⟨n,q⟩) v;refine⟨z,_,?_,g⟩;rcases p with rfl|rfl<;>cases x<;>exact ql (α:=Bool) _ _ f;obtain rfl|rfl:=p
 cases o with
 |cx k a=>cases i<;>first|exact absurd rfl j|exact HQ _ _ _ _ _ _|exact c| (rename_i h;obtain⟨_,_,_,rfl⟩:=pT h;exact c)| (rename_i hp;rcases pr hp with⟨_,rfl⟩| ⟨_,rfl⟩<;>exact c)
 |eI a=>cases i<;>first|exact absurd rfl j|exact G4 _ _ _ _|exact c| (rename_i h;obtain⟨_,_,_,rfl⟩:=pT h;exact c)| (rename_i hp;rcases pr hp with⟨_,rfl⟩| ⟨_,rfl⟩<;>exact c)
 |fy h=>exact .gp λ v=>(by
  obtain⟨z,v2,f,g⟩:=JA (P:=P) (fs:=fs) 9999 t y v;exact⟨z,_,ql (α:=Bool) _ _ f,g⟩)
 |jL h=>obtain⟨_,_,_,rfl⟩:=pT h;trivial
 |gW _ hp=>rcases pr hp with⟨_,rfl⟩| ⟨_,rfl⟩<;>exact c
 |_=>trivial
 cases o with
 |cx k a=>cases i<;>first|exact absurd rfl j|exact HQ _ _ _ _ _ _|exact d| (rename_i h;obtain⟨_,_,_,rfl⟩:=pT h;exact d)| (rename_i hp;rcases pr hp with⟨_,rfl⟩| ⟨_,rfl⟩<;>exact d)
 |eI a=>cases i<;>first|exact absurd rfl j|exact G4 _ _ _ _|exact d| (rename_i h;obtain⟨_,_,_,rfl⟩:=pT h;exact d)| (rename_i hp;rcases pr hp with⟨_,rfl⟩| ⟨_,rfl⟩<;>exact d)
 |fy h=>exact .gp λ v=>(by
  obtain⟨z,v2,f,g⟩:=JA (P:=P) (fs:=fs) 9999 t y v;exact⟨z,_,ql (α:=Bool) _ _ f,g⟩)
 |jL h=>obtain⟨_,_,_,rfl⟩:=pT h;trivial
 |gW _ hp=>rcases pr hp with⟨_,rfl⟩| ⟨_,rfl⟩<;>exact d
 |_=>trivial
set_option maxHeartbeats 800000 in
theorem adn(D:aW.n=P.globals.size)(op)(B:op≠ .eql)(C:op≠ .neq)(t)(N:(∃k,P.underlying t=some (.int k))\/P.underlying t=some .string){x H y I}(O:VR β x H)(A:VR β y I):
 RS F (lp P fs) P VR β (hy op t x y) (hy op t H I):=by
 have E:∀{u o:df}(k:vE)(n:Int),VR β u o->(∃a,u= .pointer a)->RS F (lp P fs) P VR β (l7 t u (.int k n)) (l7 t o (.int k n)):=λ k n r j=>Fx t r j k n;have K:∀{u o:df}(k:vE)(n:Int),VR β u o->(∃a,u= .pointer a)->
  RS F (lp P fs) P VR β (do if(<-gw t) matches .unsafePointer then movedPointer t u (.int k n)else l7 t u (.int k n)) (do if(<-gw t) matches .unsafePointer then movedPointer t o (.int k n)else l7 t o (.int k n)):=by
  intro u o k n r j;refine bK (kW t) λg d Q i⟨e,w⟩=>?_;subst e;obtain⟨k0,h⟩|h:=N
  rw[h]at w;cases w;exact Fx t (r.a i) j k n;rw[h]at w;cases w;exact Fx t (r.a i) j k n
 cases O with
 |cx k a=>
  cases A with
  |cx k' b=>grind[HQ]
  | @dc b l m=>
   have hp:VR β (.pointer b) (.pointer l):= .dc m;cases op
   case add=>exact E k a hp ⟨b,rfl⟩
   case eql=>trivial
   case neq=>trivial
   case and=>
    cases b with
    |none=>exact db
    |some b=>cases l with
     |none=>trivial
     |some l=>
      refine bK (sn m) λg p q i⟨hp,_⟩=>?_
      grind[HT]
   all_goals exact db
  |_=>cases op<;>first|exact absurd rfl B|exact absurd rfl C|exact aN
 | @dc a a' j=>
  have hp:VR β (.pointer a) (.pointer a'):= .dc j;have G:∀{b l:eo}{c c':eo},AR β b l->AR β c c'->∀(f:eo->eo->dk df),(∀g p q u v,AR g p q->AR g u v->RS F (lp P fs) P VR g (f p u) (f q v))->
   RS F (lp P fs) P VR β (do f (<-ih b).1 (<-ih c).1) (do f (<-ih l).1 (<-ih c').1):=by
   intro b l c c' m L f M;refine bK (sn m) λg p q i⟨hp,_⟩=>?_;refine bK (sn (L.a i)) λJ u v s⟨r,_⟩=>?_;exact M _ _ _ _ _ (hp.a s) r
  have sub:∀g p q u v,AR g p q->AR g u v->RS F (lp P fs) P VR g (Oc .u64 p u) (Oc .u64 q v):=λg p q u v i s=>
   bc (Ky D i s) λJ z _=> .ak (.cx _ _)
  have cmp:∀op g p q u v,AR g p q->AR g u v->RS F (lp P fs) P VR g (Ov op p u) (Ov op q v):=λ op g p q u v i s=>
   bc (Ky D i s) λJ z _=>by
    cases op<;>first|exact .ak (.fY _)|exact db
  cases A with
  |cx k b=>
   cases op
   case add=>exact K k b hp ⟨a,rfl⟩
   case sub=>exact E k _ hp ⟨a,rfl⟩
   case eql=>trivial
   case neq=>trivial
   case rem=>
    cases a with
    |none=>exact db
    |some a=>cases a' with
     |none=>trivial
     |some a'=>exact bK (sn j) λg p q i⟨hp,_⟩=>HT hp _ _
   case and=>
    cases a with
    |none=>exact db
    |some a=>cases a' with
     |none=>trivial
     |some a'=>exact bK (sn j) λg p q i⟨hp,_⟩=>HT hp _ _
   all_goals(cases a<;>first|exact db|exact aN)
  | @dc b l m=>
   cases op
   case eql=>trivial
   case neq=>trivial
   all_goals
    cases a with
    |none=>cases b<;>first|exact db|exact aN
    |some a=>cases a' with
     |none=>exact j.elim
     |some a'=>cases b with
      |none=>exact db
      |some b=>cases l with
       |none=>exact m.elim
       |some l=>first
        |exact db
        |exact G j m _ sub
        |exact G j m _ (cmp _)
  |_=>cases op<;>first|exact absurd rfl B|exact absurd rfl C|exact db| (cases a<;>exact db)
 |eI a=>
  cases A with
  |eI b=>grind[G4]
  |_=>cases op<;>first|exact absurd rfl B|exact absurd rfl C|exact aN|exact db
 |_=>cases A<;>cases op<;>first|exact absurd rfl B|exact absurd rfl C|exact aN|exact db
end
section
variable{F:Nat->Bool}{P:Program}{fs:Array Func}{α α' γ γ':Type}{β:ah}
theorem acC(op)(c:op≠ .eql)(d:op≠ .neq)(t)(a b)(x y):k6 op t a b x y=cr ():=by simp_all[k6,absurd]
theorem Vc(m:aW.n=P.globals.size){n}(op)(t)(k l)(o:qh (lp P fs) P n op t=true){x f y g}(h:VR β x f)(i:VR β y g):RS F (lp P fs) P VR β (do k6 op t k l x y;hy op t x y) (do k6 op t k l f g;hy op t f g):=by
 by_cases d:op= .eql\/op= .neq;have e:ik (lp P fs) P n t=true/\P.eqGuardType P.depth t=false/\(lp P fs).eqGuardType (lp P fs).depth t=false:=by
  grind[qh]
 by_cases nx:x=eg;subst nx;have c:=JA (P:=P) (fs:=fs) 9999 t y;refine .gp λ v=>?_;obtain⟨z,v2,a,b⟩:=c v;refine⟨z,_,?_,b⟩;rcases d with rfl|rfl<;>exact ql (α:=Bool) _ _ a
 by_cases j:y=eg;subst j;refine .gp λ v=>?_;obtain⟨z,v2,a,b⟩:=(KM (P:=P) (fs:=fs) 9999 t x ⟨n,e.1⟩) v;refine⟨z,_,?_,b⟩;rcases d with rfl|rfl<;>cases x<;>exact ql (α:=Bool) _ _ a
 exact bc (ag7 _ t _ _ e.2 h i nx j) λp _ a=>adg m _ d t e.1 (h.a a) (i.a a);grind[acC,adn,absurd,qh]
def yH(P:ef)(s d:hg):Bool:=match P.underlying s,P.underlying d with
 |some (.int _),some (.int _)=>true|some .string,some (.slice e)=>match P.underlying e with|some (.int .u8)=>true|_=>false
 |some (.slice e),some .string=>match P.underlying e with|some (.int .u8)=>true|_=>false
 |_,_=>false
theorem YJ(e)(s):RS F (lp P fs) P VR β (y2 e s) (y2 e s):=by refine JK λ cap=>?_;refine bK (yW e (AV.b (AV.j _ λ b _=> .cx _ _) (AV.f _ (.cx _ _)))) λh a a' g⟨c,f⟩=>?_;refine bc (s:=D3 a) (s':=D3 _) ?_ λi _ d=> .ak (.dz (a:=some a) (a':=some _) (c.a d) _ _);refine .nt c.1 λ q=>?_;cases q with|none=>exact .ak rfl|some q=>exact .vH ⟨c.1,rfl,rfl⟩ f (.ak rfl)
theorem Th{d A f f'}:∀{l l':List df}(β:ah),LV β l l'->(∀c x b s s',bF β c->VR c x b->A c s s'->RS F (lp P fs) P (Ni A) c (f x s) (f' b s'))->∀(s s':d),A β s s'->RS F (lp P fs) P A β (n1 l s f) (n1 l' s' f')
 | [],[],β,_,_,s,s',h=>by exact .ak h|x::l,b::l',β,hl,hf,s,s',h=>by simp[s4];refine bK (hf β x b s s' (bF.b _) hl.1 h) λc a a' g e=>?_;cases a<;>cases a'<;>first|exact e.elim|exact .ak e|exact Th c (hl.2.b g) (λj x b s s' i=>hf j x b s s' (g.a i)) _ _ e
 | [],_::_,_,h,_,_,_,_=>h.elim|_::_,[],_,h,_,_,_,_=>h.elim
theorem agF{x d}(i:VR β x d):RS F (lp P fs) P VR β (k8 x) (k8 d):=by cases i with
 | @dz a a' f n c=>cases a with
  |none=>cases a' with|none=>exact .ak (.eI _)|some _=>trivial
  |some a=>cases a' with|none=>trivial|some a'=>
   refine bK (J5 n f) λq cs cs' l g=>?_;rw[<-kq,<-kq];refine bK (Th (A:=cW) _ g.g ?_ _ _ rfl) λj s s' o e=>by cases e;exact .ak (.eI _)
   intro j u p s s' _ h e;cases e;cases h with
   |cx k m=>cases k<;>first|exact aN|exact .ak rfl
   |_=>exact aN
 |ez a'=>
  have e:∀b,k8 (.slice (some b) 0 0)=cr (.string .empty):=λ b=>by unfold k8;simp[q3,pV]
  rw[e,e];exact .ak (.eI _)|_=>exact aN
theorem ags(s d)(f:yH P s d=true){x j}(g:VR β x j):RS F (lp P fs) P VR β (convert s d x) (convert s d j):=by refine bK (kW s) λD u C o⟨e,t⟩=>?_;subst e;refine bK (kW d) λA w w' p⟨e,y⟩=>?_;subst e;unfold yH at f;rw[t,y]at f;have g:=(g.a o).a p;cases u with
 |int k0=>cases w with
  |int k1=>cases g with
   |cx k m=>exact .ak (.cx _ _)| @dc a a' r=>cases a<;>first|exact db|exact aN
   |_=>first|exact db|exact aN
  |_=>trivial
 |string=>cases w with
  |slice e=>cases g with
   |eI b=>
    refine bK (kW e) λB q q' l⟨eq,i⟩=>?_
    grind[YJ]
   | @dz a a' r n c=>cases a<;>first|exact db|exact aN
   |_=>first|exact db|exact aN
  |_=>trivial
 |slice e=>cases w with
  |string=>
   have body:RS F (lp P fs) P VR A (do match<-gw e with
    | .int .u8=>k8 x
    | .int .i32=>y3 x
    |_=>ew "Convert: a slice of what to string?") (do match<-gw e with
    | .int .u8=>k8 j
    | .int .i32=>y3 j
    |_=>ew "Convert: a slice of what to string?"):=by
    refine bK (kW e) λB q q' l⟨eq,i⟩=>?_;subst eq;simp[i]at f;cases q with
    |int k=>cases k<;>first| (simp at f;done)|exact agF (g.a l)
    |_=>trivial
   cases g with
   |cx k m=>exact .ak (.eI _)
   |eI b=>exact .ak (.eI _)
   |fy h=>
    refine .gp λ v=>?_;show∃z v2,(eL _ _).run _ v= .halt z _/\BH v v2 z;rw[ru,Hu];simp at f;cases i:P.underlying e with
    |none=>exact⟨_,_,rfl,rfl,id⟩
    |some q=>
     rw[i]at f;cases q with
     |int k=>cases k<;>first| (simp at f;done)|exact⟨_,_,rfl,rfl,id⟩
     |_=>simp at f
   |jL h=>obtain⟨_,_,_,rfl⟩:=pT h;exact body
   |gW _ hp=>rcases pr hp with⟨_,rfl⟩| ⟨_,rfl⟩<;>exact body
   |_=>exact body
  |_=>simp at f
 |_=>simp at f
end
variable{l l':Nat}{xs ys:Array Value}
def pq(P:ef)(fs:Array o2)(nx:j1->Bool)(f:j1):=∃a fn,fs[f]?=some a/\a.body.isNone=false/\P.funcs[f]?=some fn/\fn.body.isNone=false/\(nx f=true\/fn=a)
def XR(E:j1->Prop)(β:ah):nb->nb->Prop| .value v,.value v'=>VR β v v'| .skip,.skip=>True| .enter f args,.enter f' c=>f=f'/\AV β args c/\E f/\(ck.a f=true->args.size=ck.b)| .round l f t a b,.round l' f' t' a' d=>β l l'/\f=f'/\AV β t t'/\a=a'/\b=d/\aW.c a=true/\aW.c b=true|_,_=>False
def wa(P:ef)(fs:Array o2)(f:j1):=∀F E β xs ys,AV β xs ys->RS F (lp P fs) P (XR E) β (k5 f xs) (k5 f ys)
def sO(P:ef)(fs:Array o2)(nx:j1->Bool):=∀f a,fs[f]?=some a->(a.name== "runtime.NumGoroutine")=false/\((a.body.isNone=true/\((∀args v,∃x v2,(k5 f args).run (lp P fs) v= .halt x v2/\BH v v2 x)\/wa P fs f))\/(a.body.isNone=false/\∃fn,P.funcs[f]?=some fn/\(fn.name== "runtime.NumGoroutine")=false/\fn.body.isNone=false/\(nx f=true\/fn=a)))
section
variable{F:Nat->Bool}{P:Program}{fs:Array Func}{α α' γ γ':Type}{β:ah}
theorem R4{nx}(m:sO P fs nx)(f)(h:AV β xs ys)(n:ck.a f=true->xs.size=ck.b):RS F (lp P fs) P (XR (pq P fs nx)) β (k5 f xs) (k5 f ys):=by cases b:fs[f]? with
 |none=>refine .gp λ v=> ⟨.stuck "call: no such function",v,?_,rfl,λ h=>h⟩;show(match fs[f]? with|none=>_|some _=>_:dk _).run _ v=_;simp_all|some g=>
  have⟨k,l⟩:=m f g b;obtain⟨_,a|a⟩| ⟨e,fn,c,i,d,j⟩:=l
  exact .gp (a _);exact a _ _ _ _ _ h;refine mc ?_;rw[b,c];simp only[k,i,e,d,hF,if_false];exact .ak ⟨rfl,h,⟨_,_,b,e,c,d,j⟩,n⟩
theorem zX(h:β l l'):RS F (lp P fs) P (λβ x y=>LR β x y) β (p5 l) (p5 l'):=by refine .jF h λ o b a=>?_;cases a with|rh x=>exact .ak x|_=>exact aN
theorem U6{d:Array Tmp}{us vs}(h:AV β xs ys)(e:AV β us vs):AV β ((d.zip us).foldl (λ c(p:Tmp×df)=>c.setIfInBounds p.1 p.2) xs) ((d.zip vs).foldl (λ c(p:Tmp×df)=>c.setIfInBounds p.1 p.2) ys):=by
 rw[<-r2,<-r2,FQ,FQ];have b:=e.g;generalize us.toList=l at b;generalize vs.toList=m at b;generalize d.toList=t
 induction t generalizing l m xs ys with|nil=>trivial|cons a t f=>cases l with
  |nil=>cases m with|nil=>trivial|cons _ _=>trivial
  |cons x l=>cases m with|nil=>trivial|cons y m=>exact f (h.l a b.1) _ _ b.2
theorem aib{E}(h:β l l')(b:AV β xs ys):RS F (lp P fs) P (XR E) β (N4 l xs) (N4 l' ys):=by
 refine bK (zX h) λq r r' a k=>?_;have⟨m,o,d,e,f,g,i,p,j,c,n⟩:=k;rw[<-f,<-d,<-g,<-i,<-b.1];split;exact tC;exact .ak ⟨a _ _ h,rfl,U6 e (b.a a),rfl,rfl,j,c⟩
theorem afa(fn){j k}(h:AV β j k)(ps)(a b){o g}(v:NO β o g)(p:aW.c a=true)(q:aW.c b=true):RS F (lp P fs) P (λβ x y=>β x.1 y.1/\DL β x.2 y.2/\∀d∈x.2,∃r,d.target= .collected r) β (fx fn j ps a b o) (fx fn k ps a b g):=by
 have fin:∀c d i m m',bF β c->c d i->DL c m m'->(∀d∈m,∃r,d.target= .collected r)->RS F (lp P fs) P (λβ x y=>β x.1 y.1/\DL β x.2 y.2/\∀d∈x.2,∃r,d.target= .collected r) c (do cr (<-q5 (.loop {state:= .ready,pending:=none,fn,tmps:=j,params:=ps,assign:=a,body:=b,defers:=d}),m)) (do cr (<-q5 (.loop {state:= .ready,pending:=none,fn,tmps:=k,params:=ps,assign:=a,body:=b,defers:=i}),m')):=λ c d i m m' f t u s=> .oq (.rh ⟨rfl,rfl,rfl,h.a f,rfl,rfl,rfl,t,p,q,by grind⟩) λ r r' w n e _=> .ak ⟨e,u.a n,s⟩
 cases o with
 |none=>cases g with|some _=>trivial|none=>exact .oq .xc λ r r' c f e _=>fin _ r _ _ _ f e ⟨⟨e,AV.e _⟩,trivial⟩ (by simp)
 |some l=>cases g with|none=>trivial|some l'=>exact bK (zX v) λc r r' f e=>fin _ _ _ _ _ f e.a trivial (by simp)
theorem XL(h:β l l'):RS F (lp P fs) P cW β (pH l) (pH l'):=by refine bK (zX h) λp r r' n o=>?_;have⟨a,d,e,f,g,i,j,k,m,b,c⟩:=o;refine .mD (n _ _ h) (.rh ⟨rfl,d,e,f,g,i,j,k,m,b,c⟩) ?_;rw[<-a];cases r.state<;>first|exact .ak rfl|exact .gp (λ v=>nE (P:=P) (fs:=fs) (.error _) v)
theorem agI(h:β l l')(j)(n:∀c,j=some c->aW.c c=true):RS F (lp P fs) P VR β (sc l j) (sc l' j):=by refine bK (zX h) λt r r' m o=>?_;have⟨p,s,b,d,e,f,g,i,k,a,q⟩:=o;exact .mD (m _ _ h) (.rh ⟨rfl,rfl,b,d,e,f,g,i,k,a,n⟩) (.ak (.fY _))
theorem afj(h:β l l'):RS F (lp P fs) P (λ _ x y=>x=y/\∀c,x=some c->aW.c c=true) β (FU l) (FU l'):=by
 refine bK (zX h) λq r r' o p=>?_;have⟨b,e,f,g,i,j,k,m,n,d,a⟩:=p;rw[<-b,<-e];split
 grind[yb]
 exact .mD (o _ _ h) (.rh ⟨rfl,rfl,f,g,i,j,k,m,n,d,a⟩) (.ak ⟨rfl,a⟩)
theorem adb(h:β l l'):RS F (lp P fs) P (λ _ x y=>x= []/\y= []) β (np l) (np l'):=by refine .jF h λ o b a=>?_;cases a with|xc=>exact .mD h .yE (.ak ⟨rfl,rfl⟩)|_=>exact aN
end
variable{ρ ρ':Operand->Value}{E:FuncId->Prop}
def lX:Nat->df->Bool|_,.bool _|_,.int _ _|_,.string _|_,.nilFunc|_,.nilIface|_,.pointer none|_,.slice none _ _|_,.map none|_,.chan none=>true|n+1,.agg cs=>cs.toList.all λ c=>lX n c|n+1,.tuple cs=>cs.toList.all λ c=>lX n c|_,_=>false
theorem adG:∀n v,lX n v=true->fB v:=by
 intro n
 induction n with
 |zero=>intro v h β;cases v with
  |bool b=>exact .fY b|int k a=>exact .cx k a|string s=>exact .eI s|nilFunc=>exact .nG|nilIface=>exact .mj|pointer a=>cases a<;>first|exact .dc (a:=none) (a':=none) trivial|simp[lX]at h
  |slice a l c=>cases a<;>first|exact .dz (a:=none) (a':=none) trivial _ _|simp[lX]at h
  |map a=>cases a<;>first|exact .kM (r:=none) (r':=none) trivial|simp[lX]at h
  |chan a=>cases a<;>first|exact .me|simp[lX]at h
  |_=>trivial
 |succ n d=>intro v h β;cases v with
  |bool b=>exact .fY b|int k a=>exact .cx k a|string s=>exact .eI s|nilFunc=>exact .nG|nilIface=>exact .mj|pointer a=>cases a<;>first|exact .dc (a:=none) (a':=none) trivial|simp[lX]at h
  |slice a l c=>cases a<;>first|exact .dz (a:=none) (a':=none) trivial _ _|simp[lX]at h
  |map a=>cases a<;>first|exact .kM (r:=none) (r':=none) trivial|simp[lX]at h
  |chan a=>cases a<;>first|exact .me|simp[lX]at h
  |agg cs=>simp only[lX,kR]at h;exact VR.d (AV.i λ c e=>d c (by grind) _)|tuple cs=>simp only[lX,kR]at h;exact VR.b (AV.i λ c e=>d c (by grind) _)|_=>trivial
def dq:hG->Bool| .tmp _=>true| .func f=>!ck.a f| .const v=>lX 8 v| .global g=>Gl.a g
def jj(β:ah)(ρ ρ':hG->df):=∀o,dq o=true->VR β (ρ o) (ρ' o)
theorem jj.c{β}{fr fr':ea}(h:AV β fr.tmps fr'.tmps):jj β fr.eval fr'.eval:=by intro o b;cases o with|tmp t=>exact h.k t (VR.c _)|const v=>exact adG 8 v b _|global g=>exact .dc (a:=some _) (a':=some _) ⟨β.c g b,rfl,rfl⟩|func f=>exact VR.f ⟨rfl,by grind[dq]⟩ (AV.e _) (AV.e _)
section
variable{F:Nat->Bool}{P:Program}{fs:Array Func}{α α' γ γ':Type}{β:ah}
theorem jj.a(h:jj β ρ ρ'){xs:Array hG}(c:xs.all dq=true):AV β (xs.map ρ) (xs.map ρ'):=AV.j _ λ a b=>h a (by grind[nf])
theorem jj.d(h:jj β ρ ρ'){x:Option hG}(a:x.all dq=true):VO β (x.map ρ) (x.map ρ'):=by cases x with|none=>trivial|some o=>exact h o (by grind)
theorem jj.b(h:jj β ρ ρ'){ps:Array (Nat×hG)}(e:ps.all (λ p=>dq p.2)=true):PV β (ps.map λ(i,x)=>(i,ρ x)) (ps.map λ(i,x)=>(i,ρ' x)):=by refine⟨by simp,λ i x f c b=>?_⟩;rw[pN]at c b;obtain⟨a,d,rfl⟩:=hY.1 c;rw[d]at b;simp at b;subst b;exact⟨rfl,h _ (by grind)⟩
theorem fO{s s'}(h:RS F (lp P fs) P VR β s s'):RS F (lp P fs) P (XR E) β (do cr (.value (<-s))) (do cr (.value (<-s'))):=bK h λ _ _ _ _ a=> .ak a
theorem CL{s s'}(h:RS F (lp P fs) P cW β s s'):RS F (lp P fs) P (XR E) β (do s;cr .skip) (do s';cr .skip):=bc h λ _ _ _=> .ak trivial
theorem V8{E x j}(h:VR β x j)(o)(a)(r:o.op= .nilCheck a){ρ ρ'}(e:ρ a=x)(m:ρ' a=j):RS F (lp P fs) P (XR E) β (gE ρ o) (gE ρ' o):=by unfold gE;rw[r];simp[e,m];cases h with
 |dc i=>rename_i a a';cases a<;>cases a'<;>first|exact i.elim|exact .gp (nE .nilDeref)|exact .ak (.dc i)
 |mj=>exact .gp (nE _)|nG=>exact .gp (nE _)|jL w=>exact .gp (nE _)| @sg f f' xs ys us vs l d g p q=>cases f<;>cases f'<;>first|exact l.elim|exact .ak (.sg l d g p q)
 |fY b=>exact .ak (.fY b)|cx k n=>exact .ak (.cx k n)|eI s=>exact .ak (.eI s)|dz i n c=>exact .ak (.dz i n c)|ez a=>exact .ak (.ez a)|kM u=>exact .ak (.kM u)|me=>exact .ak .me|gW h hp=>cases j with
  |pointer a=>cases a with|none=>simp[rq]at hp|some a=>exact .ak (.gW h hp)
  |chan a=>exact .ak (.gW h hp)|_=>simp[rq]at hp
 |qM t v=>exact .ak (.qM t v)|gU d g=>exact .ak (.gU d g)|nA d g=>exact .ak (.nA d g)|fy hp=>cases j with
  |pointer a=>cases a<;>first| (simp[od]at hp;done)|exact .ak (.fy rfl)
  |func f a b=>cases f<;>first| (simp[od,p9]at hp;done)|exact .ak (.fy rfl)
  |_=>first| (simp[od]at hp;done)|exact .ak (.fy rfl)
end
section
variable{F:Nat->Bool}{P:Program}{fs:Array Func}{α α' γ γ':Type}{β:ah}
variable{nx:FuncId->Bool}{ρ ρ':Operand->Value}
theorem RU{nx}(n:sO P fs nx){x c}(q:VR β x c){xs ys}(h:AV β xs ys):RS F (lp P fs) P (XR (pq P fs nx)) β (do let d<-lf x xs;hL d.target d.args) (do let d<-lf c ys;hL d.target d.args):=by cases q with
 | @sg f f' us vs r s a i j k m=>have b:AV β us vs:= ⟨i,j⟩;cases f with
  |func g=>cases f' with|func g'=>obtain⟨e,o⟩:g=g'/\ck.a g=false:=a;subst e;exact R4 n g ((b.b h).b ⟨k,m⟩) λ h=>by rw[o]at h;cases h|_=>trivial
  |yield l=>cases f' with|yield l'=>exact aib a (b.b h)|_=>trivial
  |_=>trivial
 |nG=>exact .gp (nE .nilDeref)|jL h=>exact .gp (nE .nilDeref)|_=>exact tC
theorem Kb(c:sO P fs nx)(o)(f)(args)(a)(e:o.op= .call {callee:= .value f,args,argTypes:=a})(d:dq f=true)(b:args.all dq=true)(h:jj β ρ ρ'):RS F (lp P fs) P (XR (pq P fs nx)) β (gE ρ o) (gE ρ' o):=by unfold gE;rw[e];exact RU c (h f d) (h.a b)
theorem ahQ(c:sO P fs nx)(o)(f)(args)(a)(e:o.op= .call {callee:= .value (.func f),args,argTypes:=a})(g:args.size=ck.b)(b:args.all dq=true)(h:jj β ρ ρ')(h1:ρ (.func f)= .func (.func f) #[] #[])(h2:ρ' (.func f)= .func (.func f) #[] #[]):RS F (lp P fs) P (XR (pq P fs nx)) β (gE ρ o) (gE ρ' o):=by unfold gE;rw[e];show RS F _ P _ _ (do let d<-lf _ (args.map _);hL _ _) (do let d<-lf _ (args.map _);hL _ _);rw[h1,h2];exact R4 c f (((AV.e _).b (h.a b)).b (AV.e _)) (by grind)
theorem nY{α β:Type}{x}{f:α->Option β}{b}(h:(x>>=f)=some b):∃a,x=some a/\f a=some b:=by cases x with|none=>cases h|some a=>exact⟨a,rfl,h⟩
theorem aon{info fs i}(h:pz info fs=some i):i.methods= #[]:=by unfold pz at h;have⟨r,_,h⟩:=nY h;dsimp only at h;split at h<;>(injection h with h;subst h;rfl)
theorem ao7{info d i}(h:qz info d=some i):i.methods= #[]:=by unfold qz at h;cases d with|pointer e=>have⟨j,_,h⟩:=nY h;split at h;cases h;split at h;cases h;have⟨_,_,h⟩:=nY h;cases h;rfl;have⟨_,_,h⟩:=nY h;cases h;rfl|slice e=>have⟨_,_,h⟩:=nY h;have⟨_,_,h⟩:=nY h;cases h;rfl|map k e=>have⟨_,_,h⟩:=nY h;have⟨_,_,h⟩:=nY h;have⟨_,_,h⟩:=nY h;have⟨_,_,h⟩:=nY h;cases h;rfl|chan dir e=>have⟨_,_,h⟩:=nY h;have⟨_,_,h⟩:=nY h;cases h;rfl|func ps a v=>have⟨_,_,h⟩:=nY h;cases h;rfl|array n e=>have⟨_,_,h⟩:=nY h;have⟨_,_,h⟩:=nY h;cases h;rfl|struct fs=>exact aon h|_=>cases h
theorem an7{P:ef}{t i}(h:P.info? t=some i)(a:¬t<P.types.size):i.methods= #[]:=by unfold JZ at h;rw[if_neg a]at h;unfold mm tg at h;rw[if_neg a]at h;have⟨d,_,h⟩:=fl.1 h;exact ao7 h
def abM(P:ef)(name:String):=(vL P.types.size).all λ t=>match P.info? t with|none=>true|some i=>match i.methods.find? (·.name==name)with|none=>true|some m=>m.path.isEmpty&&(match m.func with|some (f,false)=>!ck.a f|_=>false)&&(match P.underlying t with|some (.pointer _)=>false|_=>true)
theorem am3(t):RS F (lp P fs) P (λ _ a a'=>a=a'/\P.info? t=some a) β (hQ t) (hQ t):=by refine mc ?_;cases h:P.info? t with|none=>exact aN|some i=>exact .ak ⟨rfl,rfl⟩
theorem aom{name}(c:abM P name=true)(k)(t){v v'}(w:VR β v v'):RS F (lp P fs) P (λβ a a'=>a.1=a'.1/\ck.a a.1=false/\VR β a.2 a'.2) β (o0 (k+1) t v name) (o0 (k+1) t v' name):=by unfold o0;refine bK (am3 t) λx i B p⟨e,n⟩=>?_;subst e;cases j:i.methods.find? (·.name==name) with|none=>simp;exact aN|some m=>
  have g:t<P.types.size:=by by_cases g:t<P.types.size;exact g;rw[an7 n g]at j;cases j
  have c:=kR.1 c t (List.mem_range.2 g);rw[n]at c;simp[j,ei]at c;have⟨⟨m1,m2⟩,o⟩:=c;have hp:m.path.toList= []:=by simpa using m1
  simp[hp];cases h:m.func with|none=>rw[h]at m2;cases m2|some q=>have⟨f,b⟩:=q;cases b with|true=>rw[h]at m2;cases m2|false=>rw[h]at m2;refine bK (A:=VR) ?_ λy r r' l u=> .ak ⟨rfl,by simpa using m2,u⟩;refine bK (kW t) λy d z l⟨e,s⟩=>?_;subst e;rw[s]at o;cases d<;>first|(cases o;done)|exact .ak ((w.a p).a l)
theorem ao4(j:sO P fs nx)(o)(x)(name)(args)(c)(n:o.op= .call {callee:= .invoke x name,args,argTypes:=c})(m:abM P name=true)(s:dq x=true)(i:args.all dq=true) (h:jj β ρ ρ'):RS F (lp P fs) P (XR (pq P fs nx)) β (gE ρ o) (gE ρ' o):=by
 have e:∀y ys,hL (.fn (.method name) #[]) (#[y]++ys)=u1 y name ys:=λ y ys=>by
  have h0:(#[y]++ys)[0]?=some y:=by rw[Array.getElem?_append_left (by simp)];rfl
  have a:(#[y]++ys).extract 1 (#[y]++ys).size=ys:=by apply Array.ext';simp
  show(match(#[y]++ys)[0]? with|some recv=>u1 recv name ((#[y]++ys).extract 1 (#[y]++ys).size)|_=>ew _)=_;rw[h0,a]
 unfold gE;rw[n];show RS F _ P _ _ (hL (.fn (.method name) #[]) (#[ρ x]++args.map ρ)) (hL (.fn (.method name) #[]) (#[ρ' x]++args.map ρ'));rw[e,e];have b:=h x s;generalize ρ x=y at b;generalize ρ' x=u at b;cases b with|qM t r=>refine mc ?_;obtain⟨k,l⟩:∃k,P.types.size+mm=k+1:= ⟨P.types.size+mm- 1,by unfold mm;omega⟩;show RS F _ P _ _ (do let q<-o0 (P.types.size+mm) t _ name;k5 q.1 (#[q.2]++_)) (do let q<-o0 (P.types.size+mm) t _ name;k5 q.1 (#[q.2]++_));rw[l];refine bK (aom m k t r) λv q q' a⟨d,f,g⟩=>?_;rw[<-d];exact R4 j _ ((AV.c g).b ((h.a i).a a)) λ h=>by rw[f]at h;cases h|mj=>exact .gp (nE .nilDeref)|_=>exact aN
theorem adF{x d y e}(h:VR β x d)(c:VR β y e):RS F (lp P fs) P VR β (Lk x y) (Lk d e):=by cases h with
 |cx k a=>cases c with
  |cx k' b=>exact .ak (.cx _ _)|dc g=>rename_i b f;cases b<;>first|exact db|exact aN
  |_=>exact aN
 |eI a=>cases c with
  |eI b=>exact RS.ak (A:=VR) (.eI _)|dc g=>rename_i b f;cases b<;>first|exact db|exact aN
  |_=>exact aN
 |dc i=>rename_i a a';cases a<;>cases c<;>first|exact db|exact aN| (rename_i b _ _;cases b<;>first|exact db|exact aN)
 |_=>cases c<;>first|exact aN|exact db| (rename_i b _ _;cases b<;>first|exact db|exact aN)
theorem apa{x d y e}(h:VR β x d)(c:VR β y e):RS F (lp P fs) P VR β (Ls x y) (Ls d e):=by cases h with
 |cx k a=>cases c with
  |cx k' b=>exact .ak (.cx _ _)|dc g=>rename_i b f;cases b<;>first|exact db|exact aN
  |_=>exact aN
 |eI a=>cases c with
  |eI b=>exact RS.ak (A:=VR) (.eI _)|dc g=>rename_i b f;cases b<;>first|exact db|exact aN
  |_=>exact aN
 |dc i=>rename_i a a';cases a<;>cases c<;>first|exact db|exact aN| (rename_i b _ _;cases b<;>first|exact db|exact aN)
 |_=>cases c<;>first|exact aN|exact db| (rename_i b _ _;cases b<;>first|exact db|exact aN)
theorem SD{f}(e:∀{β:ah}{x c y g:df},VR β x c->VR β y g->RS F (lp P fs) P VR β (f x y) (f c g)):∀{l m:List df}{β:ah}{x c:df},VR β x c->LV β l m->RS F (lp P fs) P VR β (l.foldlM f x) (m.foldlM f c)| [],[],_,_,_,d,_=>.ak d|a::l,b::m,_,_,_,d,h=>bK (e d h.1) λn u k i j=>SD e j (h.2.b i)| [],_::_,_,_,_,_,h=>h.elim|_::_,[],_,_,_,_,h=>h.elim
theorem ac6(d:Array hg)(t:hg){xs ys:Array df}(h:AV β xs ys):RS F (lp P fs) P VR β (s5 d t xs) (s5 d t ys):=by
 unfold s5;have c:=h.g;generalize xs.toList=l at c;generalize ys.toList=m at c;cases l with
 |nil=>grind[aN]
 |cons a l=>cases m with
  |nil=>trivial
  |cons b m=>exact SD adF c.1 c.2
theorem aoB(d)(t){xs ys}(h:AV β xs ys):RS F (lp P fs) P VR β (s7 d t xs) (s7 d t ys):=by unfold s7;have c:=h.g;generalize xs.toList=l at c;generalize ys.toList=m at c;cases l with|nil=>grind[aN]|cons a l=>cases m with|nil=>trivial|cons b m=>exact SD apa c.1 c.2
theorem anB(w:nC P)(j:Array TypeId)(t:TypeId){xs ys:Array Value}(h:AV β xs ys)(B:∃u e,j[0]?=some u/\P.underlying u=some (.slice e)):RS F (lp P fs) P VR β (Builtin.clear_ j t xs) (Builtin.clear_ j t ys):=by
 unfold Builtin.clear_;obtain⟨u,e,l,C⟩:=B;rw[l];rcases h.d 0 with⟨f,g⟩| ⟨x,y,f,g,D⟩
 ·rw[f,g];exact aN
 rw[f,g];refine bK (kW u) λM d H s⟨p,k⟩=>?_;subst p;rw[C]at k;cases k;cases (D.a s) with
 | @dz a a' i n c=>
  cases a with
  |none=>cases a' with
   |none=>exact .ak (VR.b (AV.e _))
   |some _=>exact i.elim
  |some a=>cases a' with
   |none=>exact i.elim
   |some a'=>
    cases n with
    |zero=>exact .ak (VR.b (AV.e _))
    |succ n=>
     refine bK (vr w e) λG z L v⟨q,r⟩=>?_;subst q
     exact bc (Ds 0 (i.a v) (ac0 (Gk r) _ G).g) λN _ I=> .ak (VR.b (AV.e _))
 |ez a'=>exact .ak (VR.b (AV.e _))
 | @kM m m' b=>
  cases m with
  |none=>cases m' with
   |none=>exact .ak (VR.b (AV.e _))
   |some _=>exact b.elim
  |some m=>cases m' with
   |none=>exact b.elim
   |some m'=>
    refine .jF b λ o K A=>?_;cases A with
    |mw c J=>exact .mD b (.mw c ⟨rfl,by simp⟩) (.ak (VR.b (AV.e _)))
    |_=>exact aN
 |_=>exact aN
def xv(P:Program)(b:Builtin)(a:Array TypeId):Bool:=
 match b with
 | .len| .cap| .copy| .min| .max=>true
 | .append=>match a[1]? with
  |some u=>match P.underlying u with|some (.slice _)|some .string=>true|_=>false
  |none=>false
 | .clear=>match a[0]? with
  |some u=>match P.underlying u with|some (.slice _)=>true|_=>false
  |none=>false
 |_=>false
theorem aiA{E:FuncId->Prop}(f:nC P)(o:Oper)(b:Builtin)(args:Array Operand)(d:Array TypeId)(j:o.op= .call {callee:= .builtin b,args,argTypes:=d})(c:xv P b d=true)(g:args.all dq=true)
 (h:jj β ρ ρ'):RS F (lp P fs) P (XR E) β (execOp ρ o) (execOp ρ' o):=by
 unfold execOp;rw[j];have a:=h.a g;cases b<;>first| (simp[xv]at c;done)|skip
 case append=>
  refine fO (VC f d _ ?_ a)
  grind[xv]
 case cap=>exact fO (afI _ _ a)
 case clear=>
  refine fO (anB f d _ a ?_);simp only[xv]at c;split at c
  ·rename_i u k;split at c
   ·rename_i e i;exact⟨u,e,k,i⟩
   ·cases c
  ·cases c
 case copy=>exact fO (adB _ _ a)
 case len=>exact fO (abc _ _ a)
 case min=>exact fO (ac6 _ _ a)
 case max=>exact fO (aoB _ _ a)
end
def dV(Q P:ef)(n:Nat):Op->Bool| .move x| .assign x| .box _ x| .load _ x| .nilCheck x| .unOp _ _ x| .makeInterface _ x| .fieldAddr _ x _| .field _ x _| .range _ x| .next x _| .entry x| .extract x _=>dq x| .pick c a b=>dq c&&dq a&&dq b| .alloc _=>true| .build _ ps| .buildSlice _ _ ps=>ps.all λ p=>dq p.2| .store _ a x| .makeSlice _ a x| .indexAddr _ a x| .index _ a x=>dq a&&dq x| .binOp op t x y _=>dq x&&dq y&&qh Q P n op t| .convert s d x=>dq x&&yH P s d| .makeFunc (.func g) first e=>!ck.a g&&first.all dq&&e.all dq| .makeMap _ none=>true| .slice _ x lo h j=>dq x&&lo.all dq&&h.all dq&&j.all dq| .lookup t x i _=>dq x&&dq i&&nq Q P n t| .mapUpdate t m k x| .insert t m k x=>dq m&&dq k&&dq x&&nq Q P n t| .call {callee:= .value (.func f),args,.. }=>(!ck.a f||Nat.beq args.size ck.b)&&args.all dq| .call {callee:= .value f,args,.. }=>dq f&&args.all dq| .call {callee:= .builtin b,args,argTypes}=>xv P b argTypes&&args.all dq| .call {callee:= .invoke x name,args,.. }=>abM P name&&dq x&&args.all dq|_=>false
section
variable{F:Nat->Bool}{P:Program}{fs:Array Func}{α α' γ γ':Type}{β:ah}
theorem Xg(l:nC P)(j:aW.n=P.globals.size){nx n}(w:sO P fs nx)(o)(e:dV (lp P fs) P n o.op=true){ρ ρ'}(h:jj β ρ ρ')(A:∀f,ρ (.func f)= .func (.func f) #[] #[])(B:∀f,ρ' (.func f)= .func (.func f) #[] #[]):RS F (lp P fs) P (XR (pq P fs nx)) β (gE ρ o) (gE ρ' o):=by
 generalize q:o.op=op at e;cases op;case nilCheck x=>exact V8 (h x e) o x q rfl rfl
 case call c=>
  have⟨callee,args,u⟩:=c;cases callee with
  |value f=>
   cases f with
   |func f=>
    grind[dV,ahQ,Nat.eq_of_beq_eq_true,Kb,dq]
   |_=>
    grind[dV,Kb]
  |builtin b=>
   grind[dV,aiA]
  |invoke x name=>
   grind[dV,ao4]
 all_goals
  unfold gE;rw[q]
 case move x=>exact .ak (h x e)
 case assign x=>exact .ak (h x e)
 case pick c a b=>
  simp[dV,ei]at e;refine bc (abX (h c e.1.1)) λE t p=>?_;cases t with
  |true=>exact .ak ((h a e.1.2).a p)
  |false=>exact .ak ((h b e.2).a p)
 case alloc t=>grind[fO,acA]
 case box t x=>exact fO (ady t (h x e))
 case build t ps=>exact fO (afe l t (h.b e))
 case buildSlice t len ps=>exact fO (aiU l t _ (h.b e))
 case load t x=>exact fO (acs t (h x e))
 case store t a x=>
  simp[dV,ei]at e;exact CL (ad7 t (h a e.1) (h x e.2))
 case binOp op t x y D=>
  simp[dV,ei]at e;exact fO (Vc j _ t x y e.2 (h x e.1.1) (h y e.1.2))
 case unOp op t x=>exact fO (US _ (h x e))
 case convert s d x=>
  simp[dV,ei]at e;exact fO (ags s d e.2 (h x e.1))
 case makeInterface t x=>exact fO (ahg t (h x e))
 case makeFunc fn first v=>
  cases fn with
  |func g=>
   simp only[dV,ei]at e;exact fO (ahl (f:= .func g) (f':= .func g) ⟨rfl,by grind⟩ (h.a e.1.2) (h.a e.2))
  |_=>trivial
 case makeMap t r=>
  cases r with
  |none=>grind[fO,aea]
  |some _=>trivial
 case makeSlice t a x=>
  simp[dV,ei]at e;exact fO (WW l t (h a e.1) (h x e.2))
 case slice t x lo z C=>
  simp[dV,ei]at e;exact fO (XA t (h x e.1.1.1) (h.d e.1.1.2) (h.d e.1.2) (h.d e.2))
 case fieldAddr t x i=>exact fO (VN t (h x e) i)
 case field t x i=>exact fO (Vq t (h x e) i)
 case indexAddr t a x=>
  simp[dV,ei]at e;exact fO (ab9 t (h a e.1) (h x e.2))
 case index t a x=>
  simp[dV,ei]at e;exact fO (acY t (h a e.1) (h x e.2))
 case lookup t x i ok=>
  simp[dV,ei]at e;exact fO (ad0 l j e.2 (h x e.1.1) (h i e.1.2) _)
 case mapUpdate t m k x=>
  simp[dV,ei]at e;exact CL (OG j e.2 (h m e.1.1.1) (h k e.1.1.2) (h x e.1.2))
 case insert t m k x=>
  simp[dV,ei]at e;exact CL (OG j e.2 (h m e.1.1.1) (h k e.1.1.2) (h x e.1.2))
 case range t x=>exact fO (aiW t (h x e))
 case next x b=>exact fO (acB _ b (h x e))
 case entry x=>exact fO (Zb (h x e))
 case extract x i=>exact fO (aci (h x e) i)
 all_goals simp[dV]at e
end
variable{β:ah}{fr:Frame}{cs:List Frame}{kl kr:List Item}{β':ah}
def cK(Q P:ef)(n:Nat):o1->Bool| .skip| .exit _| .ret| .refuse _| .label _=>true| .region _ ops _=>ops.all λ o=>dV Q P n o.op| .seq a b=>cK Q P n a&&cK Q P n b| .cond c a b=>dq c&&cK Q P n a&&cK Q P n b| .block _ b| .loop b| .scope b=>cK Q P n b| .rangeFunc f _ a b=>dq f&&cK Q P n a&&cK Q P n b| .goto _=>false
structure dC where
 P:ef
 c:Array o2
 b:j1->Bool
 n:Nat
abbrev dC.Q(C:dC):=lp C.P C.c
structure dC.a(C:dC):Prop where
 c:nC C.P
 e:aW.n=C.P.globals.size
 d:sO C.P C.c C.b
 a:∀c,aW.c c=cK C.Q C.P C.n c
 b:∀f fn c,C.c[f]?=some fn->C.b f=false->fn.body=some c->cK C.Q C.P C.n c=true
structure cS where
 a:List hB
 d:List hB
 e:List hs
 f:List hs
 c:List ea
 g:List ea
def IR(C:dC)(β:ah):hB->hB->Prop| .code c,.code c'=>c=c'/\cK C.Q C.P C.n c=true| .inBlock i,.inBlock d=>i=d| .inLoop b,.inLoop a=>b=a/\cK C.Q C.P C.n b=true| .inRegion ops l,.inRegion e l'=>ops=e/\l=l'/\(ops.all λ o=>dV C.Q C.P C.n o.op)=true| .inRangeFunc l,.inRangeFunc l'=>β l l'| .endRangeFunc l,.endRangeFunc l'=>β l l'| .beginRound,.beginRound=>True| .inScope b,.inScope a=>b=a|_,_=>False
theorem IR.a{C}(h:bF β β'){x y}(i:IR C β x y):IR C β' x y:=by cases x<;>cases y<;>first|exact i|exact h _ _ i|exact i.elim
def TL(C:dC)(β:ah)(kl kr:List hB):List hB->List hB->Prop|l,m=>∃a b,l=a++kl/\m=b++kr/\a.length=b.length/\∀(i:Nat)x y,a[i]?=some x->b[i]?=some y->IR C β x y
theorem TL.b{C}(h:bF β β'){l m}(x:TL C β kl kr l m):TL C β' kl kr l m:=
 let⟨a,b,c,d,e,f⟩:=x; ⟨a,b,c,d,e,λ i u v g j=>(f i u v g j).a h⟩
theorem TL.c{C}:TL C β kl kr kl kr:= ⟨[],_,rfl,rfl,rfl,by grind⟩
theorem TL.d{C l m}(h:TL C β kl kr l m):(l=kl/\m=kr)\/∃x l' y m',l=x::l'/\m=y::m'/\IR C β x y/\TL C β kl kr l' m':=by have⟨a,b,d,e,f,c⟩:=h;cases a with|nil=>grind|cons x a=>cases b with|nil=>trivial|cons y b=>exact .inr ⟨x,_,y,_,by trivial,by trivial,c 0 x y rfl rfl,a,b,rfl,rfl,by grind,λ i u v g j=>c (i+1) u v (by grind) (by grind)⟩
theorem TL.a{C l m x y}(h:TL C β kl kr l m)(k:IR C β x y):TL C β kl kr (x::l) (y::m):=by have⟨a,b,c,d,e,f⟩:=h;refine⟨x::a,y::b,by grind,by grind,by grind,λ i u v g j=>?_⟩;grind
def MR:PH->PH->Prop| .run,.run=>True| .returning,.returning=>True|_,_=>False
theorem MR.c{m m'}(h:MR m m')(e:m= .run):m'= .run:=by subst e;cases m'<;>first|rfl|exact h.elim
theorem MR.a{m m'}(h:MR m m')(e:m= .returning):m'= .returning:=by subst e;cases m'<;>first|rfl|exact h.elim
theorem MR.b{m m'}(h:MR m m'):(m= .run/\m'= .run)\/(m= .returning/\m'= .returning):=by cases m<;>cases m'<;>first|exact h.elim|exact .inl ⟨rfl,rfl⟩|exact .inr ⟨rfl,rfl⟩
structure GF(C:dC)(β:ah)(kl kr:List hB)(dl j:List hs)(fr fr':ea):Prop where
 h:fr.fn=fr'.fn
 b:AV β fr.tmps fr'.tmps
 g:TL C β kl kr fr.todo fr'.todo
 a:∃d i,fr.defers=d++dl/\fr'.defers=i++j/\DL β d i/\∀x∈d,∃r,x.target= .collected r
 f:MR fr.mode fr'.mode
 e:fr.kind=fr'.kind
 c:NO β fr.roundOf fr'.roundOf
theorem GF.j{C}(h:bF β β'){dl a fr'}(x:GF C β kl kr dl a fr fr'):GF C β' kl kr dl a fr fr':= ⟨x.h,x.b.a h,x.g.b h,let⟨d,_,b,c,e,f⟩:=x.a; ⟨d,_,b,c,e.a h,f⟩,x.f,x.e,x.c.a h⟩
theorem NO.b{a a'}(h:NO β a a'):a=none↔a'=none:=by cases a<;>cases a'<;>first|exact h.elim|simp
def na:List hB->Bool| .inRegion _ (_::_)::_| .inRangeFunc _::_| .beginRound::_=>true|_=>false
def JS(C:dC)(fr:ea):=fr.kind= .normal/\(fr.roundOf=none->∃fn,C.c[fr.fn]?=some fn/\C.P.funcs[fr.fn]?=some fn)/\(fr.roundOf≠none->fr.mode= .run)
inductive GS(C:dC)(X:cS)(β:ah):ea->List ea->ea->List ea->Prop|jE {fr fr':ea} (h:GF C β X.a X.d X.e X.f fr fr') (b:fr.roundOf=none):GS C X β fr X.c fr' X.g|up {fr fr' c c':ea} {cs cs':List ea} (h:GF C β [] [] [] [] fr fr') (d:JS C fr) (hp:na c.todo=true) (a:GS C X β c cs c' cs'):GS C X β fr (c::cs) fr' (c'::cs')
theorem GS.b{C X}(h:bF β β'){fr' cs'}(x:GS C X β fr cs fr' cs'):GS C X β' fr cs fr' cs':=by induction x with|jE g a=>exact .jE (g.j h) a|up g b hp _ c=>exact .up (g.j h) b hp c
theorem GS.c{C X fr' cs'}(x:GS C X β fr cs fr' cs'):X.c.length<=cs.length:=by induction x with|jE g a=>omega|up g b hp _ c=>grind
inductive DS(X:cS):ea->List ea->Prop|yS {fr:ea} (h:∀x∈fr.defers,∃r,lv x=lk r):DS X fr X.c|up {fr c:ea} {cs:List ea} (h:∀x∈fr.defers,∃r,lv x=lk r) (a:DS X c cs):DS X fr (c::cs)
theorem GS.e{C X fr' cs'}(f:X.e= [])(x:GS C X β fr cs fr' cs'):DS X fr cs:=by induction x with|jE g h=>have⟨d,a,b,_,_,c⟩:=g.a;exact .yS (by grind)|up g i hp _ e=>have⟨d,a,b,_,_,c⟩:=g.a;exact .up (by grind) e
theorem DS.b{X fr2}(h:DS X fr cs)(h2:∀x∈fr2.defers,∃r,lv x=lk r):DS X fr2 cs:=by cases h with|yS _=>exact .yS h2|up _ a=>exact .up h2 a
theorem DS.a{X}(h:DS X fr cs):∀x∈fr.defers,∃r,lv x=lk r:=by cases h with|yS h=>exact h|up h _=>exact h
def jU(X:cS)(fr:ea)(cs:List ea):=cs=X.c/\((fr.mode= .run/\fr.todo=X.a/\(X.a≠[]\/X.d≠[]))\/(fr.mode= .returning/\fr.defers=X.e))
def gd:Frame:={fn:=0,tmps:= #[],todo:= [],defers:= [{target:= .coroexit 0,args:= #[]}],mode:= .run,kind:= .normal}
structure cS.b(X:cS):Prop where
 b:X.e= []
 a:X.c= [gd]
 c:na X.a=false
 d:∀id,hS id X.a=none
 e:X.a= []->X.d= []
theorem GS.d{C X fr' cs'}(h:GS C X β fr cs fr' cs')(p:X.b)(n:¬jU X fr cs):∃k k' d l,GF C β k k' d l fr fr'/\(fr.roundOf=none\/(k= []/\k'= []))/\(fr.mode= .run->fr.todo=k->k= []/\k'= [])/\(∀id,hS id k=none)/\na k=false/\(fr.mode= .returning->fr.defers=d->d= []/\l= []/\JS C fr/\∃c b c' f,cs=c::b/\cs'=c'::f/\na c.todo=true/\GS C X β c b c' f)/\(fr.roundOf≠none->JS C fr/\∃c b c' f,cs=c::b/\cs'=c'::f/\na c.todo=true/\GS C X β c b c' f)/\∀i a j,GF C i k k' d l a j->a.roundOf=fr.roundOf->a.kind=fr.kind->a.fn=fr.fn->(fr.roundOf≠none->a.mode= .run)->bF β i->GS C X i a cs j cs':=by cases h with|jE g o=>refine⟨X.a,X.d,X.e,X.f,g,.inl o,λ q A=>?_,p.d,p.c,λ q v=>(n ⟨rfl,.inr ⟨q,v⟩⟩).elim,λ y=>absurd o y,λi a j g' m _ _ _ _=> .jE g' (m.trans o)⟩;refine⟨q9 λ w=>n ⟨rfl,by grind⟩,q9 λ w=>n ⟨rfl,by grind⟩⟩|up g r hp u=>refine⟨_,_,_,_,g,by grind,by grind,λ id=>rfl,rfl,by grind,by grind,λi a j g' m s t z x=> .up g' ⟨s.trans r.1,λ e=>t▸r.2.1 (m▸e),by grind⟩ hp (u.b x)⟩
variable{sL:World->GStep}{Q:Program}{s':GStep}
abbrev G0(fr:ea)(cs:List ea):Goroutine:={frame:=fr,callers:=cs,status:= .running,dying:=none}
def yP(X:cS)(s:mZ):=(∃o u es,s= .ended o u es)\/∃a b v2 es c,s= .go (G0 a b) v2 es/\a.mode= .panicking c/\Hd v2/\DS X a b
def uC(C:dC)(X:cS)(β:ah)(b:ea)(cs:List ea)(d:ea)(cs':List ea):=∃f xs ys c cs0 c' a,b=a6 C.Q f xs .normal/\d=a6 C.P f ys .normal/\cs=c::cs0/\cs'=c'::a/\C.b f=true/\(ck.a f=true->xs.size=ck.b)/\pq C.P C.c C.b f/\AV β xs ys/\na c.todo=true/\GS C X β c cs0 c' a
def oS(C:dC)(X:cS)(F:Nat->Bool)(β:ah)(v w:b2)(sL:b2->mZ)(s':mZ):=∃d t,(∀T D,gy d t T D->yP X (sL (v.tp T D)))\/∃f b v2 a g c w2 h,(∀T D,gy d t T D->∃es,sL (v.tp T D)= .go (G0 f b) (v2.tp T (D+d)) es)/\s'= .go (G0 g c) w2 h/\(GS C X a f b g c\/uC C X a f b g c)/\cw F a v2 w2/\Hd v2/\im F β v w a v2 w2/\∀e∈h,lQ F a e
section
variable{F:Nat->Bool}{C:dC}{X:cS}{β:ah}{v w:World}
theorem RS.b{α f A}{s:dk α}{s':dk f}(h:RS F C.Q C.P A β s s')(i:cw F β v w)(g:Hd v):∃d t,(∀T D,gy d t T D->∃x v2 es,s.runT C.Q (v.tp T D) #[]=(.halt x v2,es)/\jX x=true/\Hd v2)\/∃a v2 a' w2 c b,s'.runT C.P w #[]=(.ok a' w2,c)/\A b a a'/\cw F b v2 w2/\Hd v2/\im F β v w b v2 w2/\(∀e∈c,lQ F b e)/\∀T D,gy d t T D->∃es,s.runT C.Q (v.tp T D) #[]=(.ok a (v2.tp T (D+d)),es):=by have⟨d,t,h⟩:=h.d v w i g #[];refine⟨d,t,?_⟩;have j:∀T D,s.runT C.Q (v.tp T D) #[]=(s.run C.Q (v.tp T D),(s.runT C.Q (v.tp T D) #[]).2):=λ T D=>Prod.ext (qc C.Q s (v.tp T D) #[]) rfl;grind
theorem qv{f es}{p:hN->Prop}(h:∀e∈es,p e):∀e∈hP Q f es,p e:=by
 unfold hP;simp only;rw[<-r2];have c:∀e∈es.toList,p e:=λ e d=>h e (by grind);generalize es.toList=l at c;have key:∀(l:List hN)b,(∀e∈b.2,p e)->(∀e∈l,p e)->∀e∈(l.foldl (λ(q:Bool×Array hN)e=>match e.loc with| .mark (.extern f)=>((Q.funcs[f]?).any (·.norace),q.2)|_=>(q.1,if q.1&&!e.sync then q.2 else q.2.push e)) b).2,p e:=by
  intro l
  induction l with|nil=>simp|cons a l g=>grind
 exact key l _ (by simp) c
theorem ah0(fr:ea)(x):(fr.finish x).fn=fr.fn:=by grind[a7]
theorem Uw(fr:ea)(x):(fr.finish x).mode=fr.mode:=by grind[a7]
theorem afA(fr:ea)(x):(fr.finish x).kind=fr.kind:=by grind[a7]
theorem Gz(fr:ea)(x):(fr.finish x).roundOf=fr.roundOf:=by grind[a7]
theorem GF.i{k k' d n fr fr'}(g:GF C β k k' d n fr fr')(hp:na fr.todo=true)(u:na k=false){x y}(p:VR β x y):GF C β k k' d n (fr.finish x) (fr'.finish y):=by
 obtain⟨e,_⟩| ⟨a,l,b,m,f,h,c,j⟩:=g.g.d;grind;have s:(∃ops i rest,a= .inRegion ops (i::rest))\/(∃l,a= .inRangeFunc l)\/a= .beginRound:=by rw[f]at hp;cases a with
  |inRegion ops q=>cases q with|nil=>trivial|cons i r=>simp
  |inRangeFunc l=>simp|beginRound=>simp|_=>trivial
 obtain⟨ops,i,rest,rfl⟩| ⟨q,rfl⟩|rfl:=s;cases b<;>first|exact c.elim|skip;have⟨rfl,rfl,o⟩:=c;unfold a7;rw[f,h];refine⟨g.h,?_,j.a (x:= .inRegion _ _) (y:= .inRegion _ _) ⟨rfl,rfl,o⟩,g.a,g.f,g.e,g.c⟩;simp;cases(ops[i]?).bind _ with|none=>exact g.b|some t=>exact g.b.l t p
 cases b<;>first|exact c.elim|skip
 unfold a7;rw[f,h];exact⟨g.h,g.b,j.a (x:= .endRangeFunc q) (y:= .endRangeFunc _) c,g.a,g.f,g.e,g.c⟩;cases b<;>first|exact c.elim|skip;unfold a7;rw[f,h];exact⟨g.h,g.b,j,g.a,g.f,g.e,g.c⟩
theorem GS.a(d:X.b){c c' cs'}(h:GS C X β c cs c' cs')(hp:na c.todo=true){x y}(b:VR β x y):GS C X β (c.finish x) cs (c'.finish y) cs':=by cases h with|jE g j=>exact .jE (g.i hp d.c b) ((Gz _ _).trans j)|up g a i f=>exact .up (g.i hp rfl b) ⟨(afA _ _).trans a.1,λ e=>by rw[ah0];exact a.2.1 ((Gz _ _).symm.trans e),λ e=>by rw[Uw];exact a.2.2 (by grind[Gz])⟩ i f
theorem HB(g:cw F β v w)(f:Hd v){d e a b}(h:GS C X β d a e b)(h1:∀T D,sL (v.tp T D)= .go (G0 d a) (v.tp T D))(h2:s'= .go (G0 e b) w):oS C X F β v w sL s':= ⟨0,λ _ _=>0,.inr ⟨_,_,v,_,_,_,w,_,by grind,h2,.inl h,g,f,.c _ _ _ _,by simp⟩⟩
theorem vh(h:∀T D,∃o u es,sL (v.tp T D)= .ended o u es):oS C X F β v w sL s':= ⟨0,λ _ _=>0,.inl λ T D _=> .inl (h T D)⟩
theorem vN(fr:ea)(vs):∃b,(fr.raise vs).mode= .panicking b:=by have⟨c,d,e,f,a,g,h⟩:=fr;cases a<;>exact⟨_,rfl⟩
theorem Dg(fr:ea)(vs):(fr.raise vs).defers=fr.defers:=by have⟨b,c,d,e,a,f,g⟩:=fr;cases a<;>rfl
theorem Xt{a s}(h:yP X s):yP X (en a s):=by
 obtain⟨o,u,es,rfl⟩| ⟨d,c,v2,es,b,rfl,h⟩:=h;exact .inl ⟨o,u,_,rfl⟩;exact .inr ⟨_,_,_,_,_,rfl,h⟩
theorem Lc{fr x v2}(h:jX x=true)(d:Hd v2)(a:DS X fr cs)(b){s u} (e:s.runT Q u #[]=(.halt x v2,b)):yP X (stepG.apply Q true fr cs none s u):=by simp only[stepG.apply,if_true,e];cases x with
 |panic p=>have⟨f,c⟩:=vN fr [{v:=p,recovered:=false}];exact .inr ⟨_,_,_,_,_,rfl,c,d,a.b (by rw[Dg];exact a.a)⟩|unsupported u=>cases u with|initOrder g=>trivial|_=>exact .inl ⟨_,_,_,rfl⟩
 |stuck m=>exact .inl ⟨_,_,_,rfl⟩|_=>trivial
theorem Oz{frL frR cs' s s' uw v2 w2}{uL:b2->b2}{esL:b2->Array hN}{a a' ev c d t}
 (h1:∀T D,gy d t T D->∃es,s.runT C.Q (uL (v.tp T D)) #[]=(.ok a (v2.tp T (D+d)),es)) (h2:s'.runT C.P uw #[]=(.ok a' w2,ev)) (h3:XR E c a a') (h4:cw F c v2 w2) (i:Hd v2) (h5:im F β v w c v2 w2) (h6:∀e∈ev,lQ F c e)
 (m) (h7:∀e∈m,lQ F c e)
 (O:∀d r o k,frL.todo≠ .call d true r o::k) (P:∀d r o k,frR.todo≠ .call d true r o::k)
 (u:∀x y,VR c x y->GS C X c (frL.finish x) cs (frR.finish y) cs')
 (I:∀f xs ys,E f/\(ck.a f=true->xs.size=ck.b)->AV c xs ys->GS C X c (a6 C.Q f xs .normal) (frL::cs) (a6 C.P f ys .normal) (frR::cs')\/uC C X c (a6 C.Q f xs .normal) (frL::cs) (a6 C.P f ys .normal) (frR::cs'))
 (K:∀l l' f xs ys a b,c l l'->AV c xs ys->aW.c a=true->aW.c b=true->GS C X c (l8 l f xs a b .normal) (frL::cs) (l8 l' f ys a b .normal) (frR::cs'))
 {z:mZ} (M:∀T D,gy d t T D->sL (v.tp T D)=en (esL (v.tp T D)) (stepG.apply C.Q true frL cs none s (uL (v.tp T D)))) (N:z=en m (stepG.apply C.P true frR cs' none s' uw)):
 oS C X F β v w sL z:=by
 have Q:(match frL.todo with| .call _ true _ _::_=>za|_=> .normal)= .normal:=by
  simp
 have R:(match frR.todo with| .call _ true _ _::_=>za|_=> .normal)= .normal:=by
  simp
 have h:∀e∈m++ (hP C.P frR.fn (if(frR.kind== .early)=true then #[]else ev)++ #[]),lQ F c e:=λ e g=>by
  rcases kL.1 g with g|g
  grind
  exact qv (p:=lQ F _) (λ e g=>by
   grind) e g
 cases a with
 |value x=>
  cases a'<;>first|exact h3.elim|skip
  refine⟨d,t,.inr ⟨_,_,v2,c,_,_,w2,_,λ T D hT=>?_,by grind[stepG.apply,en],.inl (u _ _ h3),h4,i,h5,h⟩⟩
  grind[stepG.apply,en]
 |skip=>
  cases a'<;>first|exact h3.elim|skip
  refine⟨d,t,.inr ⟨_,_,v2,c,_,_,w2,_,λ T D hT=>?_,by grind[stepG.apply,en],.inl (u _ _ (VR.c _)),h4,i,h5,h⟩⟩
  grind[stepG.apply,en]
 |enter f xs=>
  cases a'<;>first|exact h3.elim|skip
  rename_i f' ys;have⟨j,n,hE,L⟩:=h3;subst j;refine⟨d,t,.inr ⟨_,_,v2,c,_,_,w2,_,λ T D hT=>?_,by grind[stepG.apply,en],I f xs ys ⟨hE,L⟩ n,h4,i,h5,h⟩⟩
  grind[stepG.apply,en]
 |round l f xs p q=>
  cases a'<;>first|exact h3.elim|skip
  rename_i l' f' ys p' q';have⟨J,j,n,A,B,G,H⟩:=h3;subst j A B;refine⟨d,t,.inr ⟨_,_,v2,c,_,_,w2,_,λ T D hT=>?_,by grind[stepG.apply,en],.inl (K l l' f xs ys p q J n G H),h4,i,h5,h⟩⟩
  grind[stepG.apply,en]
 |_=>trivial
theorem RG(s):en #[] s=s:=by cases s<;>simp[en]
theorem PC{frL frR cs' s s'}(H:RS F C.Q C.P (XR E) β s s')(B:cw F β v w)(q:Hd v)(K:DS X frL cs) (z:∀d r g k,frL.todo≠ .call d true r g::k) (A:∀d r g k,frR.todo≠ .call d true r g::k) (I:∀c x y,bF β c->VR c x y->GS C X c (frL.finish x) cs (frR.finish y) cs') (u:∀c f xs ys,bF β c->E f/\(ck.a f=true->xs.size=ck.b)->AV c xs ys->GS C X c (a6 C.Q f xs .normal) (frL::cs) (a6 C.P f ys .normal) (frR::cs')\/uC C X c (a6 C.Q f xs .normal) (frL::cs) (a6 C.P f ys .normal) (frR::cs')) (G:∀c l l' f xs ys a b,bF β c->c l l'->AV c xs ys->aW.c a=true->aW.c b=true->GS C X c (l8 l f xs a b .normal) (frL::cs) (l8 l' f ys a b .normal) (frR::cs')):oS C X F β v w (stepG.apply C.Q true frL cs none s) (stepG.apply C.P true frR cs' none s' w):=by have⟨d,t,h⟩:=H.b B q;obtain h| ⟨a,v2,a',w2,J,c,i,j,m,n,e,o,p⟩:=h;refine⟨d,t,.inl λ T D hT=>?_⟩;grind[Lc];exact Oz (X:=X) (uL:=id) (esL:=λ _=> #[]) p i j m n e o _ (by simp) z A (λ x y=>I _ x y e.b) (λ f xs ys=>u _ f _ _ e.b) (λ l l' f xs ys a b=>G _ l _ f _ _ a b e.b) (λ T D _=>(RG _).symm) (RG _).symm
end
variable{β2:ah}{f:FuncId}
theorem aa3{α:Type}(P:ef)(s:dk α)(w:b2)(e0 es:Array hN):s.runT P w (e0++es)=((s.runT P w es).1,e0++ (s.runT P w es).2):=by
 induction s generalizing w es with
 |pure a=>rfl
 |load m a k b=>
  simp only[fb];cases w.cell? a with
  |some v=>grind
  |none=>
   simp only;cases w.farLoad P a _ with
   |ok r=>grind
   |error h=>rfl
 |store m a v k b=>
  cases v
  case agg=>rfl
  case tuple=>rfl
  all_goals
   simp only[fb];cases w.cell? a with
   |some _=>
    simp only;split;rfl;rw[<-ny,b]
   |none=>
    simp only;split;rw[Array.append_assoc,b];rfl
 |new o k b=>grind[fb]
 |shape r k b=>grind[fb]
 |freeze a n k b=>grind[fb]
 |frozen a k b=>grind[fb]
 |getObj r k b=>
  simp only[fb];cases w.heap[r]? with
  |none=>rfl
  |some o=>cases o<;>first|rfl| (simp only;rw[<-ny,b])
 |setObj r o k b=>
  simp only[fb];cases w.heap[r]? with
  |none=>rfl
  |some o=>cases o<;>first|rfl| (simp only;rw[<-ny,b])
 |choose q k b=>grind[fb]
 |sys c k b=>grind[fb,ny]
 |program k b=>grind[fb]
 |mark m k b=>grind[fb,ny]
 |halt h=>rfl
theorem agT{α c}(P)(s:dk α)(f:α->dk c)(w):(s.bind f).runT P w #[]=match s.runT P w #[]with| (.ok a w1,b)=>(((f a).runT P w1 #[]).1,b++ ((f a).runT P w1 #[]).2)| (.halt h w1,b)=>(.halt h w1,b):=by rw[Sem.runT_bind'];generalize s.runT P w #[]=q;have⟨r,b⟩:=q;cases r with
 |ok a w1=>simp only;have:=aa3 P (f a) w1 b #[];trivial|halt h w1=>rfl
section
variable{F:Nat->Bool}{C:dC}{X:cS}{β:ah}{v w:World}
def OB:Option o1->Bool|none|some .ret=>true|_=>false
def xb(p:ef)(main:Bool)(fr:ea)(cs:List ea)(w:b2)(a:Option o1):GStep:=match fr.roundOf with
 |none=>if OB a=true then .go (G0 {fr with mode:= .returning} cs) w else .ended (.stuck "exit, goto: no such block or label" (fr.pos p)) w|some l=>let(r,es):=(sc l a).runT p w #[]
  en (hP p fr.fn es)<|match r with| .ok v w=>mv p main fr cs none v w| .halt _ w=> .ended (.stuck "range over a function: no such loop" (fr.pos p)) w
theorem aam(y:C.a)(n:X.b){fr fr' cs cs' m1 m2}(r:cw F β v w)(o:Hd v)(h:GS C X β fr cs fr' cs')(A:¬jU X fr cs)(ab:fr.mode= .run) (i) (E:∀c,i=some c->cK C.Q C.P C.n c=true):oS C X F β v w (λ u=>xb C.Q m1 fr cs u i) (xb C.P m2 fr' cs' w i):=by have⟨k,k',d,R,g,U,V,W,Y,Z,z,B⟩:=h.d n A;have b:=g.c;unfold xb;cases e:fr.roundOf with
 |none=>rw[e]at b;have f:fr'.roundOf=none:=(NO.b b).1 rfl;cases aa:OB _ with|true=>exact HB r o (B _ {fr with mode:= .returning} {fr' with mode:= .returning} ⟨g.h,g.b,g.g,g.a,trivial,g.e,g.c⟩ rfl rfl rfl (by grind) (bF.b _)) (by grind) (by grind)|false=>exact vh λ T D=> ⟨_,_,_,rfl⟩
 |some l=>rw[e]at b;cases f:fr'.roundOf with|none=>rw[f]at b;exact b.elim|some l'=>rw[f]at b;obtain⟨H,c,O,c',Q,rfl,rfl,hp,j⟩:=z (by rw[e];simp);have p:fr.kind= .normal:=H.1;have⟨d,t,q⟩:=(agI (F:=F) (P:=C.P) (fs:=C.c) b i λ c j=>(y.a c).trans (E c j)).b r o;refine⟨d,t,?_⟩;obtain q| ⟨a,v2,a',w2,S,β2,I,J,K,L,s,M,N⟩:=q;refine .inl λ T D hT=>?_;have⟨x,v2,es,m,_,_⟩:=q T D hT;exact .inl ⟨_,_,_,by simp only[m,en];rfl⟩;refine .inr ⟨_,_,v2,β2,_,_,w2,_,λ T D hT=>?_,by simp only[I,mv,g.e▸p,en];rfl,.inl ((j.b s.b).a n hp J),K,L,s,?_⟩;have⟨es,m⟩:=N T D hT;exact⟨_,by simp only[m,mv,p,en];rfl⟩;exact qv M
theorem TL.e{k k' l m}(h:TL C β k k' l m)(f:∀id,hS id k=none)(id):(∃l',hS id l=some l'/\∃m',hS id m=some m'/\TL C β k k' l' m')\/(hS id l=none/\(k'= []->hS id m=none)):=by
 obtain⟨a,b,rfl,rfl,p,c⟩:=h
 induction a generalizing b with
 |nil=>cases b with|cons _ _=>trivial|nil=>exact .inr ⟨f _,λ e=>by subst e;rfl⟩
 |cons x a o=>cases b with|nil=>trivial|cons y b=>
  have d:=c 0 x y rfl rfl;have rest:=o b (by grind) λ i u v g j=>c (i+1) u v (by trivial) (by trivial);have q:TL C β k k' (a++k) (b++k'):= ⟨a,b,rfl,rfl,by grind,λ i u v g j=>c (i+1) u v (by trivial) (by trivial)⟩;cases x<;>cases y<;>first|exact d.elim|skip
  case inBlock.inBlock i n=>
   have e:i=n:=d;grind[hS]
  all_goals
   simp[F0,hS];exact rest
theorem Ff(k:C.a){β2 frL frR cs cs'}(j:GS C X β2 frL cs frR cs')(hp:na frL.todo=true){f xs ys}(d:pq C.P C.c C.b f/\(ck.a f=true->xs.size=ck.b))(h:AV β2 xs ys):GS C X β2 (a6 C.Q f xs .normal) (frL::cs) (a6 C.P f ys .normal) (frR::cs')\/uC C X β2 (a6 C.Q f xs .normal) (frL::cs) (a6 C.P f ys .normal) (frR::cs'):=by cases g:C.b f with|true=>exact .inr ⟨f,_,_,frL,cs,frR,cs',rfl,rfl,rfl,rfl,g,d.2,d.1,h,hp,j⟩|false=>left;have⟨l,fn,a,i,b,n,m⟩:=d.1;obtain rfl:fn=l:=m.resolve_left (by rw[g];simp);cases e:fn.body with|none=>rw[e]at i;cases i|some c=>refine .up ⟨rfl,?_,?_,⟨[],[],rfl,rfl,trivial,by simp⟩,trivial,rfl,trivial⟩ ⟨rfl,λ _=> ⟨fn,a,b⟩,λ x=>absurd rfl x⟩ hp j;simp[a6,a,b,Option.map_some,Gw,h.1];exact h.b (AV.f _ (VR.c _));simp[a6,a,b,GY,e,Gw];exact TL.c.a (x:= .code c) (y:= .code c) ⟨rfl,k.b f fn c a g e⟩
theorem G2(e:C.a){frL frR cs'}(g:GS C X β2 frL cs frR cs')(hp:na frL.todo=true){l l' a b}(i:β2 l l')(h:AV β2 xs ys)(c:aW.c a=true)(d:aW.c b=true):GS C X β2 (l8 l f xs a b .normal) (frL::cs) (l8 l' f ys a b .normal) (frR::cs'):=by rw[e.a]at c d;exact .up ⟨rfl,h,((TL.c.a (x:= .code b) (y:= .code b) ⟨rfl,d⟩).a (x:= .beginRound) (y:= .beginRound) trivial).a (x:= .code a) (y:= .code a) ⟨rfl,c⟩,⟨[],[],rfl,rfl,trivial,by simp⟩,trivial,rfl,i⟩ ⟨rfl,λ x=>by trivial,λ _=>rfl⟩ hp g
theorem aeq(h:AV β xs ys)(ops):mx ops xs=mx ops ys:=by funext j;unfold mx;cases(ops[j]?).bind _ with|none=>rfl|some t=>
 simp[GY];rcases h.d t with⟨a,b⟩| ⟨x,y,a,b,c⟩
 grind
 rw[a,b];cases c with
 |fy hp=>cases y<;>first|rfl| (simp[od]at hp)
 |jL hp=>grind[p9]
 |gW _ hp=>grind[rq]
 |_=>rfl
theorem TF(Q){fr o u}(b:fr.oper?=some o)(a:∀c,o.op≠ .defer c):k4 Q true fr cs none u=stepG.apply Q true fr cs none (gE fr.eval o) u:=by grind[k4,absurd]
theorem MI{Q P n op}(h:dV Q P n op=true)(c):op≠ .defer c:=by grind[dV]
end
variable{z:Value}{i:TypeInfo}
theorem OU{α β:Type}{I:β->Prop}{f}(i:∀a b r,I b->f a b=some r->I r.value):∀(l:List α)b c,I b->n1 l b f=some c->I c
 | [],b,c,h,e=>by grind|a::l,b,c,h,e=>by rw[s4]at e;cases d:f a b with|none=>rw[d]at e;cases e|some r=>rw[d]at e;have g:=i a b r h d;cases r with|done x=>cases e;exact g|yield x=>exact OU i l x c g e
def xw:Nat->df->Bool|0,_=>false|n+1,v=>match v with| .bool _| .int _ _| .string _| .pointer none| .slice none _ _| .map none| .chan none| .nilFunc| .nilIface=>true| .agg cs=>cs.toList.all (xw n)| .tuple cs=>cs.toList.all (xw n)|_=>false
theorem zT{cs}:fB (.agg cs)↔∀v∈cs.toList,fB v:=by
 constructor;intro h v d β;obtain⟨i,c⟩:=List.getElem?_of_mem d;have c:cs[i]?=some v:=by grind
 have:=h β;cases this with
 |gU b a=>grind
 intro h β;exact .gU rfl λ i v v' b a=>by
  rw[b]at a;cases a;exact h v (by grind) _
theorem Il:∀n v,xw n v=true->fB v
 |0,_,h=>by cases h|n+1,v,h=>by cases v with
  |bool b=>exact λβ=> .fY b|int k m=>exact λβ=> .cx k m|string s=>exact λβ=> .eI s|nilFunc=>exact λβ=> .nG|nilIface=>exact λβ=> .mj|pointer a=>cases a with|none=>exact λβ=> .dc (a:=none) (a':=none) trivial|some _=>cases h
  |slice a m c=>cases a with
   |none=>exact λβ=> .dz (a:=none) (a':=none) trivial m c|some _=>cases h
  |map a=>cases a with
   |none=>exact λβ=> .kM (r:=none) (r':=none) trivial|some _=>cases h
  |chan a=>cases a with
   |none=>exact λβ=> .me|some _=>cases h
  |agg cs=>simp only[xw,kR]at h;exact zT.2 λ v f=>Il n v (h v f)|tuple cs=>
   simp only[xw,kR]at h;intro β;exact .nA rfl λ i v v' e d=>by rw[e]at d;cases d;exact Il n v (h v (by grind)) _|_=>cases h
theorem PX(h:fB z):∀v∈z.cells.toList,fB v:=by cases z with|agg cs=>exact zT.1 h|_=>grind[Value.cells]
theorem acg{info}(p:∀t i z,info t=some i->i.zero=some z->fB z){fs i z}(h:pz info fs=some i)(n:i.zero=some z):fB z:=by
 unfold pz at h;simp[<-kq]at h;have⟨r,l,g⟩:=fl.1 h;have m:∀arr,r.2.2.2.2.2.2.2.1=some arr->∀v∈arr.toList,fB v:=by
  refine OU (I:=λ r=>∀arr,r.2.2.2.2.2.2.2.1=some arr->∀v∈arr.toList,fB v) ?_ _ _ _ ?_ l;intro f b r o e;obtain⟨j,q,e⟩:=fl.1 e;have fin:∀c arr,(if c>Made.mostCells then none else do
   let x<-b.2.2.2.2.2.2.2.1
   let y<-j.zero
   cr (x++y.cells))=some arr->∀v∈arr.toList,fB v:=by
   intro c arr a v k;split at a;trivial;obtain⟨x,s,a⟩:=fl.1 a
   grind[fl,Array.toList_append,PX]
  repeat' first
   | (exact λ arr a=>fin _ arr (by cases e;exact a))
   | (replace e:=fl.1 e;obtain⟨_,d,e⟩:=e;first| (cases d;done)|clear d)
   | (cases e;done)
   |split at e
  intro arr a v k;cases a;simp at k
 split at g<;>(cases g;obtain⟨arr,a,rfl⟩:=hY.1 n;exact zT.2 (m arr a))
theorem ad3{info}(m:∀t i z,info t=some i->i.zero=some z->fB z){d}(h:qz info d=some i)(b:i.zero=some z):fB z:=by have g:fB (.pointer none):=λβ=> .dc (a:=none) (a':=none) trivial;have c4:fB (.chan none):=λβ=> .me;have l:fB .nilFunc:=λβ=> .nG;unfold qz at h;cases d with
 |pointer e=>
  have⟨j,f,h⟩:=fl.1 h;split at h;cases h;split at h;cases h;obtain⟨s,c,h⟩:=fl.1 h;cases h;cases b;exact g;obtain⟨s,c,h⟩:=fl.1 h;cases h;cases b;exact g|slice e=>have⟨j,f,h⟩:=fl.1 h;have⟨s,c,h⟩:=fl.1 h;cases h;cases b;exact (λβ=> .dz (a:=none) (a':=none) trivial 0 0)|map k e=>have⟨j,f,h⟩:=fl.1 h;have⟨s,c,h⟩:=fl.1 h;have⟨j,f,h⟩:=fl.1 h;have⟨s,c,h⟩:=fl.1 h;cases h;cases b;exact (λβ=> .kM (r:=none) (r':=none) trivial)|chan dir e=>have⟨j,f,h⟩:=fl.1 h;have⟨s,c,h⟩:=fl.1 h;cases h;cases b;omega|func ps p v=>have⟨s,c,h⟩:=fl.1 h;cases h;cases b;omega|array n e=>
  have⟨j,f,h⟩:=fl.1 h;have⟨s,c,h⟩:=fl.1 h;cases h;split at b;trivial;split at b
  grind[zT]
  obtain⟨y,o,rfl⟩:=hY.1 b
  grind[zT,Array.toList_flatten,Array.toList_replicate,List.map_replicate,List.mem_flatten,PX]|struct fs=>grind[acg]|_=>cases h
theorem Li(T)(hT:∀(t:hg)i z,T.types[t]?=some i->i.zero=some z->fB z):∀n(t:hg)i z,tg T n t=some i->i.zero=some z->fB z
 |0,t,i,z,h,_=>by cases h|n+1,t,i,z,h,a=>by unfold tg at h;split at h;grind;have⟨d,_,h⟩:=fl.1 h;exact ad3 (Li T hT n) h a
theorem ahU{P n}(h:(P.types.toList.all λ i=>match i.zero with|some z=>xw n z|none=>true)=true):nC P:=by
 have hT:∀(t:hg)i z,P.types[t]?=some i->i.zero=some z->fB z:=λ t i z a b=>by grind[kR,List.mem_of_getElem?,Il]
 intro t i z a b;grind[JZ,Li]
section
variable{F:Nat->Bool}{C:dC}{X:cS}{β:ah}{v w:World}
variable{f:Operand}{ps:Array Tmp}{α:Type}
def j8(ρ:hG->df)(f:hG)(l:Nat):=do
 let d<-resolve ρ {callee:= .value f,args:= #[.const (.func (.yield l) #[] #[])],argTypes:= #[]} 0
 hL d.target d.args
theorem UQ(a:C.a){ρ ρ'}(h:jj β ρ ρ')(c:dq f=true){l l'}(g:β l l')(i:∀v,ρ (.const v)=v)(j:∀v,ρ' (.const v)=v):RS F C.Q C.P (XR (pq C.P C.c C.b)) β (j8 ρ f l) (j8 ρ' f l'):=by
 have e:j8 ρ f l=(do let d<-lf (ρ f) #[.func (.yield l) #[] #[]];hL d.target d.args):=by grind[j8,resolve]
 have b:j8 ρ' f l'=(do let d<-lf (ρ' f) #[.func (.yield l') #[] #[]];hL d.target d.args):=by grind[j8,resolve]
 rw[e,b];exact RU a.d (h f c) (AV.c (VR.f g (AV.e _) (AV.e _)))
theorem abE{Q fn d ps a b o u f p}(h:(fx fn d ps a b o).run Q u= .ok p f):∀x∈p.2,∃r,lv x=lk r:=by cases o with|none=>have:(fx fn d ps a b none).run Q u= .ok (_,_) _:=rfl;cases h;intro x c;simp at c;subst c;exact⟨_,rfl⟩|some l=>unfold fx at h;change(eL (p5 l) _).run Q u=_ at h;rw[Rs.ru]at h;cases e:(p5 l).run Q u with|halt x v=>grind|ok r v=>rw[e]at h;cases h;simp
def Be(s:dk α)(f:α->dk nb):=s.bind λ a=>(f a).bind λ n=> .pure (a,n)
theorem J8(P)(s)(f:α->dk nb)(w):(Be s f).runT P w #[]=match s.runT P w #[]with| (.halt h w1,b)=>(.halt h w1,b)| (.ok a w1,b)=>match(f a).runT P w1 #[]with| (.ok n w2,c)=>(.ok (a,n) w2,b++c)| (.halt h w2,c)=>(.halt h w2,b++c):=by grind[Be,agT,runT,fb]
theorem abq(R:C.a)(ag:X.b){dP:j1}{i A:Array df}{l m:List hB}{H I:List hs}{G L:CallKind}{c o:Option Nat}{cs cs':List ea}{m1 m2:Bool}(aE:cw F β v w)(av:Hd v)
 {a b:o1} (h:GS C X β ⟨dP,i,.code (.rangeFunc f ps a b)::l,H,.run,G,c⟩ cs ⟨dP,A,.code (.rangeFunc f ps a b)::m,I,.run,L,o⟩ cs')
 {k k':List hB} {d ac:List hs} (g:GF C β k k' d ac ⟨dP,i,.code (.rangeFunc f ps a b)::l,H,.run,G,c⟩ ⟨dP,A,.code (.rangeFunc f ps a b)::m,I,.run,L,o⟩) (aF:TL C β k k' l m)
 (aw:∀Q J af,GF C Q k k' d ac J af->J.roundOf=c->J.kind=G->J.fn=dP->(c≠none->J.mode= .run)->bF β Q->GS C X Q J cs af cs')
 (K:cK C.Q C.P C.n (.rangeFunc f ps a b)=true):
 oS C X F β v w (dr C.Q m1 (G0 ⟨dP,i,.code (.rangeFunc f ps a b)::l,H,.run,G,c⟩ cs)) (dr C.P m2 (G0 ⟨dP,A,.code (.rangeFunc f ps a b)::m,I,.run,L,o⟩ cs') w):=by
 simp[cK,ei]at K
 let j:Nat×List hs->Frame:=λ p=> ⟨dP,i,.inRangeFunc p.1::l,p.2++H,.run,G,c⟩
 let B:Nat×List hs->Frame:=λ p=> ⟨dP,A,.inRangeFunc p.1::m,p.2++I,.run,L,o⟩
 have an:∀u,dr C.Q m1 (G0 ⟨dP,i,.code (.rangeFunc f ps a b)::l,H,.run,G,c⟩ cs) u=
  en (hP C.Q dP ((fx dP i ps a b c).runT C.Q u #[]).2) (match((fx dP i ps a b c).runT C.Q u #[]).1 with
   | .ok p u=>stepG.apply C.Q true (j p) cs none (j8 (j p).eval f p.1) u
   | .halt _ u=> .ended (.stuck "range over a function: no such loop" (PK C.Q ⟨dP,i,.code (.rangeFunc f ps a b)::l,H,.run,G,c⟩)) u):=λ u=>by
  simp only[dr,gk];generalize (fx dP i ps a b c).runT C.Q u #[]=r;have⟨r,es⟩:=r;cases r with
  |ok p u=>rfl
  |halt x u=>rfl
 have aO:∀u,dr C.P m2 (G0 ⟨dP,A,.code (.rangeFunc f ps a b)::m,I,.run,L,o⟩ cs') u=
  en (hP C.P dP ((fx dP A ps a b o).runT C.P u #[]).2) (match((fx dP A ps a b o).runT C.P u #[]).1 with
   | .ok p u=>stepG.apply C.P true (B p) cs' none (j8 (B p).eval f p.1) u
   | .halt _ u=> .ended (.stuck "range over a function: no such loop" (PK C.P ⟨dP,A,.code (.rangeFunc f ps a b)::m,I,.run,L,o⟩)) u):=λ u=>by
  simp only[dr,gk];generalize (fx dP A ps a b o).runT C.P u #[]=r;have⟨r,es⟩:=r;cases r with
  |ok p u=>rfl
  |halt x u=>rfl
 have ap:RS F C.Q C.P (λβ(x y:(Nat×List hs)×nb)=>(β x.1.1 y.1.1/\DL β x.1.2 y.1.2/\(∀z∈x.1.2,∃r,lv z=lk r))/\XR (pq C.P C.c C.b) β x.2 y.2) β (Be (fx dP i ps a b c) λ p=>j8 (j p).eval f p.1) (Be (fx dP A ps a b o) λ p=>j8 (B p).eval f p.1):=by
  refine RS.c (afa dP g.b ps a b g.c ((R.a a).trans K.1.2) ((R.a b).trans K.2)) λaY p p' ax hp=>?_;have⟨aj,az,aA⟩:=hp;exact RS.c (UQ R (ρ:=(j p).eval) (ρ':=(B p').eval) (jj.c (fr:=j p) (fr':=B p') (g.b.a ax)) K.1.1 aj (λ _=>rfl) (λ _=>rfl)) λQ n aG ai ay=>.ak ⟨⟨ai _ _ aj,az.a ai,aA⟩,ay⟩
 have ah:=h.e ag.b;have⟨dd,t,q⟩:=ap.b aE av;rcases q with q| ⟨⟨p,n⟩,v2,⟨p',aG⟩,w2,aQ,Q,N,⟨⟨aH,aI,aV⟩,aJ⟩,aK,aL,O,al,aU⟩
 refine⟨dd,t,.inl λ T D hT=>?_⟩;have⟨x,v2,es,M,ar,au⟩:=q T D hT;show yP X (dr _ _ _ _);rw[an];rw[J8]at M;have W:=λ p aM(h:(fx dP i ps a b c).run C.Q (v.tp T D)= .ok p aM)=>abE h;rw[<-qc C.Q _ _ #[]]at W;generalize (fx dP i ps a b c).runT C.Q (v.tp T D) #[]=Y at M W⊢;have⟨Y,ad⟩:=Y;cases Y with
 |halt x v1=>exact .inl ⟨_,_,_,rfl⟩
 |ok p v1=>
  simp only at M⊢;generalize aC:(j8 (j p).eval f p.1).runT C.Q v1 #[]=aa at M;have⟨aa,ae⟩:=aa;cases aa with
  |ok n v2=>grind
  |halt aX aW=>
   simp only[Prod.mk.injEq,Result.halt.injEq]at M;have⟨⟨rfl,rfl⟩,_⟩:=M;exact Xt (Lc ar au (ah.b (fr2:=j p) λ x E=>(List.mem_append.1 E).elim (W p _ rfl x) (ah.a x)) _ aC)
 have U:GS C X Q (j p) cs (B p') cs':=by
  refine aw _ _ _ ⟨rfl,g.b.a O.b,(aF.b O.b).a (x:= .inRangeFunc _) (y:= .inRangeFunc _) aH,?_,trivial,g.e,g.c.a O.b⟩ rfl rfl rfl (λ _=>rfl) O.b;have⟨dd,am,aN,c2,c3,c4⟩:=g.a;refine⟨p.2++dd,p'.2++am,?_,?_,aI.b (c3.a O.b),by grind⟩
  all_goals grind
 rw[J8]at N;generalize aR:(fx dP A ps a b o).runT C.P w #[]=Z at N;obtain⟨Z,ao⟩:=Z;cases Z with
 |halt x w1=>grind
 |ok S w1=>
  simp only at N;generalize aD:(j8 (B S).eval f S.1).runT C.P w1 #[]=ab at N;obtain⟨ab,aP⟩:=ab;cases ab with
  |halt x w3=>grind
  |ok n0 w3=>
   simp only[Prod.mk.injEq,Result.ok.injEq]at N;have⟨⟨⟨rfl,rfl⟩,rfl⟩,rfl⟩:=N;have dec:∀T D,gy dd t T D->∃P ad ae,(fx dP i ps a b c).runT C.Q (v.tp T D) #[]=(.ok p P,ad)/\(j8 (j p).eval f p.1).runT C.Q P #[]=(.ok n (v2.tp T (D+dd)),ae):=λ T D hT=>by
    grind[J8,fx,runT,j8,Prod.mk.injEq,Result.ok.injEq]
   let uL:b2->World:=λ u=>match((fx dP i ps a b c).runT C.Q u #[]).1 with| .ok _ P=>P| .halt _ P=>P
   let esL:b2->Array Event:=λ u=>hP C.Q dP ((fx dP i ps a b c).runT C.Q u #[]).2
   refine Oz (X:=X) (d:=dd) (t:=t) (frL:=j p) (frR:=B S) (cs:=cs) (cs':=cs') (uw:=w1) (uL:=uL) (esL:=esL) (s:=j8 (j p).eval f p.1) (s':=j8 (B S).eval f S.1) (λ T D hT=>?_) aD aJ aK aL O (λ e V=>al e (kL.2 (.inr V))) (hP C.P dP ao) (qv λ e V=>al e (kL.2 (.inl V))) (by grind) (by grind)
    (λ x y E=>U.a ag rfl E) (λ f xs ys hE E=>Ff R U rfl hE E) (λ aS aT f xs ys a b aB E aq K=>G2 R U rfl aB E aq K) (λ T D hT=>?_) ?_
   all_goals grind
theorem ado(N:C.a)(U:X.b){fr fr':ea}{cs cs':List ea}{m1 m2:Bool}(R:cw F β v w)(Q:Hd v)(h:GS C X β fr cs fr' cs')(aq:¬jU X fr cs)(aa:fr.mode= .run):
 oS C X F β v w (dr C.Q m1 (G0 fr cs)) (dr C.P m2 (G0 fr' cs') w):=by
 have ah:=aam (m1:=m1) (m2:=m2) N U R Q h aq aa;have Z:=h.e U.b;have⟨k,k',d,aT,g,ap,aD,aE,aW,aX,aY,ag⟩:=h.d U aq;have av:=g.f.c aa;have au:=g.h;have⟨dP,n,a3,z,a0,A,B⟩:=fr;have⟨aV,r,a4,E,a1,G,H⟩:=fr';subst aa av au;rcases g.g.d with⟨K,O⟩| ⟨x,l,y,m,K,O,W,j⟩
 obtain⟨rfl,rfl⟩:=aD rfl K;subst K O;exact ah none (by simp);subst K O;have I:∀ad ae,TL C β k k' ad ae->∀{al:b2->mZ}{s':mZ},(∀T D,al (v.tp T D)= .go (G0 ⟨dP,n,ad,z,.run,A,B⟩ cs) (v.tp T D))->s'= .go (G0 ⟨dP,r,ae,E,.run,G,H⟩ cs') w->oS C X F β v w al s':=λ ad ae ax al s' Y ak=>
  HB R Q (ag β ⟨dP,n,ad,z,.run,A,B⟩ ⟨dP,r,ae,E,.run,G,H⟩ ⟨rfl,g.b,ax,g.a,trivial,g.e,g.c⟩ rfl rfl rfl (λ _=>rfl) (bF.b _)) Y ak
 have ao:jj β (qO ⟨dP,n,x::l,z,.run,A,B⟩) (qO ⟨dP,r,y::m,E,.run,G,H⟩):=jj.c g.b;cases x<;>cases y<;>first|exact W.elim|skip
 case inBlock.inBlock i ac=>exact I l m j (λ _ _=>rfl) rfl
 case inScope.inScope i ac=>exact I l m j (λ _ _=>rfl) rfl
 case inLoop.inLoop b aS=>
  have⟨rfl,e⟩:=W;exact I _ _ ((j.a (x:= .inLoop b) (y:= .inLoop b) ⟨rfl,e⟩).a (x:= .code b) (y:= .code b) ⟨rfl,e⟩) (λ _ _=>rfl) rfl
 case inRangeFunc.inRangeFunc i ac=>exact vh λ T D=> ⟨_,_,_,by simp only[dr,gk];rfl⟩
 case beginRound.beginRound=>
  have aw:=g.c;cases B with
  |none=>
   refine vh λ T D=>?_;simp[dr,gk,stepG.apply,p6];have:∀(u:b2),((do ew "beginRound: no round";cr Next.skip:dk nb)).runT C.Q u #[]=(.halt (.stuck "beginRound: no round") u,#[]):=λ u=>rfl;exact⟨_,_,_,rfl⟩
  |some q=>
   cases H with
   |none=>exact aw.elim
   |some q'=>
    exact PC (X:=X) (frL:= ⟨dP,n,.beginRound::l,z,.run,A,some q⟩) (frR:= ⟨dP,r,.beginRound::m,E,.run,G,some q'⟩) (cs:=cs) (cs':=cs') (CL (XL aw)) R Q Z (by simp) (by simp)
     (λJ x y L M=>(h.b L).a U rfl M) (λJ f xs ys L hE M=>Ff N (h.b L) rfl hE M) (λJ aJ aK f xs ys a b L aj M af e=>G2 N (h.b L) rfl aj M af e)
 case endRangeFunc.endRangeFunc i ac=>
  have⟨dd,t,q⟩:=(afj (F:=F) (P:=C.P) (fs:=C.c) (β:=β) (l:=i) (l':=ac) W).b R Q;refine⟨dd,t,?_⟩;rcases q with q| ⟨a,v2,a',w2,aU,J,ak,⟨rfl,aM⟩,aN,aO,S,aP,aQ⟩;refine .inl λ T D hT=>?_;have⟨x,v2,es,Y,aZ,aF⟩:=q T D hT;simp only[dr,gk,Y];cases x with
  |panic p=>
   have⟨aA,V⟩:=vN ⟨dP,n,.endRangeFunc i::l,z,.run,A,B⟩ [{v:=p,recovered:=false}];exact .inr ⟨_,_,_,_,aA,rfl,V,aF,Z.b (by rw[Dg];exact Z.a)⟩
  |_=>exact .inl ⟨_,_,_,rfl⟩
  refine .inr ⟨_,_,v2,J,_,_,w2,_,λ T D hT=>?_,by simp only[dr,gk,ak,en];rfl,
   .inl (ag J ⟨dP,n,(a.map P8).toList++l,z,.run,A,B⟩ ⟨dP,r,(a.map P8).toList++m,E,.run,G,H⟩ ⟨rfl,g.b.a S.b,?_,(g.j S.b).a,trivial,g.e,g.c.a S.b⟩ rfl rfl rfl (λ _=>rfl) S.b),aN,aO,S,?_⟩
  have⟨es,Y⟩:=aQ T D hT;exact⟨_,by simp only[dr,gk,Y,en];rfl⟩;cases a with
  |none=>exact j.b S.b
  |some c=>exact(j.b S.b).a (x:= .code c) (y:= .code c) ⟨rfl,(N.a c).symm.trans (aM c rfl)⟩
  rw[kp];exact qv aP
 case inRegion.inRegion ops q a2 q'=>
  have⟨rfl,rfl,e⟩:=W;cases q with
  |nil=>exact I l m j (λ _ _=>rfl) rfl
  |cons i q=>
   have hp:na (Item.inRegion ops (i::q)::l)=true:=rfl;have ar:∀J x y,bF β J->VR J x y->GS C X J (a7 ⟨dP,n,.inRegion ops (i::q)::l,z,.run,A,B⟩ x) cs (a7 ⟨dP,r,.inRegion ops (i::q)::m,E,.run,G,H⟩ y) cs':=
    λJ x y L M=>(h.b L).a U hp M
   have az:=aeq g.b ops;simp only at az;have am:∀u,dr C.Q m1 (G0 ⟨dP,n,.inRegion ops (i::q)::l,z,.run,A,B⟩ cs) u=if((ops[i]?).map (so · (mx ops n))).getD false then k4 C.Q true ⟨dP,n,.inRegion ops (i::q)::l,z,.run,A,B⟩ cs none u else .go (G0 (a7 ⟨dP,n,.inRegion ops (i::q)::l,z,.run,A,B⟩ eg) cs) u:=λ u=>rfl;have an:∀u,dr C.P m2 (G0 ⟨dP,r,.inRegion ops (i::q)::m,E,.run,G,H⟩ cs') u=if((ops[i]?).map (so · (mx ops r))).getD false then k4 C.P true ⟨dP,r,.inRegion ops (i::q)::m,E,.run,G,H⟩ cs' none u else .go (G0 (a7 ⟨dP,r,.inRegion ops (i::q)::m,E,.run,G,H⟩ eg) cs') u:=λ u=>rfl;rw[funext am,an,az];generalize ((ops[i]?).map (so · (mx ops r))).getD false=aR;cases aR with
   |false=>
    simp only[hF,if_false];exact HB R Q (ar β eg eg (bF.b _) (VR.c _)) (λ _ _=>rfl) rfl
   |true=>
    simp only[if_true];cases ab:ops[i]? with
    |none=>
     refine vh λ T D=>?_;unfold k4;simp only[tl,ab];exact⟨_,_,_,rfl⟩
    |some o=>
     have ai:dV C.Q C.P C.n o.op=true:=by
      rw[nf]at e;exact e o (Array.mem_of_getElem? ab)
     have K:∀u,k4 C.Q true ⟨dP,n,.inRegion ops (i::q)::l,z,.run,A,B⟩ cs none u=_:=λ u=>TF C.Q (o:=o) (by simp[tl,ab]) (MI ai);have O:∀u,k4 C.P true ⟨dP,r,.inRegion ops (i::q)::m,E,.run,G,H⟩ cs' none u=_:=λ u=>TF C.P (o:=o) (by simp[tl,ab]) (MI ai);simp only[K,O];exact PC (Xg N.c N.e N.d o ai ao (λ _=>rfl) (λ _=>rfl)) R Q Z (by simp) (by simp) ar (λJ f xs ys L hE M=>Ff N (h.b L) hp hE M) (λJ aJ aK f xs ys a b L aj M af e=>G2 N (h.b L) hp aj M af e)
 case code.code c c'=>
  have⟨rfl,e⟩:=W;cases c with
  |skip=>exact I l m j (λ _ _=>rfl) rfl
  |ret=>exact ah (some .ret) (by simp[cK])
  |refuse s=>exact vh λ T D=> ⟨_,_,_,rfl⟩
  |scope b=>
   simp only[cK]at e;exact I _ _ ((j.a (x:= .inScope b) (y:= .inScope b) rfl).a (x:= .code b) (y:= .code b) ⟨rfl,e⟩) (λ _ _=>rfl) rfl
  |label i=>exact I l m j (λ _ _=>rfl) rfl
  |goto i=>simp[cK]at e
  |seq a b=>
   simp only[cK,ei]at e;exact I _ _ ((j.a (x:= .code b) (y:= .code b) ⟨rfl,e.2⟩).a (x:= .code a) (y:= .code a) ⟨rfl,e.1⟩) (λ _ _=>rfl) rfl
  |block i b=>
   simp only[cK]at e;exact I _ _ ((j.a (x:= .inBlock i) (y:= .inBlock i) rfl).a (x:= .code b) (y:= .code b) ⟨rfl,e⟩) (λ _ _=>rfl) rfl
  |loop b=>
   simp only[cK]at e;exact I _ _ ((j.a (x:= .inLoop b) (y:= .inLoop b) ⟨rfl,e⟩).a (x:= .code b) (y:= .code b) ⟨rfl,e⟩) (λ _ _=>rfl) rfl
  |cond c a b=>
   simp only[cK,ei]at e;have V:=ao c e.1.1;cases ay:qO ⟨dP,n,.code (.cond c a b)::l,z,.run,A,B⟩ c with
   |bool t=>
    rw[ay]at V;cases aG:qO ⟨dP,r,.code (.cond c a b)::m,E,.run,G,H⟩ c<;>rw[aG]at V<;>cases V
    cases t with
    |true=>exact I _ _ (j.a (x:= .code a) (y:= .code a) ⟨rfl,e.1.2⟩) (λ _ _=>by simp only[dr,gk,ay,if_true]) (by grind[dr,gk])
    |false=>exact I _ _ (j.a (x:= .code b) (y:= .code b) ⟨rfl,e.2⟩) (λ _ _=>by grind[dr,gk,hF]) (by grind[dr,gk,hF])
   |_=>grind[vh,dr,gk]
  |exit id=>
   rcases j.e aE id with⟨l',K,m',O,ax⟩| ⟨K,O⟩
   grind[dr,gk]
   rcases ap with ap| ⟨_,aH⟩;simp_all[vh,dr,gk,p6];have:=ah (some (.exit id)) (by grind);unfold xb at this;have am:∀u,dr C.Q m1 (G0 ⟨dP,n,.code (.exit id)::l,z,.run,A,B⟩ cs) u=xb C.Q m1 ⟨dP,n,.code (.exit id)::l,z,.run,A,B⟩ cs u (some (.exit id)):=λ u=>by
    simp only[dr,gk,K,p6];rfl
   have an:dr C.P m2 (G0 ⟨dP,r,.code (.exit id)::m,E,.run,G,H⟩ cs') w=xb C.P m2 ⟨dP,r,.code (.exit id)::m,E,.run,G,H⟩ cs' w (some (.exit id)):=by
    simp only[dr,gk,O aH,p6];rfl
   grind
  |region id ops aB=>
   cases aB with
   |false=>exact I _ _ (j.a (x:= .inRegion _ _) (y:= .inRegion _ _) ⟨rfl,rfl,e⟩) (λ _ _=>rfl) rfl
   |true=>
    have aL:(Question.order dP id).forced=false:=rfl;refine⟨1,λ _=>w.tape w.drawn,.inr ⟨⟨dP,n,.inRegion ops (zr (C.P.follows .mixedOrders) ops (w.tape w.drawn (.order dP id)))::l,z,.run,A,B⟩,cs,v,β,⟨dP,r,.inRegion ops (zr (C.P.follows .mixedOrders) ops (w.tape w.drawn (.order dP id)))::m,E,.run,G,H⟩,cs',{w with drawn:=w.drawn+1},#[],λ T D hT=>?_,?_,.inl (ag β _ _ ⟨rfl,g.b,j.a (x:= .inRegion ops _) (y:= .inRegion ops _) ⟨rfl,rfl,e⟩,g.a,trivial,g.e,g.c⟩ rfl rfl rfl (λ _=>rfl) (bF.b _)),R.g rfl rfl,Q,.i rfl rfl rfl rfl rfl,by simp⟩⟩;have aC:T D=w.tape w.drawn:=by simpa using hT 0 (by omega)
    simp only[dr,gk,choose,et,aL,Bool.not_true,hF,if_false,World.tp,aC];exact⟨_,rfl⟩;rfl
  |rangeFunc f ps a b=>exact abq N U R Q h g j (by omega) e
end
section
variable{F:Nat->Bool}{C:dC}{X:cS}{β:ah}{v w:World}
variable{P:Program}{fs:Array Func}
theorem afW{x c}(h:VR β x c):RS F (lp P fs) P AR β (hJ x) (hJ c):=by cases h with
 |dc b=>rename_i a a';cases a<;>cases a'<;>first|exact b.elim|exact aN|exact .ak b|exact .gp (nE .nilDeref)
 |_=>exact aN
theorem Lz{b:Type}{f f'}:∀(l:List b){β:ah},(∀i a,bF β a->RS F (lp P fs) P VR a (f i) (f' i))->RS F (lp P fs) P LV β (l.mapM f) (l.mapM f')
 | [],β,_=>by exact .ak trivial|i::l,β,h=>by simp[tc];refine bK (h i _ (bF.b _)) λn x k c g=>bK (Lz l λ i a e=>h i _ (c.a e)) λo y m d j=> .ak ⟨g.a d,j⟩
theorem Vu(fn){xs ys}(h:AV β xs ys):RS F (lp P fs) P VR β (jA fn xs) (jA fn ys):=by
 unfold jA;rw[pk,pk];have key:∀(i:ResultVar)f,bF β f->RS F (lp P fs) P VR f (match i with| .tmp t=>cr (xs.getD t eg)| .cell a t=>do oj t (<-hJ (xs.getD a eg))) (match i with| .tmp t=>cr (ys.getD t eg)| .cell a t=>do oj t (<-hJ (ys.getD a eg))):=by intro i f c;cases i with|tmp t=>exact .ak ((h.a c).k t (VR.c _))|cell a t=>exact bK (afW ((h.a c).k a (VR.c _))) λg p p' _ hp=>QA t hp
 refine bK (bK (Lz fn.results.toList key) λg l l' j c=> .ak (A:=λβ(a b:Array df)=>AV β a b) c.e) λg l l' j c=>?_;by_cases e:l.size=1;have d:l'.size=1:=c.1▸e;exact .ak (c.2 0 _ _ (by grind) (by grind));rw[dif_neg e,dif_neg (c.1▸e)];exact .ak (VR.b c)
theorem Wr(al:C.a)(H:X.b){fr fr':ea}{cs cs':List ea}{m1 m2:Bool}(O:cw F β v w)(I:Hd v)(h:GS C X β fr cs fr' cs')(W:¬jU X fr cs)(p:fr.mode= .returning):
 oS C X F β v w (dr C.Q m1 (G0 fr cs)) (dr C.P m2 (G0 fr' cs') w):=by
 have⟨k,k',d,R,g,aw,ax,ay,az,U,V,Z⟩:=h.d H W;have M:=g.f.a p;have K:=g.h;have L:=g.e;have⟨dP,ag,ai,aq,aC,s,Q⟩:=fr;have⟨av,ah,aj,au,aD,aB,ae⟩:=fr';subst p M K L;show oS C X F _ v w (λ u=>hM _ _ _ _ _ u) (hM _ _ _ _ _ w);have⟨dd,e,f,c2,c3,c4⟩:=g.a;cases dd with
 |cons x dd=>
  cases e with
  |nil=>trivial
  |cons ak e=>
   have⟨q,N⟩:=c4 x (by simp);have⟨aE,am⟩:=x;have⟨af,an⟩:=ak;subst N;have J:=c3.1.1;cases af<;>first|exact J.elim|skip
   rename_i q';subst f c2;have⟨n,t,z⟩:=(adb (F:=F) (P:=C.P) (fs:=C.c) (β:=β) (l:=q) (l':=q') J).b O I;refine⟨n,t,?_⟩;simp only[hM,F0];rcases z with z| ⟨a,v2,a',w2,S,o,m,⟨rfl,rfl⟩,y,A,b,B,ad⟩
   refine .inl λ T D hT=>?_;have⟨x,v2,es,j,_,_⟩:=z T D hT;exact .inl ⟨_,_,_,by simp only[j,en];rfl⟩;refine .inr ⟨⟨dP,ag,ai,dd++d,.returning,s,Q⟩,cs,v2,o,⟨dP,ah,aj,e++R,.returning,s,ae⟩,cs',w2,_,λ T D hT=>?_,by simp only[m,en,Lt];rfl,
    .inl (Z o _ _ ⟨rfl,g.b.a b.b,g.g.b b.b,⟨dd,e,rfl,rfl,c3.2.a b.b,λ x aA=>c4 x (by grind)⟩,trivial,rfl,g.c.a b.b⟩ rfl rfl rfl (λ i=>?_) b.b),y,A,b,?_⟩
   simp_all[en,Lt];exact absurd ((V i).1.2.2 i) (by simp);exact qv B
 |nil=>
  cases e with
  |cons _ _=>trivial
  |nil=>
   obtain⟨rfl,rfl,r,c,ao,c',ap,rfl,rfl,hp,Y⟩:=U rfl f;subst f c2;have aa:s= .normal:=r.1;subst aa;have ab:Q=none:=q9 λ i=>by
    have:=r.2.2 i;trivial
   have⟨fn,E,G⟩:=r.2.1 ab;have⟨n,t,z⟩:=(Vu (F:=F) (P:=C.P) (fs:=C.c) fn g.b).b O I;refine⟨n,t,?_⟩;simp only[hM,E,G];rcases z with z| ⟨a,v2,a',w2,S,o,m,ac,y,A,b,B,ad⟩
   refine .inl λ T D hT=>?_;have⟨x,v2,es,j,_,_⟩:=z T D hT;rw[j];cases x<;>exact .inl ⟨_,_,_,rfl⟩
   simp only at m;refine .inr ⟨_,_,v2,o,_,_,w2,_,λ T D hT=>?_,by simp only[m,mv,en];rfl,.inl ((Y.b b.b).a H hp ac),y,A,b,?_⟩;simp_all[mv,en];exact qv B
theorem JY(b:C.a)(d:X.b){fr fr' cs cs'}(m1 m2)(i:cw F β v w)(f:Hd v)(h:GS C X β fr cs fr' cs')(c:¬jU X fr cs):oS C X F β v w (dr C.Q m1 (G0 fr cs)) (dr C.P m2 (G0 fr' cs') w):=by
 have a:MR fr.mode fr'.mode:=by cases h with|jE g _=>exact g.f|up g _ _ _=>exact g.f
 obtain⟨e,_⟩| ⟨e,_⟩:=a.b;all_goals simp_all[ado,Wr]
end
end
section
variable{P:Program}{fs:Array Func}{n:Nat}{G G':Gl}
theorem abD(t):(lp P fs).info? t=P.info? t:=rfl
theorem xC(t):(lp P fs).underlying t=P.underlying t:=rfl
theorem ae6(t):(lp P fs).underlyingId t=P.underlyingId t:=rfl
theorem IL:(lp P fs).depth=P.depth:=rfl
theorem Mf:∀n t u,(lp P fs).alikeButTags n t u=P.alikeButTags n t u|0,t,u=>by rfl|n+1,t,u=>by have e:∀t u,(lp P fs).alikeButTags n t u=P.alikeButTags n t u:=Mf n;simp_all[Program.alikeButTags,abD,xC]
theorem ahY(t):(lp P fs).stoodInAs t=P.stoodInAs t:=by grind[Program.stoodInAs,Mf,ae6,xC,IL]
theorem Rp(t):(lp P fs).stoodInHeld t=P.stoodInHeld t:=by grind[Program.stoodInHeld,ahY]
theorem Jf:∀n t,(lp P fs).eqGuardType n t=P.eqGuardType n t|0,t=>by rfl|n+1,t=>by have e:∀t,(lp P fs).eqGuardType n t=P.eqGuardType n t:=Jf n;grind[Program.eqGuardType,xC]
theorem FB:∀n t,ik (lp P fs) P n t=ik P P n t|0,t=>rfl|n+1,t=>by have e:∀t,ik (lp P fs) P n t=ik P P n t:=FB n;grind[ik,Rp]
theorem agv(op)(t):qh (lp P fs) P n op t=qh P P n op t:=by simp_all[qh,FB,Jf,IL]
theorem afK(t):nq (lp P fs) P n t=nq P P n t:=by grind[nq,FB]
theorem GV[ck][Gl](o):dV (lp P fs) P n o=dV P P n o:=by simp_all[dV,agv,afK]
theorem jG[ck][Gl]:∀c,cK (lp P fs) P n c=cK P P n c| .skip| .exit _| .ret| .refuse _=>by rfl| .region _ ops _=>by grind[cK,GV]| .seq a b=>by simp[cK,jG a,jG b]| .cond c a b=>by simp[cK,jG a,jG b]| .block _ b| .loop b| .scope b=>by simp[cK,jG b]| .rangeFunc f _ a b=>by simp[cK,jG a,jG b]| .label _| .goto _=>by rfl
theorem Gj:∀n t,ik (lp P fs) (lp P fs) n t=ik P P n t|0,t=>rfl|n+1,t=>by have e:∀t,ik (lp P fs) (lp P fs) n t=ik P P n t:=Gj n;grind[ik,Rp,xC]
theorem aeL(op)(t):qh (lp P fs) (lp P fs) n op t=qh P P n op t:=by simp_all[qh,Gj,Jf,IL,xC]
theorem ait(t):nq (lp P fs) (lp P fs) n t=nq P P n t:=by grind[nq,Gj,xC]
theorem Vd(s d):yH (lp P fs) s d=yH P s d:=by rfl
theorem ajk(b)(l):xv (lp P fs) b l=xv P b l:=by rfl
theorem aop[ck](name):abM (lp P fs) name=abM P name:=rfl
theorem M8[ck][Gl](o):dV (lp P fs) (lp P fs) n o=dV P P n o:=by simp_all[dV,aeL,ait,Vd,ajk,aop]
theorem oY[ck][Gl]:∀c,cK (lp P fs) (lp P fs) n c=cK P P n c| .skip| .exit _| .ret| .refuse _=>by rfl| .region _ ops _=>by grind[cK,M8]| .seq a b=>by simp[cK,oY a,oY b]| .cond c a b=>by simp[cK,oY a,oY b]| .block _ b| .loop b| .scope b=>by simp[cK,oY b]| .rangeFunc f _ a b=>by simp[cK,oY a,oY b]| .label _| .goto _=>by rfl
theorem HF[ck](h:∀g,G.a g=true->G'.a g=true)(o)(a: @dq _ G o=true): @dq _ G' o=true:=by cases o<;>first|exact a|exact h _ a
theorem aay[ck](h:∀g,G.a g=true->G'.a g=true){Q}(o)(d: @dV _ G Q P n o=true): @dV _ G' Q P n o=true:=by
 have m:=HF h;have e:∀xs:Array hG,xs.all (@dq _ G)=true->xs.all (@dq _ G')=true:=λ xs i=>by
  grind
 have q:∀x:Option hG,x.all (@dq _ G)=true->x.all (@dq _ G')=true:=λ x i=>by
  cases x with
  |none=>rfl
  |some a=>grind
 have mp:∀xs:Array (Nat×hG),(xs.all λ p=> @dq _ G p.2)=true->(xs.all λ p=> @dq _ G' p.2)=true:=λ xs i=>by
  grind
 cases o;case call c=>
  have⟨callee,args,j⟩:=c;cases callee with
  |value f=>cases f<;>(simp only[dV,ei]at d⊢;first|exact⟨d.1,e _ d.2⟩|exact⟨m _ d.1,e _ d.2⟩)
  |builtin b=>grind[dV]
  |invoke _ _=>simp only[dV,ei]at d⊢;exact⟨⟨d.1.1,m _ d.1.2⟩,e _ d.2⟩
 case makeFunc fn first k=>
  cases fn<;>first|exact d| (simp only[dV,ei]at d⊢;exact⟨⟨d.1.1,e _ d.1.2⟩,e _ d.2⟩)
 case slice t x lo l s=>
  grind[dV]
 case makeMap t r=>cases r<;>exact d
 all_goals first
  |exact d
  |exact m _ d
  |exact mp _ d
  | (
   simp[dV,ei]at d⊢
   first
    |exact⟨m _ d.1,m _ d.2⟩
    |exact⟨⟨m _ d.1.1,m _ d.1.2⟩,m _ d.2⟩
    |exact⟨⟨m _ d.1.1,m _ d.1.2⟩,d.2⟩
    |exact⟨m _ d.1,d.2⟩
    |exact⟨⟨⟨m _ d.1.1.1,m _ d.1.1.2⟩,m _ d.1.2⟩,d.2⟩)
theorem sU[ck](h:∀g,G.a g=true->G'.a g=true){Q}:∀c,@cK _ G Q P n c=true-> @cK _ G' Q P n c=true| .skip,_| .exit _,_| .ret,_| .refuse _,_| .label _,_=>rfl| .region _ ops _,d=>by grind[cK,nf,aay]| .seq a b,d=>by simp[cK,ei]at d⊢;exact⟨sU h a d.1,sU h b d.2⟩| .cond c a b,d=>by simp[cK,ei]at d⊢;exact⟨⟨HF h c d.1.1,sU h a d.1.2⟩,sU h b d.2⟩| .block _ b,d| .loop b,d| .scope b,d=>by exact sU h b d| .rangeFunc f _ a b,d=>by simp[cK,ei]at d⊢;exact⟨⟨HF h f d.1.1,sU h a d.1.2⟩,sU h b d.2⟩| .goto _,d=>by trivial
end
section
variable[aW][ck][Gl]
section
variable{F:Nat->Bool}{P:Program}{fs:Array Func}{β:ah}
variable{xs ys:Array Value}{e:Array Value->Sem Value}
theorem IQ{f fn}(h:fs[f]?=some fn)(a:P.funcs[f]?=some fn)(d:(fn.name== "runtime.NumGoroutine")=false)(b:fn.body.isNone=true)(h1:Extern.findNext fn=none)(h2:Extern.find fn=some e)(c:∀F β xs ys,AV β xs ys->RS F (lp P fs) P VR β (e xs) (e ys)):wa P fs f:=by intro F E β xs ys g;refine mc ?_;rw[h,a];simp[d,b,h1,h2,hF,if_false,if_true];exact .vc (by grind) (fO (c F _ _ _ g))
theorem Kc:∀n{β:ah}{a a':eo}(b:ByteArray),AR β a a'->RS F (lp P fs) P cW β (re a n b) (re a' n b)
 |0,β,a,a',b,h=> .ak rfl|n+1,β,a,a',b,h=>by unfold re;refine .ti h λ x d c=>?_;cases c with
  |cx k m=>cases k<;>first|exact aN|exact Kc n _ ⟨h.1,by show a.off+1=a'.off+1;rw[h.2.1],rfl⟩
  |_=>exact aN
theorem Cd{x b}(h:VR β x b):RS F (lp P fs) P cW β (x1 x) (x1 b):=by cases h with
 |eI s=>exact .ak rfl| @dz a a' d n c=>cases a with
  |none=>cases a' with|none=>exact .ak rfl|some _=>trivial
  |some a=>cases a' with|none=>trivial|some a'=>exact Kc n _ d
 |ez a'=>exact .ak rfl|_=>exact aN
theorem O9{x a}(h:VR β x a):RS F (lp P fs) P cW β (ym x) (ym a):=by cases h with
 |cx k m=>cases k<;>first|exact aN|exact .ak rfl
 |_=>exact aN
theorem Jl(h:AV β xs ys):(∃a b a' d,xs= #[a,b]/\ys= #[a',d]/\VR β a a'/\VR β b d)\/(xs.toList.length≠2):=by
 have c:=h.g;have⟨l⟩:=xs;have⟨m⟩:=ys
 match l,m,c with
 | [a,b],[a',d],c=>exact .inl ⟨a,b,_,_,rfl,rfl,c.1,c.2.1⟩| [],_,_=>simp| [_],_,_=>simp|_::_::_::_,_,_=>simp
theorem JG(h3:∀a b c,∃why,∀l,e ⟨a::b::c::l⟩=ew why)(h1:∀a,∃why,e #[a]=ew why)(h0:∃why,e #[]=ew why)(d:xs.toList.length≠2):∃why,e xs=ew why:=by
 have⟨l⟩:=xs
 match l,d with
 | [],_=>omega| [a],_=>simp_all| [_,_],h=>trivial|a::b::c::l,_=>have⟨why,e⟩:=h3 a b c;grind
theorem YV(h:AV β xs ys):RS F (lp P fs) P VR β (q7 xs) (q7 ys):=by
 rcases Jl h with⟨a,b,a',j,rfl,rfl,d,f⟩|i;refine bc (Cd d) λl s g=>?_;refine bc (O9 (f.a g)) λm c k=>?_;exact .ak (.cx _ _);obtain⟨why,e⟩:=JG (e:=q7) (λ _ _ _=> ⟨_,λ _=>rfl⟩) (λ _=> ⟨_,rfl⟩) ⟨_,rfl⟩ i
 grind[aN]
theorem aan(h:AV β xs ys):RS F (lp P fs) P VR β (q6 xs) (q6 ys):=by
 rcases Jl h with⟨a,b,a',k,rfl,rfl,d,f⟩|j;refine bc (Cd d) λm s g=>?_;refine bc (O9 (f.a g)) λn c l=>?_;cases P9 (λ i=>s[i]! ==c) (vL s.size)<;>exact .ak (.cx _ _)
 obtain⟨why,e⟩:=JG (e:=q6) (λ _ _ _=> ⟨_,λ _=>rfl⟩) (λ _=> ⟨_,rfl⟩) ⟨_,rfl⟩ j
 grind[aN]
theorem aex(c:∀g,g<P.globals.size->Gl.a g=true):RS F (lp P fs) P cW β w6 Extern.BytealgIndex.maxLen:=by
 unfold w6;refine bK (A:=λβ a a'=>AR β a a') ?_ λi a a' f b=>?_;refine mc ?_;cases d:P.globals.findIdx? _ with
 |none=>exact aN
 |some g=>exact .ak ⟨β.c g (c g (Array.findIdx?_eq_some_iff_getElem.1 d).1),rfl,rfl⟩
 refine .ti b λ x h e=>?_;cases e with
 |cx k m=>exact .ak rfl
 | @dc a a' b=>cases a<;>cases a'<;>first|exact b.elim|exact db|exact aN
 |_=>first|exact aN|exact db
theorem aby(l:∀g,g<P.globals.size->Gl.a g=true)(h:AV β xs ys):RS F (lp P fs) P VR β (q8 xs) (q8 ys):=by rcases Jl h with⟨a,b,a',o,rfl,rfl,f,j⟩|n;refine bc (Cd f) λr s m=>?_;refine bc (Cd (j.a m)) λt c p=>?_;refine bc (aex l) λu k q=>?_;by_cases hp:(decide (c.size<2)||decide ((c.size:Int)>k))=true;simp[hp,if_true];exact db;simp[hp];by_cases d:s.size>=2^32- 15;simp[d,if_true];exact db;simp[d,if_false];cases P9 (λ i=>s.extract i (i+c.size)==c) (vL (s.size+1- c.size))<;>exact .ak (.cx _ _);have⟨why,e⟩:=JG (e:=q8) (λ _ _ _=> ⟨_,λ _=>rfl⟩) (λ _=> ⟨_,rfl⟩) ⟨_,rfl⟩ n;grind[aN]
end
end
section
variable{g:Goroutine}
structure ai where
 a:Nat->Prop
 b:Nat->Prop
structure bO(p:ai)(w w':b2):Prop where
 b:w.heap.size<=w'.heap.size
 e:∀a,p.a a->w'.heap[a]?=w.heap[a]?
 i:w'.os=w.os
 f:w'.output=w.output
 h:w'.tape=w.tape
theorem bO.c(p)(w):bO p w w:= ⟨fz _,λ _ _=>rfl,rfl,rfl,rfl⟩
theorem bO.d{p a b c}(h:bO p a b)(k:bO p b c):bO p a c:= ⟨gl h.b k.b,λ x d=>(k.e x d).trans (h.e x d),k.i.trans h.i,k.f.trans h.f,k.h.trans h.h⟩
def iF(p:ai)(e:hN):Prop:=match e.loc with| .cell a=>p.a a.block/\(e.write=true->p.b a.block)/\e.sync=false| .obj n=>p.a n/\(e.write=true->p.b n)/\e.sync=false| .mark m=>m= .noRoom\/∃f,m= .extern f|_=>False
structure ey(p p':ai)(w w':b2)(es:Array hN):Prop where
 b:w.heap.size<=w'.heap.size
 f:∀a,a<w.heap.size->¬p.b a->w'.heap[a]?=w.heap[a]?
 i:∀a,p'.a a->p.a a\/(w.heap.size<=a/\a<w'.heap.size)
 k:∀a,p'.b a->p.b a\/(w.heap.size<=a/\a<w'.heap.size)
 j:∀a,p.a a->p'.a a
 o:∀a,p.b a->p'.b a
 n:∀a,¬p.b a->p'.b a->p'.a a
 d:∀e∈es,iF p' e
 m:w'.os=w.os
 c:w'.output=w.output
 h:w'.tape=w.tape
inductive dI:Type where|eM|mk (f:b2->dI)
inductive dI.a:dI->dI->Prop|mk (f:b2->dI) (w:b2):dI.a (f w) (.mk f)
theorem dI.b:WellFounded dI.a:=by
 constructor;intro r
 induction r with|eM=>exact⟨_,λ y h=>by cases h⟩|mk f a=>exact⟨_,λ y h=>by cases h with|mk _ w=>grind⟩
def du(P:ef)(main:Bool)(Stop:ai->eb->b2->Prop):dI->ai->eb->b2->Prop| .eM,p,g,w=>∀w1,bO p w w1->Stop p g w1| .mk f,p,g,w=>(∀w1,bO p w w1->Stop p g w1)\/(g.status= .running/\∀w1,bO p w w1->∃g' w' es p',dr P main g w1= .go g' w' es/\g'.status= .running/\ey p p' w1 w' es/\du P main Stop (f w1) p' g' w')
section
variable{P:Program}{main:Bool}{Stop Stop':ai->Goroutine->World->Prop}
theorem du.c{r p w w1}(h:du P main Stop r p g w)(b:bO p w w1):du P main Stop r p g w1:=by cases r with|eM=>exact λ w2 a=>h _ (b.d a)|mk f=>
 obtain h| ⟨c,h⟩:=h;exact .inl λ w2 a=>h _ (b.d a);exact .inr ⟨c,λ w2 a=>h _ (b.d a)⟩
theorem du.a(i:∀p g w,Stop p g w->Stop' p g w):∀{r:dI}{p:ai}{g:eb}{w:b2},du P main Stop r p g w->du P main Stop' r p g w| .eM,_,_,_,h=>λ w1 e=>i _ _ _ (h w1 e)| .mk f,_,_,_,h=>h.imp (λ h w1 e=>i _ _ _ (h w1 e)) λ⟨j,h⟩=> ⟨j,λ w1 e=>let⟨g',w',es,p',a,b,c,d⟩:=h w1 e; ⟨g',w',es,p',a,b,c,du.a i d⟩⟩
theorem du.b{p g w}(b:g.status= .running)(h:∀w1,bO p w w1->∃g' w' es p' r,dr P main g w1= .go g' w' es/\g'.status= .running/\ey p p' w1 w' es/\du P main Stop r p' g' w'):∃r,du P main Stop r p g w:=by classical
 let f:b2->dI:=λ w1=>if a:bO p w w1 then(h w1 a).choose_spec.choose_spec.choose_spec.choose_spec.choose else .eM;refine⟨.mk f,.inr ⟨b,λ w1 a=>?_⟩⟩;grind
theorem du.f:∀{r:dI}{p:ai}{g:eb}{w:b2},du P main Stop r p g w->(∀p g w,Stop p g w->∃r,du P main Stop' r p g w)->(∀p g w,Stop p g w->g.status= .running)->∃r,du P main Stop' r p g w:=by
 intro r;have one:∀{p:ai}{g:eb}{w:b2},(∀w1,bO p w w1->Stop p g w1)->(∀p g w,Stop p g w->∃r,du P main Stop' r p g w)->∃r,du P main Stop' r p g w:=λ h k=>k _ _ _ (h _ (bO.c _ _))
 induction r with|eM=>exact λ h k _=>one h k|mk f m=>
  intro p g w h k i;obtain h| ⟨l,h⟩:=h
  simp_all;refine du.b l λ w1 e=>?_;obtain⟨g',w',es,p',a,b,c,d⟩:=h w1 e;obtain⟨r,j⟩:=m w1 d k i;exact⟨g',w',es,p',r,a,b,c,j⟩
end
end
section
variable[aW][ck][Gl]
variable{Q:Program}{gr:Frame}{cs:List Frame}{v:World}{X:cS}
def E9(X:cS)(gr:ea)(cs:List ea)(v:b2):=(∃a,gr.mode= .panicking a)/\Hd v/\(DS X gr cs\/(gr.defers= [{target:= .coroexit 0,args:= #[]}]/\cs= []))
theorem gG{s}(c:dr Q true (G0 gr cs) v=s):(∀o u es,s= .ended o u es->∃o u,hv Q (ee gr cs v)= .ended o u)/\(∀b a v2 es,s= .go (G0 b a) v2 es->hv Q (ee gr cs v)= .next (ee b a v2)):=by refine⟨λ o u es e=> ⟨o,u,step_lone_ended (by simp_all)⟩,λ b a v2 es e=>step_lone_go (by simp_all)⟩
theorem acm(C:X.b)(h:E9 X gr cs v):(∃o u,hv Q (ee gr cs v)= .ended o u)\/∃m b v2,hv Q (ee gr cs v)= .next (ee m b v2)/\E9 X m b v2:=by
 have⟨⟨d,y⟩,s,f⟩:=h;have⟨fn,i,j,p,H,kind,g⟩:=gr;subst y;obtain f| ⟨f,rfl⟩:=f
 cases p with
 |cons x p=>
  obtain⟨r,z⟩:=f.a x (by simp);obtain⟨I,t⟩:=x;subst z;have e:dr Q true (G0 ⟨fn,i,j,{target:= .collected r,args:=t}::p,.panicking d,kind,g⟩ cs) v=hM Q true ⟨fn,i,j,{target:= .collected r,args:=t}::p,.panicking d,kind,g⟩ cs none v:=rfl;simp only[hM]at e;generalize E:(np r).runT Q v #[]=q at e;obtain⟨q,es⟩:=q;cases q with
  |halt x u=>exact .inl ((gG e).1 _ _ _ rfl)
  |ok A u=>
   refine .inr ⟨_,_,_,(gG e).2 _ _ _ _ rfl,⟨_,rfl⟩,?_,.inl (f.b ?_)⟩
   all_goals
    have a:(np r).run Q v= .ok A u:=by rw[<-qc Q _ v #[],E]
    unfold np at a;change(tm r _).run Q v=_ at a;simp only[et]at a;cases k:v.heap[r]? with
    |none=>rw[k]at a;cases a
    |some o=>
     rw[k]at a;cases o<;>first| (cases a;done)|skip
     rename_i l;cases l with
     |none=>cases a
     |some l=>
      have D:=(s r _ k).1 l rfl;subst D;change(Sem.setObj r _ _).run Q v=_ at a;simp only[et,k]at a;cases a
      first
       |exact s.d ⟨λ l e=>(by cases e),rfl⟩
       |exact λ x F=>f.a x (List.mem_cons_of_mem _ (by simpa using F))
 |nil=>
  have e:dr Q true (G0 ⟨fn,i,j,[],.panicking d,kind,g⟩ cs) v=hM Q true ⟨fn,i,j,[],.panicking d,kind,g⟩ cs none v:=rfl;simp only[hM]at e;split at e;exact .inl ((gG e).1 _ _ _ rfl);have up:∀c b,(DS X c b\/(c.defers= [{target:= .coroexit 0,args:= #[]}]/\b= []))->cs=c::b->(∃o u,hv Q (ee ⟨fn,i,j,[],.panicking d,kind,g⟩ cs v)= .ended o u)\/∃m b v2,hv Q (ee ⟨fn,i,j,[],.panicking d,kind,g⟩ cs v)= .next (ee m b v2)/\E9 X m b v2:=by
   intro c b n B;subst B;obtain⟨G,w⟩:=vN c d;refine .inr ⟨_,_,_,(gG e).2 _ _ _ _ rfl,⟨_,w⟩,s,n.imp (λ n=>n.b (by rw[Dg];exact n.a)) λ n=>by grind[Dg]⟩
  cases f with
  |yS _=>exact up _ _ (.inr ⟨rfl,rfl⟩) C.a
  |up _ w=>grind
 simp only at f;subst f;have e:dr Q true (G0 ⟨fn,i,j,[{target:= .coroexit 0,args:= #[]}],.panicking d,kind,g⟩ []) v= .coroswitch (G0 ⟨fn,i,j,[],.panicking d,kind,g⟩ []) 0 true v (hP Q fn #[]++ #[]):=rfl;left;rw[hv,stepT,move_lone];cases k:v.heap[0]? with
 |none=>simp_all[runT,ee,qW]
 |some o=>
  have:=(s 0 o k).2;cases o<;>first| (simp[runT,ee,qW,e,k];done)| (exfalso;cases this;done)
theorem J6(f:X.b):∀n{gr:ea}{cs:List ea}{v:b2},E9 X gr cs v->∀{a:ea}{b:List ea}{c:b2},eQ Q n (ee gr cs v)= .next (ee a b c)->∃d,a.mode= .panicking d:=by
 intro n
 induction n with|zero=>
  intro gr cs v h a b c e;simp[eQ,Stepped.next.injEq]at e;have:gr=a:=by grind[ee]
  subst this;exact h.1|succ n k=>intro gr cs v h a b c e;simp[eQ]at e;rcases acm (Q:=Q) f h with⟨o,u,q⟩| ⟨i,g,v2,q,j⟩;all_goals grind
theorem agL{α:Type}{r x}(h:¬Acc r x):∃f:Nat->α,f 0=x/\∀n,r (f (n+1)) (f n):=by classical
 have step:∀y:{y:α//¬Acc r y},∃z:{y:α//¬Acc r y},r z.1 y.1:=by intro y;apply rm;intro a;exact y.2 ⟨_,λ z b=>rm λ c=>a (by simp_all)⟩
 let g:Nat->{y:α//¬Acc r y}:=λ n=>Nat.rec ⟨x,h⟩ (λ _ y=>(step y).choose) n;exact⟨λ n=>(g n).1,rfl,by grind⟩
structure ajL where
 a:ea
 b:List ea
 v:b2
 f:ah
 c:ea
 d:List ea
 w:b2
 D:Nat
 h:Nat->hA->Nat
def iJ(Q:ef)(X:cS)(R:ea->b2->Prop)(D:Nat)(h:Nat->hA->Nat)(fr:ea)(cs:List ea)(v:b2):=∀T,gy D h T 0->∃n a b,eQ Q n (ee fr cs (v.tp T D))= .next (ee a X.c b)/\jU X a X.c/\R a b
structure tQ(C:dC)(X:cS)(F:Nat->Bool)(R:ea->b2->Prop)(k:ajL):Prop where
 d:GS C X k.f k.a k.b k.c k.d
 b:cw F k.f k.v k.w
 c:Hd k.v
 a:iJ C.Q X R k.D k.h k.a k.b k.v
structure ajM where
 b:ea
 a:List ea
 v:b2
 D:Nat
 h:Nat->hA->Nat
def ajL.e(k:ajL):ajM:= ⟨k.a,k.b,k.v,k.D,k.h⟩
def iu(D:Nat)(h t:Nat->hA->Nat):=λ j=>if j<D then h j else t (j- D)
theorem rP{D d h t T}(hT:gy (D+d) (iu D h t) T 0):gy D h T 0/\gy d t T D:=by refine⟨λ j a=>?_,λ j a=>?_⟩;rw[hT j (by omega)];simp[iu,a];have:=hT (D+j) (by omega);rw[vj]at this;rw[this];show(if D+j<D then h _ else t _)=t j;grind
def lM(Q:ef)(X:cS)(R:ea->b2->Prop)(k' k:ajM):=iJ Q X R k'.D k'.h k'.b k'.a k'.v/\¬jU X k.b k.a/\∃d t,(∀T D,gy d t T D->∃es,dr Q true (G0 k.b k.a) (k.v.tp T D)= .go (G0 k'.b k'.a) (k'.v.tp T (D+d)) es)/\k'.D=k.D+d/\k'.h=iu k.D k.h t
inductive kY(Q:ef)(X:cS)(R:ea->b2->Prop):ajM->ajM->Prop|ni (a:ajM):kY Q X R a a|mf {a b c:ajM} (h:lM Q X R a b) (k:kY Q X R b c):kY Q X R a c
theorem kY.a{X R a b c}(h:kY Q X R a b)(k:kY Q X R b c):kY Q X R a c:=by induction h with|ni a=>exact k|mf h _ d=>exact .mf h (d k)
def mI(Q:ef)(X:cS)(R:ea->b2->Prop)(a c:ajM):=∃b,kY Q X R a b/\lM Q X R b c
theorem Up{X R x y c}(a:lM Q X R x y)(f:kY Q X R y c):mI Q X R x c:=by induction f generalizing x with|ni _=>exact⟨x,.ni _,a⟩|mf e h g=>have⟨n,b,d⟩:=g e;exact⟨n,(kY.mf a (.ni _)).a b,d⟩
theorem mI.a{X R a b c}(h:mI Q X R a b)(k:kY Q X R b c):mI Q X R a c:=have⟨m,f,g⟩:=h;have⟨n,d,e⟩:=Up g k;⟨n,f.a d,e⟩
section
variable{C:dC}{X:cS}{F:Nat->Bool}{R:Frame->World->Prop}
theorem kt{fr b cs a v u}(h:ee fr cs v=ee b a u):fr=b/\cs=a/\v=u:=by grind[ee]
theorem HV(B:X.b){k}(E:iJ Q X R k.D k.h k.b k.a k.v):Acc (lM Q X R) k:=by classical
 apply rm;intro p;have⟨f,v,c⟩:=agL p;have x:∀n,(f n).D<=(f (n+1)).D:=λ n=>by
  have⟨_,_,d,t,_,a,_⟩:=c n;omega
 have y:∀m n,m<=n->(f m).D<=(f n).D:=λ m n e=>by
  induction e with
  |refl=>omega
  |step _ g=>grind
 have z:∀n j,j< (f n).D->(f (n+1)).h j=(f n).h j:=λ n j b=>by
  have⟨_,_,d,t,_,_,a⟩:=c n;simp_all[iu]
 have A:∀m n,m<=n->∀j,j< (f m).D->(f n).h j=(f m).h j:=λ m n e=>by
  induction e with
  |refl=>simp
  | @step n e g=>grind
 let T:Nat->hA->Nat:=λ j=>if b:∃m,j< (f m).D then(f b.choose).h j else λ _=>0;have hT:∀n,gy (f n).D (f n).h T 0:=λ n j b=>by
  show(if b:∃m,0+j< (f m).D then(f _).h _ else λ _=>0)=_;have D:∃m,j< (f m).D:= ⟨n,b⟩
  grind
 have q:∀n,eQ Q n (ee (f 0).b (f 0).a ((f 0).v.tp T (f 0).D))= .next (ee (f n).b (f n).a ((f n).v.tp T (f n).D)):=by
  intro n
  induction n with
  |zero=>rfl
  |succ n g=>
   rw[runN_add,g];have⟨_,_,d,t,r,a,h⟩:=c n;have i:=hT (n+1);rw[a,h]at i;have⟨es,l⟩:=r T (f n).D (rP i).2;simp[eQ];rw[step_lone_go (by rw[l];rfl),a]
 have o:iJ Q X R (f 0).D (f 0).h (f 0).b (f 0).a (f 0).v:=by grind
 have⟨n,w,F,a,h,_⟩:=o T (hT 0);rw[q n]at a;have⟨s,u,_⟩:=kt (QT a);have⟨_,C,_⟩:=c n
 grind
def j7(F:Nat->Bool)(β:ah):ai:= ⟨λ a=>∃r,β r a,λ a=>∃r,β r a/\F r=false⟩
theorem ID{β v w w1}(h:cw F β v w)(b:bO (j7 F β) w w1):cw F β v w1:=h.k rfl (λ r a x=>b.e a ⟨r,x⟩) b.b
theorem ad5{β i v w v2 w2}(h:cw F β v w)(d:cw F i v2 w2)(c:im F β v w i v2 w2){es}(m:∀e∈es,lQ F i e):ey (j7 F β) (j7 F i) w w2 es:=by
 refine⟨c.e,λ a l o=>c.k a l λ r b=>?_,?_,?_,λ a⟨r,b⟩=> ⟨r,c.b _ _ b⟩,λ a⟨r,b,g⟩=> ⟨r,c.b _ _ b,g⟩,λ a _⟨r,b,_⟩=> ⟨r,b⟩,λ e n=>?_,c.o,c.g,c.h⟩;cases g:F r with
 |true=>rfl
 |false=>exact absurd ⟨r,b,g⟩ o
 rintro a⟨r,b⟩;rcases c.d r a b with x| ⟨_,x⟩;exact .inl ⟨r,x⟩;exact .inr ⟨x,(d.f b).2⟩;rintro a⟨r,b,g⟩;rcases c.d r a b with x| ⟨_,x⟩;exact .inl ⟨r,x,g⟩;exact .inr ⟨x,(d.f b).2⟩;have:=m e n;obtain⟨p,s,q⟩:=e;cases p<;>simp only[lQ,iF]at this⊢
 obtain⟨⟨r,f,d⟩,j⟩:=this;exact⟨⟨r,f⟩,λ k=> ⟨r,f,d k⟩,j⟩;obtain⟨⟨r,f,d⟩,j⟩:=this;exact⟨⟨r,f⟩,λ k=> ⟨r,f,d k⟩,j⟩;omega
def ahu(C:dC)(X:cS)(F:Nat->Bool)(R:ea->b2->Prop)(l0:ajM)(β0:ah)(v0 w0:b2)(p:ai)(g:eb)(w:b2):=∃k:ajL,kY C.Q X R k.e l0/\p=j7 F k.f/\g=G0 k.c k.d/\k.w=w/\cw F k.f k.v k.w/\Hd k.v/\iJ C.Q X R k.D k.h k.a k.b k.v/\bF β0 k.f/\(∀r a,k.f r a->β0 r a\/(v0.heap.size<=r/\w0.heap.size<=a))/\v0.heap.size<=k.v.heap.size/\((GS C X k.f k.a k.b k.c k.d/\jU X k.a k.b)\/uC C X k.f k.a k.b k.c k.d)
theorem td{fr c a cs b cE v v2 wE n}(h:eQ Q n (ee fr cs v)= .next (ee a cE wE))(d:hv Q (ee fr cs v)= .next (ee c b v2)):(a=fr/\cE=cs)\/∃m,eQ Q m (ee c b v2)= .next (ee a cE wE):=by cases n with|zero=>grind[eQ,kt]|succ n=>grind[eQ]
theorem ak8(I:C.a)(H:X.b)(m2){k}(i:tQ C X F R k)(G:¬jU X k.a k.b):∃d t b a v2 f h g w2 l,(∀T D,gy d t T D->∃es,dr C.Q true (G0 k.a k.b) (k.v.tp T D)= .go (G0 b a) (v2.tp T (D+d)) es)/\dr C.P m2 (G0 k.c k.d) k.w= .go (G0 h g) w2 l/\(GS C X f b a h g\/uC C X f b a h g)/\cw F f v2 w2/\Hd v2/\im F k.f k.v k.w f v2 w2/\(∀e∈l,lQ F f e)/\iJ C.Q X R (k.D+d) (iu k.D k.h t) b a v2:=by
 have⟨d,t,w⟩:=JY I H true m2 i.b i.c i.d G;obtain w| ⟨b,a,v2,f,h,g,w2,l,p,y,z,L,M,N,O⟩:=w;exfalso;have K:gy (k.D+d) (iu k.D k.h t) (iu k.D k.h t) 0:=λ j _=>by rw[vj]
 have⟨r,s⟩:=rP K;have⟨n,E,P,B,v,_⟩:=i.a _ r;rcases w _ _ s with⟨o,u,es,q⟩| ⟨b,a,v2,es,J,q,p,y,z⟩;have⟨o,u,q⟩:=(gG (cs:=k.b) q).1 _ _ _ rfl;cases n with
 |zero=>grind[eQ,Stepped.next.injEq,kt]|succ n=>grind[eQ]
 have q:=(gG (cs:=k.b) q).2 _ _ _ _ rfl;rcases td B q with⟨A,c2⟩| ⟨m,c⟩;grind;have⟨Q,c2⟩:=J6 H m ⟨⟨J,p⟩,y,.inl z⟩ c;rcases v.2 with⟨x,_⟩| ⟨x,_⟩<;>rw[x]at c2<;>cases c2;refine⟨d,t,b,a,v2,f,h,g,w2,l,p,y,z,L,M,N,O,λ T hT=>?_⟩;have⟨r,s⟩:=rP hT;have⟨n,E,P,B,v,S⟩:=i.a T r;have⟨es,q⟩:=p T k.D s;have q:=(gG (cs:=k.b) q).2 _ _ _ _ rfl;grind[td,absurd]
theorem Qn(H:C.a)(v:X.b)(m2){l0 β0 v0 w0 k}(b:tQ C X F R k)(h0:kY C.Q X R k.e l0)(h1:bF β0 k.f)(h2:∀r a,k.f r a->β0 r a\/(v0.heap.size<=r/\w0.heap.size<=a))(h3:v0.heap.size<=k.v.heap.size)(h4:w0.heap.size<=k.w.heap.size):∃r,du C.P m2 (ahu C X F R l0 β0 v0 w0) r (j7 F k.f) (G0 k.c k.d) k.w:=by
 have z:=HV (k:=k.e) v b.a;generalize N:k.e=l at z
 induction z generalizing k with|intro l _ P=>
  subst N;by_cases g:jU X k.a k.b;exact⟨.eM,λ w1 e=> ⟨{k with w:=w1},h0,rfl,rfl,rfl,ID b.b e,b.c,b.a,h1,h2,h3,.inl ⟨b.d,g⟩⟩⟩;refine du.b rfl λ w1 e=>?_;have B:=ID b.b e;have⟨d,t,u,o,v2,j,L,I,w2,J,D,E,f,n,G,c,Q,h⟩:=ak8 H v m2 (k:={k with w:=w1}) ⟨b.d,B,b.c,b.a⟩ g;have c:im F k.f k.v w1 j v2 w2:=c;have p:bF β0 j:=h1.a c.b;have q:∀r a,j r a->β0 r a\/(v0.heap.size<=r/\w0.heap.size<=a):=λ r a m=>by rcases c.d r a m with x| ⟨x,y⟩;exact h2 r a x;have:=e.b;exact .inr ⟨by omega,by omega⟩
  have s:v0.heap.size<=v2.heap.size:=gl h3 c.f;have K:w0.heap.size<=w2.heap.size:=by have:=e.b;have:=c.e;omega
  have A:=ad5 B n c Q;obtain f|f:=f;let k':ajL:= ⟨u,o,v2,j,L,I,w2,k.D+d,iu k.D k.h t⟩;have i:lM C.Q X R k'.e k.e:= ⟨h,g,d,t,D,rfl,rfl⟩;have⟨r,m⟩:=P k'.e i ⟨f,n,G,h⟩ (.mf i h0) p q s K rfl;exact⟨_,w2,J,_,r,E,rfl,A,m⟩;refine⟨_,_,_,_,.eM,E,rfl,A,λ w3 O=> ⟨⟨_,_,_,_,_,_,_,_,_⟩,.mf ⟨h,g,d,t,D,rfl,rfl⟩ h0,rfl,rfl,rfl,ID n O,G,h,p,q,s,.inr f⟩⟩
end
end
def lT:World:={heap:= #[],tape:=λ _ _=>0,drawn:=0,os:=default,output:= #[]}
def lO(P:ef)(main:Bool)(g:eb):Goroutine:=match dr P main g lT with| .go g' _ _=>g'|_=>g
def dR(P:ef)(main:Bool):Nat->eb->eb|0,g=>g|k+1,g=>dR P main k (lO P main g)
section
open Go.ConcN (sumTo upd sumTo_upd upd_ne upd_same)
variable{p:ai}{e:Event}{B0:Nat}{es:Array Event}{q:ai}
theorem gz{g fn pos op}(h:op∈eH g fn pos es):op.g=g:=by grind[fR]
def eG(S:Nat->Prop):Loc->Prop| .cell a=>S a.block|_=>False
theorem AB{S B}(q:∀b,S b->¬p.a b)(k:∀b,p.a b->b<B)(h:iF p e):EvL (eG S) B e:=by have⟨r,d,s⟩:=e;cases r with
 |cell a=>
  have⟨i,o,g⟩:=h;subst g;refine⟨λ x c j=>?_,by simp,by simp,?_⟩;simp only[nv,hq,Option.some.injEq]at c;subst c;exact absurd i (q _ j);exact k _ i|obj n=>
  have⟨i,o,g⟩:=h;subst g;refine⟨λ x c j=>?_,by simp,by simp,?_⟩;have:gg ⟨.obj n,d,false⟩= .access ⟨.obj n,d,false⟩:=by cases d<;>rfl
  rw[this]at c;simp only[hq,Option.some.injEq]at c;subst c;trivial;have:gg ⟨.obj n,d,false⟩= .access ⟨.obj n,d,false⟩:=by cases d<;>rfl
  rw[this];exact k _ i|mark m=>
  have l:m= .noRoom\/∃f,m= .extern f:=h;refine⟨λ x c j=>?_,?_,?_,?_⟩;rcases l with rfl| ⟨f,rfl⟩<;>simp[gg,hq]at c
  grind
  grind
  rcases l with rfl| ⟨f,rfl⟩<;>exact trivial|output=>trivial|goroutines=>trivial
def iX:Loc->Option Nat| .cell a=>some a.block| .obj r=>some r|_=>none
theorem D9(h:iF q e){x}(c:(gg e).touch?=some x):∃b,iX x.loc=some b/\q.a b/\(x.write=true->q.b b)/\x.kind= .plain:=by have⟨l,j,o⟩:=e;cases l with
 |cell a=>have⟨g,i,d⟩:=h;subst d;simp[nv,hq,Option.some.injEq]at c;subst c;exact⟨_,rfl,g,i,rfl⟩|obj n=>
  have⟨g,i,d⟩:=h;subst d;have:gg ⟨.obj n,j,false⟩= .access ⟨.obj n,j,false⟩:=by cases j<;>rfl
  rw[this]at c;simp[hq,Option.some.injEq]at c;subst c;exact⟨n,rfl,g,i,rfl⟩|mark m=>rcases h with rfl| ⟨f,rfl⟩<;>simp[gg,hq]at c|output=>trivial|goroutines=>trivial
structure gI(B0:Nat)(p:ai)(t:kg):Prop where
 d:∀b,B0<=b->¬p.a b->∀k x,gb t k=some x->iX x.loc≠some b
 f:∀a,B0<=a.block->∀op∈t,op.act≠ .mark (.release a)
theorem gI.c{t}(h:∀op∈t,op.act.low B0)(p):gI B0 p t where
 f:=λ a s op o e=>by have:=h op o;rw[e]at this;have:a.block<B0:=this;omega
 d:=λ b u _ k x q e=>by
  have⟨op,n,c⟩:=nz q;have i:=h op (x2 n);have:b<B0:=by have⟨g,fn,pos,j⟩:=op;cases j with
   |access l=>have⟨r,w,v⟩:=l;simp[hq,Option.some.injEq]at c;subst c;cases r<;>simp[iX,Option.some.injEq]at e<;>first| (cases e;done)| (subst e;exact i)
   |mark m=>cases m<;>simp[hq,Option.some.injEq]at c<;>first| (cases c;done)| (subst c;simp[iX,Option.some.injEq]at e;subst e;exact i)
   |_=>trivial
  omega
theorem gI.g{p' t u}(h:gI B0 p t)(hp:∀b,p.a b->p'.a b)(r:∀op∈u,∀x,op.act.touch?=some x->∀b,iX x.loc=some b->p'.a b)(m:∀op∈u,∀a,op.act≠ .mark (.release a)):gI B0 p' (t++u) where
 f:=λ a i op l=>(kL.1 l).elim (h.f a i op) λ y=>m op y a
 d:=λ b j q k x n e=>by
  have⟨op,c,o⟩:=nz n;rcases xM c with⟨_,g⟩| ⟨_,g⟩
  exact h.d b j (by grind) k x (by grind[touchAt_of]) e;grind
theorem Jq(h:iF q e)(a):gg e≠ .mark (.release a):=by have⟨b,g,d⟩:=e;cases b with|mark m=>have i:m= .noRoom\/∃f,m= .extern f:=h;grind[gg]|obj c=>cases g<;>cases d<;>simp[gg]|_=>simp[gg]
theorem xd(h:mn e=true)(a):gg e≠ .mark (.release a):=by have⟨b,d,c⟩:=e;cases b<;>simp_all [mn];grind[gg]
structure iG(p:ai)(w:b2)(p':ai)(w':b2):Prop where
 d:w.heap.size<=w'.heap.size
 h:∀a,a<w.heap.size->¬p.b a->w'.heap[a]?=w.heap[a]?
 l:∀a,p'.a a->p.a a\/w.heap.size<=a
 k:∀a,p'.b a->p.b a\/w.heap.size<=a
 i:w'.os=w.os
 f:w'.output=w.output
 g:w'.tape=w.tape
theorem iG.b(p)(w):iG p w p w:= ⟨fz _,λ _ _ _=>rfl,λ _ h=> .inl h,λ _ h=> .inl h,rfl,rfl,rfl⟩
theorem iG.c{p' c w w' d}(h:iG p w p' w')(k:iG p' w' c d):iG p w c d:=by
 refine⟨gl h.d k.d,λ a b e=>?_,λ a b=>?_,λ a b=>?_,k.i.trans h.i,k.f.trans h.f,k.g.trans h.g⟩
 ·rw[k.h a (hh b h.d) λ f=>?_,h.h a b e];rcases h.k a f with x|x;all_goals grind
 ·rcases k.l a b with x|x;exact h.l a x;exact .inr (gl h.d x)
 ·rcases k.k a b with x|x;exact h.k a x;exact .inr (gl h.d x)
theorem ey.g{p' w w'}(h:ey p p' w w' es):iG p w p' w':= ⟨h.b,h.f,λ a b=>(h.i a b).imp id And.left,λ a b=>(h.k a b).imp id And.left,h.m,h.c,h.h⟩
theorem iG.j(w)(d):iG p w p (w.at d):= ⟨fz _,λ _ _ _=>rfl,λ _ h=> .inl h,λ _ h=> .inl h,rfl,rfl,rfl⟩
theorem jn(p)(w)(d):bO p w (w.at d):= ⟨fz _,λ _ _=>rfl,rfl,rfl,rfl⟩
section
variable{P:Program}{S:Nat->Prop}{Stop:ai->Goroutine->World->Prop}
theorem Kh:∀r M p h a w sl t q,Go.ConcN.sumTo h.size q<=M->h[0]?=some a->s8 P t h q->nL (eG S) w.heap.size t->gI B0 p t->(∀b,S b->b<w.heap.size/\¬p.a b)->(∀b,p.a b->b<w.heap.size)->du P true Stop r p a w->∃N l a' w' o t' q' p',kk P N (gf h w sl) t=(.next (gf l w' o),t')/\l.size=h.size/\l[0]?=some a'/\Stop p' a' w'/\s8 P t' l q'/\nL (eG S) w'.heap.size t'/\gI B0 p' t'/\(∀b,p.a b->p'.a b)/\(∀b,S b->b<w'.heap.size/\¬p'.a b)/\(∀b,p'.a b->b<w'.heap.size)/\iG p w p' w':=by
 intro r
 induction r using dI.b.induction with|_ r U=>
  intro M
  induction M with
  |zero=>intro p h a w sl t q Q h0 m v u z s K;cases r with|eM=>exact⟨0,_,a,w,_,t,q,p,rfl,rfl,h0,K w (.c _ _),m,v,u,λ _ x=>x,z,s,.b _ _⟩|mk f=>obtain ak| ⟨F,J⟩:=K;exact⟨0,_,a,w,_,t,q,p,rfl,rfl,h0,ak w (.c _ _),m,v,u,λ _ x=>x,z,s,.b _ _⟩;exact SK (M:=0) U (by omega) Q h0 m v u z s F J
  |succ M av=>intro p h a w sl t q Q h0 m v u z s K;cases r with|eM=>exact⟨0,_,a,w,_,t,q,p,rfl,rfl,h0,K w (.c _ _),m,v,u,λ _ x=>x,z,s,.b _ _⟩|mk f=>
    obtain ak| ⟨F,J⟩:=K;exact⟨0,_,a,w,_,t,q,p,rfl,rfl,h0,ak w (.c _ _),m,v,u,λ _ x=>x,z,s,.b _ _⟩;exact SK (M:=M+1) U (λ k aL=>by
     obtain rfl:k=M:=by omega
     omega) Q h0 m v u z s F J
where
 SK {f:World->dI} {M:Nat}
  (U:∀y,dI.a y (.mk f)->∀(M:Nat)(p:ai)(h:Array Goroutine)(a:Goroutine)(w:World)(sl:Option (Nat×Nat))(t:Trace)(q:Nat->Nat),sumTo h.size q<=M->h[0]?=some a->Leavers P t h q->Past (eG S) w.heap.size t->gI B0 p t->
   (∀b,S b->b<w.heap.size/\¬p.a b)->(∀b,p.a b->b<w.heap.size)->du P true Stop y p a w->
   ∃(N:Nat)(l:Array Goroutine)(a':Goroutine)(w':World)(o:Option (Nat×Nat))(t':Trace)(q':Nat->Nat)(p':ai),
    runNT P N (crowd h w sl) t=(.next (crowd l w' o),t')/\l.size=h.size/\l[0]?=some a'/\Stop p' a' w'/\Leavers P t' l q'/\Past (eG S) w'.heap.size t'/\gI B0 p' t'/\(∀b,p.a b->p'.a b)/\(∀b,S b->b<w'.heap.size/\¬p'.a b)/\(∀b,p'.a b->b<w'.heap.size)/\iG p w p' w')
  (av:∀k,k+1=M->∀(p:ai)(h:Array Goroutine)(a:Goroutine)(w:World)(sl:Option (Nat×Nat))(t:Trace)(q:Nat->Nat),sumTo h.size q<=k->h[0]?=some a->Leavers P t h q->Past (eG S) w.heap.size t->gI B0 p t->
   (∀b,S b->b<w.heap.size/\¬p.a b)->(∀b,p.a b->b<w.heap.size)->du P true Stop (.mk f) p a w->
   ∃(N:Nat)(l:Array Goroutine)(a':Goroutine)(w':World)(o:Option (Nat×Nat))(t':Trace)(q':Nat->Nat)(p':ai),
    runNT P N (crowd h w sl) t=(.next (crowd l w' o),t')/\l.size=h.size/\l[0]?=some a'/\Stop p' a' w'/\Leavers P t' l q'/\Past (eG S) w'.heap.size t'/\gI B0 p' t'/\(∀b,p.a b->p'.a b)/\(∀b,S b->b<w'.heap.size/\¬p'.a b)/\(∀b,p'.a b->b<w'.heap.size)/\iG p w p' w')
  {p:ai} {h:Array Goroutine} {a:Goroutine} {w:World} {sl:Option (Nat×Nat)} {t:Trace} {q:Nat->Nat} (Q:sumTo h.size q<=M) (h0:h[0]?=some a) (m:Leavers P t h q) (v:Past (eG S) w.heap.size t) (u:gI B0 p t)
  (z:∀b,S b->b<w.heap.size/\¬p.a b) (s:∀b,p.a b->b<w.heap.size) (F:a.status= .running)
  (J:∀w1,bO p w w1->∃g' w' es p',stepG P true a w1= .go g' w' es/\g'.status= .running/\ey p p' w1 w' es/\du P true Stop (f w1) p' g' w'):
  ∃(N:Nat)(l:Array Goroutine)(a':Goroutine)(w':World)(o:Option (Nat×Nat))(t':Trace)(q':Nat->Nat)(p':ai),
   runNT P N (crowd h w sl) t=(.next (crowd l w' o),t')/\l.size=h.size/\l[0]?=some a'/\Stop p' a' w'/\Leavers P t' l q'/\Past (eG S) w'.heap.size t'/\gI B0 p' t'/\(∀b,p.a b->p'.a b)/\(∀b,S b->b<w'.heap.size/\¬p'.a b)/\(∀b,p'.a b->b<w'.heap.size)/\iG p w p' w':=by
  have aA:∀g∈h,awake g:=by
   intro g H;obtain⟨i,C,rfl⟩:=Array.mem_iff_getElem.1 H;rcases Nat.eq_zero_or_pos i with rfl|ae
   ·have:h[0]=a:=by simpa[Array.getElem?_eq_getElem C]using h0
    rw[this];exact awake_of (.inl F)
   ·exact awake_of ((m.old i _ ae (Array.getElem?_eq_getElem C)).status.elim .inl λ x=> .inr (.inr x))
  obtain⟨i,g,d,o,C,H,aG⟩:=crowd_pick (P:=P) (w:=w) (sl:=sl) aA ⟨0,a,h0,F⟩;rcases Nat.eq_zero_or_pos i with rfl|ae
  ·
   obtain rfl:g=a:=by rw[h0]at C;exact(Option.some.inj C).symm
   obtain⟨a',w',es,p',aC,_,B,az⟩:=J (w.at d) (jn _ _ _);have au:=runT_crowd_go (P:=P) (sl:=o) (i:=0) C (show stepG P (0==0) g (w.at d)=_ from aC);have O:((h.map (woken P g a' w')).setIfInBounds 0 a').size=h.size:=by simp
   have T:0<h.size:=(Array.getElem?_eq_some_iff.1 h0).1;have aj:w.heap.size<=w'.heap.size:=B.b;have aq:∀b,S b->b<w'.heap.size/\¬p'.a b:=λ b D=>by
    obtain⟨aI,aJ⟩:=z b D;refine⟨Nat.lt_of_lt_of_le aI aj,λ I=>?_⟩;rcases B.i b I with y| ⟨y,_⟩
    ·exact aJ y
    ·have y:w.heap.size<=b:=y;omega
   have ap:∀b,p'.a b->b<w'.heap.size:=λ b I=>by
    rcases B.i b I with y| ⟨_,y⟩
    ·exact Nat.lt_of_lt_of_le (s b y) aj
    ·exact y
   obtain⟨N,l,an,ax,am,t',q',aw,I,ah,V,ab,X,Z,Y,ag,aa,W,ac⟩:=U (f (w.at d)) (.mk f _) (sumTo h.size q) p' ((h.map (woken P g a' w')).setIfInBounds 0 a') a' w' o (t++MemOp.ofEvents 0 g.frame.fn g.frame.place es) q (by rw[O];exact Nat.le_refl _) (by simp[T])
    ⟨λ j x E A=>by
     have ad:0≠j:=by omega
     rw[Array.getElem?_setIfInBounds_ne ad,Array.getElem?_map]at A;obtain⟨y,al,rfl⟩:=Option.map_eq_some_iff.1 A;have G:=m.old j y E al;rw[woken_quitsD G,Deaf_other t (by omega) _ (λ op n=>gz n)];exact G,λ j E=>by
     rw[Deaf_other t (g':=0) (by simp at E;omega) _ (λ op n=>gz n)];exact m.above j (by simpa using E)⟩
    ((
     v.mono aj).own λ e L=>AB (λ b D=>(aq b D).2) ap (B.d e L)) (u.g B.j (λ op n x A b D=>by
     obtain⟨e,L,rfl⟩:=Go.Conc.mem_ofEvents n;obtain⟨aK,ao,ay,_⟩:=D9 (B.d e L) A;rw[D]at ao;cases ao;exact ay) λ op n a=>by
     obtain⟨e,L,rfl⟩:=Go.Conc.mem_ofEvents n;exact Jq (B.d e L) a) aq ap az
   exact⟨N+1,l,an,ax,am,t',q',aw,by simp only[runNT,aG,au];exact I,ah.trans O,V,ab,X,Z,Y,λ b D=>ag b (B.j b D),aa,W,((iG.j w d).c B.g).c ac⟩
  ·
   have G:=m.old i g ae C;have aD:(i==0)=false:=by simp;omega
   have T:i<h.size:=(Array.getElem?_eq_some_iff.1 C).1;cases af:q i with
   |zero=>rw[af]at G;rw[G.1]at H;cases H
   |succ k=>
    rw[af]at G;rcases G with⟨aB,_⟩| ⟨_,g',es,aE,aH,aF⟩
    ·rw[aB]at H;cases H
    have au:=runT_crowd_go (P:=P) (sl:=o) (i:=i) C (by rw[aD];exact aH (w.at d));have O:((h.map (woken P g g' (w.at d))).setIfInBounds i g').size=h.size:=by simp
    have aM:sumTo h.size (upd q i k)+ (k+1)=sumTo h.size q+k:=by
     have:=sumTo_upd q k id T;simpa[af]using this
    cases M with
    |zero=>omega
    |succ M=>
     obtain⟨N,l,an,ax,am,t',q',aw,I,ah,V,ab,X,Z,Y,ag,aa,W,ac⟩:=av M rfl p ((h.map (woken P g g' (w.at d))).setIfInBounds i g') a (w.at d) o (t++MemOp.ofEvents i g.frame.fn g.frame.place es) (upd q i k) (by rw[O];omega)
      (by
       have ad:i≠0:=by omega
       rw[Array.getElem?_setIfInBounds_ne ad,Array.getElem?_map,h0];simp[woken_run F])
      ⟨λ j x E A=>by
       by_cases R:i=j
       ·subst R;rw[Array.getElem?_setIfInBounds_self_of_lt (by simpa using T)]at A;obtain rfl:=Option.some.inj A;rw[upd_same,Deaf_own];exact aF
       ·rw[Array.getElem?_setIfInBounds_ne R,Array.getElem?_map]at A;obtain⟨y,al,rfl⟩:=Option.map_eq_some_iff.1 A;have ar:=m.old j y E al;rw[woken_quitsD ar,upd_ne q k (bb R),Deaf_other t R _ (λ op n=>gz n)];exact ar,λ j E=>by
       rw[Deaf_other t (g':=i) (by simp at E;omega) _ (λ op n=>gz n)];exact m.above j (by omega)⟩
      (v.mute (by omega) aE) (u.g (λ _ y=>y) (λ op n x A b D=>by
       grind[Go.Conc.mem_ofEvents,touch_mute]) λ op n a=>by
       grind[Go.Conc.mem_ofEvents,xd]) z s (du.c (r:= .mk f) (.inr ⟨F,J⟩) (jn _ _ _))
     exact⟨N+1,_,_,_,am,_,_,_,by grind[runNT],ah.trans O,V,ab,X,Z,Y,ag,aa,W,(iG.j w d).c ac⟩
end
end
section
variable[aW][ck][Gl]
theorem zA{P a b m m1 t c r}(h:kk P a m t=(.next m1,c))(k:kk P b m1 c=r):kk P (a+b) m t=r:=by induction a generalizing m t with|zero=>grind[kk,Prod.mk.injEq,Stepped.next.injEq]|succ a d=>grind[Nat.add_right_comm,kk,stepT]
structure xT(C:dC)(X:cS)(F:Nat->Bool)(R:ea->b2->Prop)(S:Nat->Prop)(k:ajL)(h:Array eb)(w:b2)(t:kg)(q:Nat->Nat):Prop where
 c:k.w=w
 e:h[0]?=some (G0 k.c k.d)
 i:s8 C.P t h q
 a:nL (eG S) w.heap.size t
 j:∀b,S b->b<w.heap.size/\∀r,¬k.f r b
 f:cw F k.f k.v w
 g:Hd k.v
 d:iJ C.Q X R k.D k.h k.a k.b k.v
structure mq(w w':b2):Prop where
 b:w.heap.size<=w'.heap.size
 d:∀a,a<w.heap.size->w'.heap[a]?=w.heap[a]?
 f:w'.os=w.os
 c:w'.output=w.output
 e:w'.tape=w.tape
theorem mq.g(w):mq w w:= ⟨fz _,λ _ _=>rfl,rfl,rfl,rfl⟩
def TD(C:dC)(X:cS)(F:Nat->Bool)(R:ea->b2->Prop):=∀k S b w sl t q,xT C X F R S k b w t q->uC C X k.f k.a k.b k.c k.d->∃N c w' e t' q' k' d,kk C.P N (gf b w sl) t=(.next (gf c w' e),t')/\xT C X F R d k' c w' t' q'/\GS C X k'.f k'.a k'.b k'.c k'.d/\mI C.Q X R k'.e k.e/\mq w w'/\(∀r a,k'.f r a->F r=false->k.f r a\/w.heap.size<=a)
section
variable{C:dC}{X:cS}{F:Nat->Bool}{R:Frame->World->Prop}
theorem ZF(G:C.a)(ah:X.b)(I:TD C X F R){w0}:∀l,Acc (lM C.Q X R) l->∀k,kY C.Q X R k.e l->∀S n w sl t q,xT C X F R S k n w t q->GS C X k.f k.a k.b k.c k.d->mq w0 w->(∀r a,k.f r a->F r=false->w0.heap.size<=a)->∃N s w' aw t' q' k' J,kk C.P N (gf n w sl) t=(.next (gf s w' aw),t')/\xT C X F R J k' s w' t' q'/\GS C X k'.f k'.a k'.b k'.c k'.d/\jU X k'.a k'.b/\mq w0 w':=by
 intro l ai
 induction ai with|intro l _ aq=>
  intro k an S n w sl t q d al e aJ;have⟨ao,h0,ag,v,y,z,am,aj⟩:=d;subst ao;have⟨r,ap⟩:=Qn (l0:=k.e) (β0:=k.f) (v0:=k.v) (w0:=k.w) G ah true ⟨al,z,am,aj⟩ (.ni _) (bF.b _) (λ _ _ h=> .inl h) (fz _) (fz _);obtain⟨N,u,aF,w1,ax,D,B,aM,T,aG,U,⟨k1,d1,rfl,rfl,d2,av,ak,L,aL,Y,aQ,stop⟩,E,H,_,_,p,aB,g⟩:=Kh (B0:=k.w.heap.size) (S:=S) r _ (j7 F k.f) n _ k.w sl t q (fz _) h0 ag v (gI.c v.seen _) (λ b d=> ⟨(y b d).1,λ⟨r,c⟩=>(y b d).2 r c⟩) (λ b⟨r,c⟩=>(z.f c).2) ap;have f:mq w0 w1:=by refine⟨gl e.b g.d,λ a i=>?_,g.i.trans e.f,g.f.trans e.c,g.g.trans e.e⟩;rw[g.h a (hh i e.b) λ⟨r,c,o⟩=>?_,e.d a i];grind
  have aS:∀r a,k1.f r a->F r=false->w0.heap.size<=a:=λ r a c o=>by rcases Y r a c with x| ⟨_,x⟩;grind;exact gl e.b x
  have M:xT C X F R S k1 u w1 D B:= ⟨d2,U,E,H,λ b d=> ⟨(p b d).1,λ r c=>(p b d).2 ⟨r,c⟩⟩,d2▸av,ak,L⟩;obtain⟨aH,aO⟩|V:=stop;grind;have⟨aC,aa,w2,ay,az,au,A,K,W,O,Z,P,j,aA⟩:=I k1 S u w1 ax D B M V;have⟨m,m1,m2⟩:=P.a (d1.a an);have⟨aD,aI,w3,aP,aR,aN,aK,aE,ab,ac,ad,ae,af⟩:=aq m m2 A m1 K aa w2 ay az au O Z ⟨gl f.b j.b,λ a i=>(j.d a (hh i f.b)).trans (f.d a i),j.f.trans f.f,j.c.trans f.c,j.e.trans f.e⟩ λ r a c o=>by rcases aA r a c o with x|x;grind;exact gl f.b x
  exact⟨_,_,_,_,_,_,_,_,zA (zA T W) ab,ac,ad,ae,af⟩
end
variable{Q:Program}{u:World}
theorem H5(b:Hd u):∃o c,hv Q (ee {gd with mode:= .returning} [] u)= .ended o c:=by have e:dr Q true (G0 {gd with mode:= .returning} []) u= .coroswitch (G0 {gd with mode:= .returning,defers:= []} []) 0 true u (hP Q gd.fn #[]++ #[]):=rfl;rw[hv,stepT,move_lone];cases a:u.heap[0]? with|none=>simp_all[runT,ee,qW]|some o=>have:=(b 0 o a).2;cases o<;>first| (simp[runT,ee,qW,e,a];done)| (exfalso;cases this;done)
theorem GM:hv Q (ee gd [] u)= .next (ee {gd with mode:= .returning} [] u):=rfl
theorem agD{Q fr u}(y:Hd u)(z:∀fn a b,Q.funcs[fr.fn]?=some fn->(jA fn fr.tmps).run Q u= .ok a b->Hd b)(s:fr.mode= .returning)(r:fr.defers= [])(t:fr.roundOf=none):∀{n:Nat}{d:ea}{i:b2},eQ Q n (ee fr [gd] u)= .next (ee d [gd] i)->d=fr/\i=u:=by intro n d i h;cases n with
 |zero=>grind[eQ,Stepped.next.injEq,kt]|succ n=>
  exfalso;have⟨fn,g,j,B,D,kind,E⟩:=fr;subst s r t;have A:∀m b,Hd b->∀d i,eQ Q m (ee gd [] b)≠ .next (ee d [gd] i):=λ m b l d i e=>by cases m with
   |zero=>
    grind[eQ,Stepped.next.injEq,kt]|succ m=>
    simp[eQ,GM]at e;cases m with
    |zero=>
     simp[eQ,Stepped.next.injEq]at e;cases(kt e).2.1
    |succ m=>
     have⟨o,F,w⟩:=H5 (Q:=Q) l;simp only[eQ,w]at e;cases e
  have key:(∃o b,hv Q (ee ⟨fn,g,j,[],.returning,kind,none⟩ [gd] u)= .ended o b)\/∃b,Hd b/\hv Q (ee ⟨fn,g,j,[],.returning,kind,none⟩ [gd] u)= .next (ee gd [] b):=by
   have ret:∀v b,mv Q true ⟨fn,g,j,[],.returning,kind,none⟩ [gd] none v b= .go (G0 gd []) b:=λ v b=>by
    cases kind<;>rfl
   have c:dr Q true (G0 ⟨fn,g,j,[],.returning,kind,none⟩ [gd]) u=hM Q true ⟨fn,g,j,[],.returning,kind,none⟩ [gd] none u:=rfl;simp only[hM]at c;cases p:Q.funcs[fn]? with
   |none=>
    rw[p]at c;simp[ret]at c;exact .inr ⟨u,y,(gG c).2 _ _ _ _ rfl⟩|some f=>
    rw[p]at c;simp only at c;have k:=qc Q (jA f g) u #[];generalize C:(jA f g).runT Q u #[]=q at c k;have⟨q,es⟩:=q;cases q with
    |ok a b=>
     simp[ret,en]at c;exact .inr ⟨b,z f a b p k.symm,(gG c).2 _ _ _ _ rfl⟩
    |halt x b=>cases x<;>exact .inl ((gG c).1 _ _ _ rfl)
  obtain⟨o,b,e⟩| ⟨b,l,e⟩:=key;simp only[eQ,e]at h;cases h;simp only[eQ,e]at h;exact A n b l d i h
variable{a:Act}
theorem Bt(y):∃x,∀β,VR β x y:=by match y with
 | .bool b=>exact⟨_,λ _=> .fY b⟩| .int k n=>exact⟨_,λ _=> .cx k n⟩| .float k n=>exact⟨_,λ _=> .fy rfl⟩| .complex k n m=>exact⟨_,λ _=> .fy rfl⟩| .string s=>exact⟨_,λ _=> .eI s⟩| .pointer none=>exact⟨.pointer none,λ _=> .dc trivial⟩| .pointer (some a)=>exact⟨eg,λ _=> .fy rfl⟩| .slice a n c=>exact⟨eg,λ _=> .fy rfl⟩| .map r=>exact⟨eg,λ _=> .fy rfl⟩| .chan r=>exact⟨eg,λ _=> .fy rfl⟩| .nilFunc=>exact⟨.nilFunc,λ _=> .nG⟩| .nilIface=>exact⟨.nilIface,λ _=> .mj⟩| .iface t v=>exact⟨eg,λ _=> .fy rfl⟩| .func f a b=>cases h:p9 (.func f a b)with|true=>exact⟨.nilFunc,λ _=> .jL h⟩|false=>exact⟨eg,λ _=> .fy (by simp[od,h])⟩
 | .agg cs=>
  have:∀i:Fin cs.size,∃x,∀β,VR β x cs[i]:=λ i=>Bt cs[i];have⟨f,o⟩:=x3 this;refine⟨.agg (QP f),λβ=> .gU (by simp) λ i v v' l d=>?_⟩;have e:=(hU.1 d).1;have g:v=f ⟨i,e⟩:=by have:=(hU.1 l).2;rw[<-this,zs]
  have j:v'=cs[i]:=(hU.1 d).2.symm;rw[g,j];exact o ⟨i,e⟩ β| .tuple cs=>
  have:∀i:Fin cs.size,∃x,∀β,VR β x cs[i]:=λ i=>Bt cs[i];have⟨f,o⟩:=x3 this;refine⟨.tuple (QP f),λβ=> .nA (by simp) λ i v v' l d=>?_⟩;have e:=(hU.1 d).1;have g:v=f ⟨i,e⟩:=by have:=(hU.1 l).2;rw[<-this,zs]
  rw[g,(hU.1 d).2.symm];exact o ⟨i,e⟩ β
termination_by SizeOf.sizeOf y
decreasing_by
 all_goals
  have h:=Array.sizeOf_get cs i.1 i.2;have h:SizeOf.sizeOf cs[i.1]<SizeOf.sizeOf cs:=h;simp only[Fin.getElem_fin];simp;omega
def shV(y:df):=(Bt y).choose
theorem vz(β)(y):VR β (shV y) y:=(Bt y).choose_spec _
def ai.d(p e:ai):ai:= ⟨λ a=>p.a a\/e.a a,λ a=>p.b a\/e.b a⟩
section
variable{P:Program}{main:Bool}
theorem bO.g{p e w w'}(h:bO (p.d e) w w'):bO p w w':= ⟨h.b,λ a b=>h.e a (.inl b),h.i,h.f,h.h⟩
theorem iF.b{p e v}(h:iF p v):iF (p.d e) v:=by
 have⟨a,c,b⟩:=v;cases a<;>simp[iF]at h⊢
 exact⟨.inl h.1,λ x=> .inl (h.2.1 x),h.2.2⟩;exact⟨.inl h.1,λ x=> .inl (h.2.1 x),h.2.2⟩;omega
theorem ey.s{p p' e w w' es}(h:ey p p' w w' es)(q:∀a,e.b a->e.a a):ey (p.d e) (p'.d e) w w' es:={
 b:=h.b
 f:=λ a g l=>h.f a g λ x=>l (.inl x)
 i:=λ a g=>g.elim (λ x=>(h.i a x).imp .inl id) λ x=> .inl (.inr x)
 k:=λ a g=>g.elim (λ x=>(h.k a x).imp .inl id) λ x=> .inl (.inr x)
 j:=λ a g=>g.imp (h.j a) id
 o:=λ a g=>g.imp (h.o a) id
 n:=λ a l g=>g.elim (λ x=> .inl (h.n a (λ y=>l (.inl y)) x)) λ x=> .inr (q a x)
 d:=λ v r=>(h.d v r).b
 m:=h.m
 c:=h.c
 h:=h.h}
structure uz(e q:ai)(w0 w:b2):Prop where
 b:∀a,e.a a->w.heap[a]?=w0.heap[a]?
 c:∀a,e.a a->a<w.heap.size
 d:∀a,e.a a->¬q.b a
theorem du.g{Stop e}(m:∀a,e.b a->e.a a){w0}:∀{r:dI}{p:ai}{g:eb}{w:b2},du P main Stop r p g w->uz e p w0 w->du P main (λ p' g w=>∃q,p'=q.d e/\Stop q g w/\uz e q w0 w) r (p.d e) g w:=by
 have rel:∀{p:ai}{w w1:b2},uz e p w0 w->bO (p.d e) w w1->uz e p w0 w1:=λ j i=> ⟨λ a x=>(i.e a (.inr x)).trans (j.b a x),λ a x=>hh (j.c a x) i.b,j.d⟩;have fin:∀{p:ai}{g:eb}{w:b2},(∀w1,bO p w w1->Stop p g w1)->uz e p w0 w->∀w1,bO (p.d e) w w1->∃q,p.d e=q.d e/\Stop q g w1/\uz e q w0 w1:=λ h j w1 l=> ⟨_,rfl,h w1 l.g,rel j l⟩;intro r
 induction r with|eM=>trivial|mk f s=>
  intro p g w h j;obtain h| ⟨n,h⟩:=h
  exact .inl (fin h j);refine .inr ⟨n,λ w1 l=>?_⟩;obtain⟨g',w',es,p',a,b,c,d⟩:=h w1 l.g;have i:=rel j l;refine⟨g',w',es,p'.d e,a,b,c.s m,s w1 d ⟨λ x k=>(c.f x (i.c x k) (i.d x k)).trans (i.b x k),λ x k=>hh (i.c x k) c.b,λ x k o=>?_⟩⟩;rcases c.k x o with y| ⟨y,_⟩
  exact i.d x k y;have:=i.c x k;omega
end
def RO(Q:ef){α:Type}(s:dk α):=∀w a u,s.run Q w= .ok a u->u=w
section
variable{P:Program}{fs:Array Func}{α γ:Type}
theorem RO.b(a):RO (lp P fs) (cr a:dk α):=λ w b u h=>by simp_all
theorem RO.oW{s}{f:α->dk γ}(h:RO (lp P fs) s)(k:∀a,RO (lp P fs) (f a)):RO (lp P fs) (s>>=f):=λ w b u e=>by rw[Sem.run_bind]at e;cases c:s.run (lp P fs) w with
 |ok a w1=>rw[c]at e;have:=h w a w1 c;subst this;exact k a _ _ _ e|halt x w1=>rw[c]at e;cases e
theorem RO.e{f:ef->dk α}(h:RO (lp P fs) (f (lp P fs))):RO (lp P fs) (hR>>=f):=λ w b u e=>h w b u e
theorem RO.f(why):RO (lp P fs) (ew why:dk α):=λ w b u e=>by cases e
theorem RO.i(a):RO (lp P fs) (load a):=λ w b u e=>by grind[Go.load,et]
theorem RO.c(a):∀n i b,RO (lp P fs) (pV a i n b)|0,_,_=>RO.b _|n+1,i,b=>(RO.i _).oW λ v=>RO.c a n (i+1) _
theorem RO.g(t):RO (lp P fs) (hQ t):=by refine RO.e ?_;grind[RO.b,RO.f]
theorem RO.l(t):RO (lp P fs) (isAgg t):=by refine RO.oW (RO.e ?_) λ d=>?_;all_goals grind[RO.b,RO.f]
theorem RO.h(t)(a):RO (lp P fs) (oj t a):=by
 refine(RO.l t).oW λ b=>?_;split;exact RO.oW (RO.oW (RO.g t) λ _=>RO.b _) λ n=>(RO.c a n 0 _).oW λ _=>RO.b _;exact RO.i a
theorem RO.k(x):RO (lp P fs) (hJ x):=by
 unfold hJ;split;exact RO.b _;intro w b u e;trivial;exact RO.f _
theorem RO.j{a:Type}{f:a->dk α}(h:∀i,RO (lp P fs) (f i)):∀l:List a,RO (lp P fs) (l.mapM f)
 | []=>by grind[RO.b]|i::l=>by simp[tc];exact(h i).oW λ _=>(RO.j h l).oW λ _=>RO.b _
theorem RO.d(fn)(a):RO (lp P fs) (jA fn a):=by unfold jA;rw[pk];refine RO.oW (RO.oW (RO.j (λ i=>?_) _) λ _=>RO.b _) λ _=>RO.b _;grind[RO.b,RO.k,oW,RO.h]
end
section
variable{C:dC}{X:cS}{F:Nat->Bool}
structure Zd(C:dC)(X:cS)(F:Nat->Bool)(b:ea)(Post:Act->b2->Prop)(β:ah)(v w:b2)(p:ai)(g:eb)(w2:b2)(l:ah)(v2:b2)(a':Act)(fr2:ea):Prop where
 c:p=j7 F l
 h:g=G0 fr2 X.g
 e:cw F l v2 w2
 j:Hd v2
 i:bF β l
 f:∀r a,l r a->β r a\/(v.heap.size<=r/\w.heap.size<=a)
 k:GF C l X.a X.d X.e X.f (b.at a' X.a) fr2
 d:∃T D,Post a' (v2.tp T D)
theorem Xa(I:C.a)(y:X.b){why}(Y:X.a= [.code (.refuse why)])(aa:∀f,C.b f=false){b fr' c}(aw:b.roundOf=none){Post β v w} (ac:cw F β v w) (U:Hd v) (V:GF C β X.a X.d X.e X.f (b.at a (.code c::X.a)) fr') (af:∀T,c.wp C.Q (λ e a' w'=>e= .normal/\Post a' w') a (v.tp T 0)) (m2):∃r,du C.P m2 (λ p g w2=>∃ak v2 a' fr2,Zd C X F b Post β v w p g w2 ak v2 a' fr2) r (j7 F β) (G0 fr' X.g) w:=by
 let R:ea->b2->Prop:=λ t B=>∃a',t=b.at a' X.a/\Post a' B;let k:ajL:= ⟨b.at a (.code c::X.a),X.c,v,β,fr',X.g,w,0,λ _ _=>0⟩;have P:iJ C.Q X R 0 (λ _ _=>0) k.a k.b v:=λ T _=>by obtain⟨e,a',w',⟨rfl,ab⟩,n,Z⟩:=af T b X.a X.c;exact⟨n,_,_,Z,⟨rfl,.inl ⟨rfl,rfl,by grind⟩⟩,_,rfl,ab⟩
 have⟨r,ae⟩:=Qn (l0:=k.e) (β0:=β) (v0:=v) (w0:=w) I y m2 (k:=k) ⟨.jE V rfl,ac,U,P⟩ (.ni _) (bF.b _) (λ _ _ h=> .inl h) (fz _) (fz _);refine⟨r,ae.a ?_⟩;rintro p g w2⟨d,d1,rfl,rfl,rfl,ai,E,J,ag,N,aA,⟨i,aj⟩|M⟩
 
 let T:Nat->hA->Nat:=d.h;have hT:gy d.D d.h T 0:=λ j _=>by grind
 have⟨n,t,B,l,ao,a',s,L⟩:=J T hT;have⟨D,ad⟩:=aj;have low:GF C d.f X.a X.d X.e X.f d.a d.c/\d.a.roundOf=none/\d.d=X.g:=by generalize aq:d.b=al at i D;generalize au:d.a=fr2 at i;generalize av:d.c=ap at i;generalize ar:d.d=am at i;cases i with|jE g H=>trivial|up g ax hp Q=>have:=Q.c;grind
 have⟨O,o,S⟩:=low;rw[D]at l;have key:t=d.a/\B=d.v.tp T d.D:=by
  obtain⟨m1,m2,_⟩| ⟨m1,m2⟩:=ad;have K:d.a=d.a.at ⟨d.a.tmps,d.a.defers⟩ X.a:=by generalize d.a=fr2 at m1 m2 o;have⟨fn,aB,aC,an,ay,kind,az⟩:=fr2;subst m1 m2 o;rfl
  rw[K]at l;have stuck:∀m u fr2 A,eQ C.Q m (ee (d.a.at ⟨d.a.tmps,d.a.defers⟩ X.a) X.c u)= .next (ee fr2 X.c A)->fr2=d.a.at ⟨d.a.tmps,d.a.defers⟩ X.a/\A=u:=λ m u fr2 A h=>by cases m with
   |zero=>grind[eQ,Stepped.next.injEq,kt]|succ m=>rw[Y]at h;trivial
  grind;exfalso;rw[y.b]at m2;rw[y.a]at l;have G:Hd (d.v.tp T d.D):=E;have⟨q,_⟩:=agD G (λ fn x aD z H=>by rw[RO.d fn _ _ _ _ H];exact G) m1 m2 o l;rw[q]at s;rw[s]at m1;cases m1
 have⟨q,c2⟩:=key;refine⟨d.f,d.v,a',d.c,rfl,by rw[S],ai,E,ag,N,?_,T,d.D,by rw[<-c2];exact L⟩;rw[<-s,q];exact O;have⟨f,_,_,_,_,_,_,_,_,_,_,z,_,_⟩:=M;rw[aa]at z;cases z
end
end
section
variable{x:Touch}{k:Nat}{a:MemAct}{g:Nat}
def QY(Y:Nat->Prop)(l:Loc):=∃b,iX l=some b/\Y b
theorem ail{B b}(d:a.touch?=some x)(c:iX x.loc=some b)(f:a.low B):b<B:=by cases a with
 |access e=>have⟨g,i,h⟩:=e;simp[hq,Option.some.injEq]at d;subst d;cases g<;>simp[iX,Option.some.injEq]at c<;>first| (cases c;done)| (subst c;exact f)
 |mark m=>cases m<;>simp[hq,Option.some.injEq]at d<;>first| (cases d;done)| (subst d;simp[iX,Option.some.injEq]at c;subst c;exact f)
 |_=>trivial
structure bP(S Y:Nat->Prop)(n0:Nat)(A:Nat->Prop)(rp:vR->Prop)(p:Nat->ai)(t:kg)(w:b2):Prop where
 e:∀i b,(p i).b b->(p i).a b
 c:∀i b,(p i).a b->b<w.heap.size/\¬S b/\¬Y b
 f:∀i j b,i≠j->(p i).b b->¬(p j).a b
 s:∀i b,(p i).a b->A i
 l:∀said,¬Race said t
 D:∀i b,(p i).b b->∀k x,gb t k=some x->iX x.loc=some b->ep t i k
 B:∀i b,(p i).a b->∀k x,gb t k=some x->iX x.loc=some b->x.write=true->ep t i k
 h:∀k x,gb t k=some x->QY Y x.loc->x.kind≠ .plain
 q:∀k x,gb t k=some x->x.loc.isMemory=true->
  (eG S x.loc/\x.kind= .atomic/\(k<n0\/¬t.heard k))\/(∃i,A i/\ep t i k)\/∃r a,t.act? r=some a/\rp a/\t.heard r/\k3 t k r
 y:∀i g,i<n0->t.g? i=some g->g≠0->t.counts i->∃j,t.g? j=some 0/\p7 t i j
 n:n0<=t.size
 o:∀op∈t,op.act.low w.heap.size
 d:∀b,S b\/Y b->b<w.heap.size
section
variable{S Y:Nat->Prop}{n0:Nat}{A:Nat->Prop}{rp:MemAct->Prop}{p:Nat->ai}{t u:Trace}{w w':World}
theorem aep(h:t.act? k=some a):k<t.size:=r3 h
theorem RV(g:k<t.size)(h:(eG S x.loc/\x.kind= .atomic/\(k<n0\/¬t.heard k))\/(∃i,A i/\ep t i k)\/∃r a,t.act? r=some a/\rp a/\t.heard r/\k3 t k r):(eG S x.loc/\x.kind= .atomic/\(k<n0\/¬(t++u).heard k))\/(∃i,A i/\ep (t++u) i k)\/∃r a,(t++u).act? r=some a/\rp a/\(t++u).heard r/\k3 (t++u) k r:=by
 obtain⟨b,c,d⟩| ⟨i,b,c⟩| ⟨r,a,b,c,d,e⟩:=h
 grind[id,kH]
 exact .inr (.inl ⟨i,b,c.app u⟩);have f:=aep b;exact .inr (.inr ⟨r,a,by grind[lB],c,(kH f).2 d,e.app u⟩)
theorem lx(h:gb (t++u) k=some x):(k<t.size/\gb t k=some x)\/(t.size<=k/\∃op∈u,(t++u)[k]?=some op/\op.act.touch?=some x):=by have⟨op,a,b⟩:=nz h;grind[xM,touchAt_of]
theorem TG(h:∀i g,i<n0->t.g? i=some g->g≠0->t.counts i->∃j,t.g? j=some 0/\p7 t i j)(e:n0<=t.size):∀i g,i<n0->(t++u).g? i=some g->g≠0->(t++u).counts i->∃j,(t++u).g? j=some 0/\p7 (t++u) i j:=by
 intro i g a k h0 c;have⟨j,f,b⟩:=h i g a (by grind[g?_old]) h0 ((counts_old (hh a e)).1 c);have l:j<t.size:=by grind[n2,hY,lt_size_of_getElem?]
 exact⟨j,by grind[g?_old],qF u b⟩
theorem bP.m(h:bP S Y n0 A rp p t w)(c:w.heap.size<=w'.heap.size):bP S Y n0 A rp p t w':= ⟨h.e,λ i b a=> ⟨hh (h.c i b a).1 c,(h.c i b a).2⟩,h.f,h.s,h.l,h.D,h.B,h.h,h.q,h.y,h.n,sr (t:=t) (u:= #[]) (λ op d=>zt c (h.o _ d)) (by simp)|>λ x=>by trivial,λ b a=>hh (h.d b a) c⟩
theorem bP.C(h:bP S Y n0 A rp p t w)(B:∀op∈u,op.g=g)(l:∀op∈u,op.act.low w.heap.size)(q:∀op∈u,∀x,op.act.touch?=some x->QY Y x.loc/\x.kind≠ .plain/\(x.kind= .said->∀k y,gb t k=some y->y.loc=x.loc->y.kind= .said->ep t g k)/\(A g\/(x.kind= .atomic/\eG S x.loc)))(J:A g\/∀k op,t.size<=k->(t++u)[k]?=some op->op.act.touch?≠none->¬(t++u).heard k):bP S Y n0 A rp p (t++u) w:=by
 have E:∀i b,(p i).a b->∀op∈u,∀x,op.act.touch?=some x->iX x.loc≠some b:=λ i b j op o x f e=>by have⟨⟨F,d,c⟩,_⟩:=q op o x f;rw[e]at d;cases d;exact(h.c i b j).2.2 c
 refine⟨h.e,h.c,h.f,h.s,λ said=>y4 (h.l said) B λ k a s op o b j v=>?_,λ i b j k x f l=>?_,λ i b j k x f l C=>?_,λ k x f D=>?_,λ k x f z=>?_,TG h.y h.n,by simp;exact gl h.n (by omega),sr h.o l,h.d⟩
 ·have⟨d,c,n,_⟩:=q op o b j;have⟨r,G,H,m⟩:=v;obtain m|m| ⟨_,m,I⟩:=m
  exact absurd m (h.h k a s (r▸d));all_goals grind
 ·rcases lx f with⟨d,c⟩| ⟨_,op,c,_,n⟩;exact(h.D i b j k x c l).app u;exact absurd l (E i b (h.e i b j) _ c x n)
 ·rcases lx f with⟨d,c⟩| ⟨_,op,c,_,n⟩;exact(h.B i b j k x c l C).app u;grind
 ·rcases lx f with⟨d,c⟩| ⟨_,op,c,_,n⟩;exact h.h k x c D;grind
 ·rcases lx f with⟨d,c⟩| ⟨K,op,c,o,n⟩;exact RV d (h.q k x c z);grind[pS]
theorem bP.z(h:bP S Y n0 A rp p t w)(e:∀op∈u,op.g=g)(a:∀op∈u,op.act.low w.heap.size)(d:∀op∈u,op.act.touch?=none):bP S Y n0 A rp p (t++u) w:=h.C e a (λ op c x i=>by grind) (.inr λ k op f c b=>absurd (d _ (by grind)) b)
theorem aae{q B}(a:∀b,q.a b->b<B){e}(h:iF q e):(gg e).low B:=(AB (S:=λ _=>False) (by grind) a h).2.2.2
theorem bP.M(h:bP S Y n0 A rp p t w){i}(Z:A i){p' es}(g:ey (p i) p' w w' es)(fn)(pos):bP S Y n0 A rp (fv p i p') (t++eH i fn pos es) w':=by
 have H:∀op∈eH i fn pos es,∀x,op.act.touch?=some x->∃b,iX x.loc=some b/\p'.a b/\(x.write=true->p'.b b)/\x.kind= .plain:=λ op l x m=>by obtain⟨e,F,rfl⟩:=fR l;exact D9 (g.d e F) m
 have new:∀b,w.heap.size<=b->∀k x,gb t k=some x->iX x.loc≠some b:=λ b c k x m e=>by have⟨op,n,f⟩:=nz m;have:=ail f e (h.o op (x2 n));omega
 have O:∀b,p'.a b->b<w'.heap.size:=λ b c=>by
  rcases g.i b c with x| ⟨_,x⟩;exact hh (h.c i b x).1 g.b;omega
 have o:∀j,j≠i->fv p i p' j=p j:=λ j d=>fu p p' d;have v:fv p i p' i=p':=gu p i p';have U:∀j b,j≠i->(p j).a b->¬p'.b b:=λ j b d c D=>by
  rcases g.k b D with x| ⟨x,_⟩;exact h.f i j b (bb d) x c;have:=(h.c j b c).1;omega
 refine⟨λ j b c=>?_,λ j b c=>?_,λ j k b M c C=>?_,λ j b c=>?_,λ said=>y4 (h.l said) (λ op l=>gz l) λ k a K op l x m R=>?_,λ j b c k x m s=>?_,λ j b c k x m s D=>?_,λ k x m N=>?_,λ k x m T=>?_,TG h.y h.n,by simp;exact gl h.n (by omega),?_,λ b c=>hh (h.d b c) g.b⟩;by_cases d:j=i;subst d;rw[v]at c⊢;by_cases x:(p j).b b;exact g.j b (h.e j b x);exact g.n b x c;rw[o j d]at c⊢;exact h.e j b c;by_cases d:j=i;subst d;rw[v]at c;refine⟨O b c,?_⟩;rcases g.i b c with x| ⟨x,_⟩
 exact(h.c j b x).2;exact⟨λ G=>by have:=h.d b (.inl G);omega,λ G=>by have:=h.d b (.inr G);omega⟩;rw[o j d]at c;exact⟨hh (h.c j b c).1 g.b,(h.c j b c).2⟩;by_cases d:j=i
 grind
 rw[o j d]at c;by_cases r:k=i;subst r;rw[v]at C;rcases g.i b C with x| ⟨x,_⟩
 exact h.f j k b M c x;have:=(h.c j b (h.e j b c)).1;omega;rw[o k r]at C;exact h.f j k b M c C;by_cases d:j=i
 grind
 rw[o j d]at c;exact h.s j b c;obtain⟨b,n,f,q,X⟩:=H op l x m;obtain⟨Q,V,u,W⟩:=R;have L:iX a.loc=some b:=Q▸n;rcases g.i b f with y| ⟨y,_⟩;rcases u with u|u;exact h.B i b y k a K L u;rcases g.k b (q u)with z| ⟨z,_⟩;exact h.D i b z k a K L
 grind
 grind
 rcases lx m with⟨n,f⟩| ⟨r,op,f,l,q⟩;by_cases d:j=i;subst d;rw[v]at c;rcases g.k b c with y| ⟨y,_⟩;exact(h.D j b y k x f s).app _
 grind
 rw[o j d]at c;exact(h.D j b c k x f s).app _;by_cases d:j=i;subst d;have:=pS l
 grind[gz]
 rw[o j d]at c;obtain⟨P,B,E,_⟩:=H op f x q;rw[s]at B;cases B;rcases g.i b E with y| ⟨y,_⟩
 exact absurd y (h.f j i b d c);have:=(h.c j b (h.e j b c)).1;omega;rcases lx m with⟨n,f⟩| ⟨r,op,f,l,q⟩;by_cases d:j=i;subst d;rw[v]at c;rcases g.i b c with y| ⟨y,_⟩
 exact(h.B j b y k x f s D).app _
 grind
 rw[o j d]at c;exact(h.B j b c k x f s D).app _;by_cases d:j=i;subst d;have:=pS l
 grind[gz]
 grind
 rcases lx m with⟨n,f⟩| ⟨r,op,f,l,q⟩;exact h.h k x f N;obtain⟨b,B,E,_⟩:=H op f x q;obtain⟨P,I,J⟩:=N;rw[B]at I;cases I;rcases g.i b E with y| ⟨y,_⟩;exact absurd J (h.c i b y).2.2;have:=h.d b (.inr J);omega;rcases lx m with⟨n,f⟩| ⟨r,op,f,l,q⟩;exact RV n (h.q k x f T);have:=pS l
 grind[gz]
 refine sr (λ op l=>zt g.b (h.o op l)) λ op l=>?_;obtain⟨e,F,rfl⟩:=fR l;exact aae O (g.d e F)
end
end
section
open Go.ConcN (upd upd_ne upd_same)
section
variable{S Y S' Y':Nat->Prop}{n0:Nat}{A A':Nat->Prop}{rp rp':MemAct->Prop}{p p':Nat->ai}{t u:Trace}{w w':World}
variable{y:MemOp}{k i:Nat}
theorem af8(t:kg)(x)(l):t++ (x::l).toArray=(t++ #[x])++l.toArray:=by simp
theorem bP.E:∀(l:List Go.MemOp){t:kg},bP S Y n0 A rp p t w->(∀op∈l,op.act.low w.heap.size)->(∀op∈l,op.act.touch?=none)->bP S Y n0 A rp p (t++l.toArray) w
 | [],t,h,_,_=>by trivial|x::l,t,h,h1,h2=>by rw[af8];exact bP.E l (h.z (g:=x.g) (by grind) (λ op a=>by grind) (λ op a=>by grind)) (by grind) (by grind)
theorem bP.K(h:bP S Y n0 A rp p t w)(h1:∀i b,(p' i).a b->(p i).a b)(h2:∀i b,(p' i).b b->(p i).b b/\(p' i).a b):bP S Y n0 A rp p' t w:= ⟨by grind,λ i b a=>h.c i b (h1 i b a),λ i j b d a c=>h.f i j b d (h2 i b a).1 (h1 j b c),λ i b a=>h.s i b (h1 i b a),h.l,λ i b a=>h.D i b (h2 i b a).1,λ i b a=>h.B i b (h1 i b a),h.h,h.q,h.y,h.n,h.o,h.d⟩
theorem bP.H(h:bP S Y n0 A rp p t w)(v:∀op∈u,op.act.low w.heap.size)(D:∀op∈u,op.act.touch?=none)(q:∀i,A i->A' i){j}(E:A' j)(r:∀k,ep t i k->ep (t++u) j k)(l:∀a b,(p' a).a b->(p a).a b\/(a=j/\(p i).a b))(o:∀a b,(p' a).b b->(p' a).a b/\((p a).b b\/(a=j/\(p i).b b)))(h3:∀a c b,a≠c->(p' a).b b->¬(p' c).a b):bP S Y n0 A' rp p' (t++u) w:=by
 have f:bP S Y n0 A rp p (t++u) w:=by have:=h.E u.toList (λ op C=>v op (by grind)) (λ op C=>D op (by grind));omega
 have old:∀k x,gb (t++u) k=some x->k<t.size/\gb t k=some x:=λ k x g=>by rcases lx g with⟨a,b⟩| ⟨_,op,b,_,c⟩;all_goals grind
 refine⟨λ a b d=>(o a b d).1,λ a b d=>?_,h3,λ a b d=>?_,f.l,λ a b d k x g m=>?_,λ a b d k x g m s=>?_,f.h,λ k x g B=>(f.q k x g B).imp id λ h=>h.imp (λ⟨i,l,o⟩=> ⟨i,q i l,o⟩) id,f.y,f.n,f.o,f.d⟩;rcases l a b d with y| ⟨_,y⟩;exact h.c a b y;exact h.c i b y;rcases l a b d with y| ⟨e,_⟩;exact q a (h.s a b y)
 grind
 obtain⟨z,n⟩:=old k x g;rcases(o a b d).2 with y| ⟨e,y⟩;exact(h.D a b y k x n m).app u;exact e▸r k (h.D i b y k x n m);obtain⟨z,n⟩:=old k x g;rcases l a b d with y| ⟨e,y⟩;exact(h.B a b y k x n m s).app u;exact e▸r k (h.B i b y k x n m s)
theorem bP.F(h:bP S Y n0 A rp p t w)(f:∀j,A j->A' j\/j=i)(q:∀j,A' j->A j/\j≠i)(u:∀a,rp a->rp' a)(s:∀k,ep t i k->∃r a,t.act? r=some a/\rp' a/\t.heard r/\k3 t k r):bP S Y n0 A' rp' (fv p i ⟨λ _=>False,λ _=>False⟩) t w:=by
 have v:fv p i ⟨λ _=>False,λ _=>False⟩ i= ⟨λ _=>False,λ _=>False⟩:=gu p i _;have m:∀j,j≠i->fv p i ⟨λ _=>False,λ _=>False⟩ j=p j:=λ j e=>fu p _ e;have d:=h.K (p':=fv p i ⟨λ _=>False,λ _=>False⟩) (λ j b c=>by grind) (λ j b c=>by
  by_cases e:j=i
  grind
  rw[m j e]at c⊢;exact⟨c,h.e j b c⟩);refine⟨d.e,d.c,d.f,λ j b c=>?_,d.l,d.D,d.B,d.h,λ k x l g=>?_,d.y,d.n,d.o,d.d⟩
 by_cases e:j=i
 grind
 exact(f j (d.s j b c)).resolve_right e;rcases h.q k x l g with y| ⟨j,n,o⟩| ⟨r,a,n,o,z⟩
 all_goals grind
theorem bP.G(h:bP S Y n0 A rp p t w)(b:A i)(d:∀r a,t.act? r=some a->rp a->t.heard r->ep t i r):bP S Y n0 A rp' p t w:= ⟨h.e,h.c,h.f,h.s,h.l,h.D,h.B,h.h,λ k x e c=>(h.q k x e c).imp id λ y=> .inl (y.elim id λ⟨r,a,f,g,j,l⟩=> ⟨i,b,Knows.of_before l (d r a f g j)⟩),h.y,h.n,h.o,h.d⟩
theorem bP.I(h:bP S Y n0 A rp p t w)(c:∀b,Y' b->Y b\/(b<w.heap.size/\(∀i,¬(p i).a b)/\∀k x,gb t k=some x->iX x.loc≠some b))(m:∀b,S b->S' b)(f:∀b,S' b->S b\/(b<w.heap.size/\∀i,¬(p i).a b)):bP S' Y' n0 A rp p t w:=by
 refine⟨h.e,λ i b a=> ⟨(h.c i b a).1,λ d=>?_,λ d=>?_⟩,h.f,h.s,h.l,h.D,h.B,λ k x e o=>?_,λ k x e n=>?_,h.y,h.n,h.o,λ b a=>?_⟩;rcases f b d with y| ⟨_,y⟩;exact(h.c i b a).2.1 y
 grind
 rcases c b d with y| ⟨_,y,_⟩;exact(h.c i b a).2.2 y
 grind
 obtain⟨b,g,j⟩:=o;rcases c b j with y| ⟨_,_,y⟩;exact h.h k x e ⟨b,g,y⟩
 grind
 refine(h.q k x e n).imp (λ⟨y,z⟩=> ⟨?_,z⟩) id;generalize x.loc=l at y⊢;cases l<;>first|exact m _ y|exact y
 rcases a with a|a;rcases f b a with y| ⟨y,_⟩;exact h.d b (.inl y);omega;rcases c b a with y| ⟨y,_⟩;exact h.d b (.inr y);omega
theorem AF(a:ej t y.g=0):(t++ #[y]).heard t.size:=by refine⟨y.g,by simp[n2],?_⟩;rw[deaf_old (fz _)];trivial
theorem CZ(y):(t++ #[y])[t.size]?=some y:=by simp
theorem Iu{g}(a:ep t g k)(b:y.g=g):p7 (t++ #[y]) k t.size:=a.hb_new (fz _) (CZ y) b
theorem C4{g r}(b:k3 (t++ #[y]) k r)(c:Notices (t++ #[y]) r t.size)(h1:(t++ #[y]).heard r)(a:ej t y.g=0)(d:y.g=g):ep (t++ #[y]) g k:= ⟨_,y,CZ y,d,.inr (b.hb (.single (.inr ⟨c,h1,AF a⟩)))⟩
theorem oZ(y):(t++ #[y]).act? t.size=some y.act:=act?_of (CZ y)
theorem agl{c x}(a:x.g=i)(e:x.act= .go c)(f:y.g=c)(l:y.act= .start)(b:ej t i=0)(h:ej t c=0)(d:ep t i k):ep ((t++ #[x])++ #[y]) c k:=by
 have g:(t++ #[x]).act? t.size=some (.go c):=by rw[oZ,e]
 have j:ej (t++ #[x]) c=0:=by grind[Deaf_push,deafStep]
 refine C4 (r:=t.size) (.inr (qF _ (Iu d a))) (.spawn (child:=c) ?_ ?_ ?_) ((kH (by simp)).2 (AF (a▸b))) (by grind) f;all_goals grind[lB,oZ,CZ,n2]
theorem Wb{j c n x m}(a:x.g=i)(g:x.act= .send c n)(h:y.g=j)(p:y.act= .recvDone c n)(b:ej t i=0)(o:ej ((t++ #[x])++m) j=0)(d:ep t i k):ep (((t++ #[x])++m)++ #[y]) j k:=by
 have l:(t++ #[x]).act? t.size=some (.send c n):=by rw[oZ,g]
 have e:t.size< (t++ #[x]).size:=by simp
 have f:t.size< ((t++ #[x])++m).size:=by grind
 refine C4 (r:=t.size) (.inr (qF _ (qF m (Iu d a)))) (.handOver (c:=c) (k:=n) ?_ ?_) ((kH f).2 ((kH e).2 (AF (a▸b)))) (by grind) h;all_goals grind[lB,oZ]
theorem afM{g c r}(h:t.act? r=some (.close c))(d:t.heard r)(e:k3 t k r)(a:y.g=g)(i:y.act= .recvClosed c)(b:ej t g=0):ep (t++ #[y]) g k:=have f:=r3 h;C4 (e.app _) (.closed (c:=c) (by grind[lB]) (by rw[oZ,i])) ((kH f).2 d) (a▸b) a
theorem VS{g r a}(j:t.act? r=some (.mark (.releaseMerge a)))(h:t.heard r)(i:k3 t k r)(c:y.g=g)(l:y.act= .mark (.acquire a))(f:ej t g=0)(p:∀op∈t,op.act≠ .mark (.release a)):ep (t++ #[y]) g k:=by have b:=r3 j;refine C4 (i.app _) (.marked (a:=a) b (.inr (by grind[lB])) (by rw[oZ,l]) λ q m d e=>?_) ((kH b).2 h) (c▸f) c;have⟨op,n,o⟩:=hY.1 e;grind
theorem bP.J{S}(h:nL (eG S) w.heap.size t)(e)(C:∀b,e.b b->e.a b)(q:∀b,e.a b->b<w.heap.size/\¬S b)(n:∀b,S b->b<w.heap.size):bP S (λ _=>False) t.size (λ i=>i=0) (λ _=>False) (λ i=>if i=0 then e else⟨λ _=>False,λ _=>False⟩) t w:=by
 have E:∀b,e.a b->∀k x,gb t k=some x->iX x.loc=some b->¬eG S x.loc->ep t 0 k:=λ b a k x d c r=>by
  have f:x.loc.isMemory=true:=by generalize x.loc=l at c;cases l<;>first|rfl|cases c
  exact(h.known k x d f).resolve_right λ y=>r y.1
 have F:∀b,e.a b->∀l,iX l=some b->¬eG S l:=λ b a l c m=>by cases l<;>simp[iX,Option.some.injEq]at c<;>first| (cases c;done)| (subst c;first|exact(q _ a).2 m|exact m)
 refine⟨λ i b a=>?_,λ i b a=>?_,λ i j b B a v=>?_,λ i b a=>?_,h.clean,λ i b a k x d c=>?_,λ i b a k x d c D=>?_,λ k x d s=>?_,λ k x d f=>?_,λ i g _ p h0 o=>h.over i g p h0 o,fz _,h.seen,λ b a=>a.elim (n b) False.elim⟩;grind;grind;grind;grind;grind;grind;have⟨_,_,A⟩:=s;trivial;rcases h.known k x d f with y| ⟨y,z⟩;grind;refine .inl ⟨y,z,.inl ?_⟩;have⟨op,u,_⟩:=nz d;grind
theorem bP.L(h:bP S Y n0 A rp p t w)(o:∀i,A i->i=0)(u:∀a,¬rp a)(l:ej t 0=0):nL (eG S) w.heap.size t:=by
 have key:∀k x,gb t k=some x->x.loc.isMemory=true->ep t 0 k\/(eG S x.loc/\x.kind= .atomic/\(k<n0\/¬t.heard k)):=λ k x c b=>by rcases h.q k x c b with y| ⟨i,f,j⟩| ⟨r,a,_,y,_⟩;all_goals grind
 refine⟨h.l,λ k x c b=>(key k x c b).imp id λ y=> ⟨y.1,y.2.1⟩,λ i g m h0 e=>?_,l,h.o⟩;by_cases n:i<n0;exact h.y i g n m h0 e
 ·have⟨x,c,b,s⟩:=e;rcases key i x c b with⟨q,z,f,j,d⟩| ⟨_,f,j⟩
  ·refine⟨q,by grind[n2],?_⟩;obtain d|d:=d;all_goals grind[n2]
  grind
end
end
section
variable{es:Array Event}
def kE(P:ef)(main:Bool)(J:b2->Prop)(Stop:Nat->eb->Prop):Nat->Nat->eb->Prop|0,d,g=>Stop d g|n+1,d,g=>Stop d g\/(g.status= .running/\∃g' es,(∀e∈es,mn e=true)/\(∀w,J w->dr P main g w= .go g' w es)/\(g'.status= .running\/g'.status= .finished)/\kE P main J Stop n (nH d es) g')
abbrev JT:b2->Prop:=λ _=>True
def gM(d:Nat)(g:eb):=g.status= .finished/\d=0
theorem PT{P}:∀{n d:Nat}{g:eb},QuitsD P n d g->kE P false JT gM n d g|0,_,_,h=>h|n+1,d,g,h=>h.imp id λ⟨b,g',es,c,e,a⟩=> ⟨b,g',es,c,λ w _=>e w,a.status,PT a⟩
theorem OP{P}:∀{n d:Nat}{g:eb},kE P false JT gM n d g->QuitsD P n d g|0,_,_,h=>h|n+1,d,g,h=>h.imp id λ⟨a,g',es,b,c,_,e⟩=> ⟨a,g',es,b,λ w=>c w trivial,OP e⟩
inductive dm where|cC (Stop:ai->eb->b2->Prop) (r:dI)|cF (J:b2->Prop) (Stop:Nat->eb->Prop)|ic (g:eb) (a:Go.CommCase) (b:Go.CommShape) (K:ai->b2->Prop)|kD (g:eb)
def dm.a:dm->dI| .cC _ r=>r|_=> .eM
def dT(w:b2)(c:Nat):=∃s r,w.heap[c]?=some (.chan 0 #[] false s r false)
def eJ(P:ef)(Y:Nat->Prop)(i d:Nat)(p:ai)(q k:Nat)(g:eb)(w:b2):dm->Prop| .cC Stop r=>(g.status= .running/\d=0)/\du P (i==0) Stop r p g w| .cF J Stop=>(g.status= .running\/g.status= .finished)/\kE P (i==0) J Stop q d g| .ic e b f K=>(g=l9 e #[b] f/\d=0)/\(∃c,b.chan= .chan (some c)/\Y c/\dT w c)/\∀w',bO p w w'->K p w'| .kD a=>(a.status= .running/\d=1)/\a.offers=none/\(g={a with status:= .blocked}\/(g=a/\k=1))
section
variable{P:Program}{Y:Nat->Prop}{i d q k:Nat}{p:ai}{g:Goroutine}{w w':World}{ρ:dm}
theorem eJ.e(h:eJ P Y i d p q k g w ρ):awake g:=by cases ρ with|cC Stop r=>exact l1 (.inl h.1.1)|cF J Stop=>exact h.1.elim (λ x=>l1 (.inl x)) λ x=>l1 (.inr (.inr x))|ic b a e K=>obtain⟨⟨rfl,_⟩,_⟩:=h;exact l1 (.inr (.inl rfl))|kD c=>obtain rfl| ⟨rfl,_⟩:=h.2.2;grind[l1];exact l1 (.inl h.1.1)
theorem eJ.c(h:eJ P Y i d p q k g w ρ)(a:bO p w w')(o:∀c,Y c->dT w c->dT w' c):eJ P Y i d p q k g w' ρ:=by cases ρ with|cC Stop r=>exact⟨h.1,h.2.c a⟩|cF J Stop=>exact h|ic l j u K=>have⟨b,⟨c,m,s,n⟩,e⟩:=h;exact⟨b,by grind,λ w2 f=>e _ (a.d f)⟩|kD t=>exact h
theorem Dk(h:g.status= .running):g.again w=g:=by grind[r4]
theorem aa5(h:g.status= .finished):g.again w=g:=by grind[r4]
theorem eJ.a(h:eJ P Y i d p q k g w ρ)(v:bO p w w')(u:∀c,Y c->dT w c->dT w' c)(a a'):eJ P Y i d p q 1 (u2 P a a' w' g) w' ρ:=by
 have m:=h.c v u;have F:eJ P Y i d p q k g w' ρ->eJ P Y i d p q 1 g w' ρ:=λ h=>by cases ρ with|cC Stop r=>exact h|cF J Stop=>exact h|ic l j z K=>exact h|kD f=>exact⟨h.1,h.2.1,h.2.2.imp id (by grind)⟩
 unfold u2;split;cases ρ with
 |cC Stop r=>rw[Dk h.1.1];trivial
 |cF J Stop=>
  rcases h.1 with x|x
  all_goals grind[Dk,aa5]
 |ic l j z K=>
  obtain⟨⟨rfl,t⟩,⟨c,b,y,s,r,n⟩,o⟩:=m;refine⟨⟨?_,t⟩,⟨c,b,y,s,r,n⟩,o⟩;simp_all[r4,l9]
 |kD f=>
  refine⟨h.1,h.2.1,.inr ⟨?_,rfl⟩⟩;rcases h.2.2 with rfl| ⟨rfl,_⟩
  have e:=h.1.1;have b:=h.2.1;obtain⟨A,B,C,D,E⟩:=f;subst e b;rfl;exact Dk h.1.1
 grind
end
structure fa(P:ef)(S Y:Nat->Prop)(n0:Nat)(A:Nat->Prop)(rp:vR->Prop)(p:Nat->ai)(ρ:Nat->dm)(q wk:Nat->Nat)(gs:Array eb)(t:kg)(w:b2):Prop where
 k:bP S Y n0 A rp p t w
 a:∀i g,gs[i]?=some g->eJ P Y i (ej t i) (p i) (q i) (wk i) g w (ρ i)
 e:∀j,gs.size<=j->ej t j=0
 b:∀i Stop r,ρ i= .cC Stop r->A i
section
variable{P:Program}{S Y:Nat->Prop}{n0:Nat}{A A':Nat->Prop}{rp rp':MemAct->Prop}{p p':Nat->ai}{ρ ρ':Nat->dm}{q wk q':Nat->Nat}{gs:Array Goroutine}{t:Trace}{w w':World}{sl:Option (Nat×Nat)}
theorem fa.s(h:fa P S Y n0 A rp p ρ q wk gs t w)(c:∃(i:Nat)(g:eb),gs[i]?=some g/\g.status= .running)(sl):∃(i:Nat)(g:eb)(d:Nat)(b:Option (Nat×Nat)),gs[i]?=some g/\g.status= .running/\stepT P (gf gs w sl)=nc P (gf gs (w.at d) b) i:=crowd_pick (λ g a=>by obtain⟨i,e,rfl⟩:=Array.mem_iff_getElem.1 a;exact(h.a i _ (by grind)).e) c
theorem fa.c(h:fa P S Y n0 A rp p ρ q wk gs t w)(d):fa P S Y n0 A rp p ρ q wk gs t (w.at d):= ⟨h.k.m (fz _),λ i g a=>(h.a i g a).c (jn _ _ _) λ _ _ x=>x,h.e,h.b⟩
theorem fa.l(h:fa P S Y n0 A rp p ρ q wk gs t w){i g g'}(l:gs[i]?=some g){fn pos} (m:bP S Y n0 A' rp' p' (t++eH i fn pos es) w') (hp:∀j,j≠i->p' j=p j) (v:∀j,j≠i->ρ' j=ρ j) (o:∀j,j≠i->q' j=q j) (s:∀j,j≠i->bO (p j) w w') (n:∀c,Y c->dT w c->dT w' c) (z:eJ P Y i (nH (ej t i) es) (p' i) (q' i) 1 g' w' (ρ' i)) (k:∀j Stop r,ρ' j= .cC Stop r->A' j):fa P S Y n0 A' rp' p' ρ' q' (λ _=>1) ((gs.map (u2 P g g' w')).setIfInBounds i g') (t++eH i fn pos es) w':=by
 have B:i<gs.size:=(hU.1 l).1;refine⟨m,λ j x f=>?_,λ j e=>?_,k⟩
 by_cases b:i=j;grind[Array.getElem?_setIfInBounds_self_of_lt,Go.Conc.Deaf_own];rw[ng b,pN]at f;obtain⟨y,u,rfl⟩:=hY.1 f;have a:j≠i:=bb b;rw[hp j a,v j a,o j a,z1 t (g:=j) (g':=i) b _ (λ op d=>gz d)];exact(h.a j y u).a (s j a) n g _;have e:gs.size<=j:=by grind
 rw[z1 t (g:=j) (g':=i) (by omega) _ (λ op d=>gz d)];exact h.e j e
theorem fa.h(h:fa P S Y n0 A rp p ρ q wk gs t w){i g}(u:gs[i]?=some g){Stop f}(F:ρ i= .cC Stop (.mk f))(R:g.status= .running)(d)(B) (O:∀w1,bO (p i) w w1->∃g' w' es p',dr P (i==0) g w1= .go g' w' es/\g'.status= .running/\ey (p i) p' w1 w' es/\du P (i==0) Stop (f w1) p' g' w'):∃m w' ops p',nc P (gf gs (w.at d) B) i=(.next (gf m w' B),ops)/\m.size=gs.size/\fa P S Y n0 A rp (fv p i p') (fv ρ i (.cC Stop (f (w.at d)))) q (λ _=>1) m (t++ops) w'/\(∀j C,j≠i->m[j]?=some C->∃x,gs[j]?=some x)/\ey (p i) p' (w.at d) w' (#[]:Array hN)/\(∀c,Y c->w'.heap[c]?=w.heap[c]?)/\∀op∈ops,∃e,iF p' e/\op.act= .ofEvent e:=by
 have⟨g',w',es,z,G,H,k,I⟩:=O (w.at d) (jn _ _ _);have J:A i:=h.b i Stop _ F;have v:bP S Y n0 A rp (fv p i z) (t++eH i g.frame.fn g.frame.place es) w':=(h.c d).k.M J k _ _;have K:∀c,Y c->w'.heap[c]?=w.heap[c]?:=λ c o=>k.f c (h.k.d c (.inr o)) λ y=>(h.k.c i c (h.k.e i c y)).2.2 o;have M:∀c,Y c->dT w c->dT w' c:=λ c U⟨s,r,o⟩=> ⟨s,r,by grind⟩;refine⟨_,w',_,z,rH (sl:=B) u G,by simp,(h.c d).l u v (λ j l=>fu p z l) (λ j l=>fu ρ _ l) (λ _ _=>rfl) (λ j l=>?_) M ?_ (λ j Q r l=>?_),λ j C l T=>?_,{k with d:=by simp},K,λ op N=>?_⟩;refine⟨k.b,λ a D=>k.f a (h.k.c j a D).1 λ y=>h.k.f i j a (bb l) y D,k.m,k.c,k.h⟩;rw[gu,gu];refine⟨⟨H,?_⟩,I⟩;have E:=h.a i g u;rw[F]at E;rw[Go.Conc.deafBehind_still (λ e n=>(AB (S:=λ _=>False) (by grind) (λ b L=>(v.c i b (by grind[gu])).1) (k.d e n)).2.1|>λ x=> ⟨x,(AB (S:=λ _=>False) (by grind) (λ b L=>(v.c i b (by grind[gu])).1) (k.d e n)).2.2.1⟩)];exact E.1.2
 by_cases e:j=i;grind;rw[fu ρ _ e]at l;exact h.b j _ r l
 grind
 obtain⟨e,n,rfl⟩:=fR N;exact⟨e,k.d e n,rfl⟩
theorem fa.f(h:fa P S Y n0 A rp p ρ q wk gs t w){i g}(k:gs[i]?=some g){J Stop}(s:ρ i= .cF J Stop){n}(z:q i=n+1)(v:g.status= .running)(d)(f){g'}(y:∀e∈es,mn e=true)(r:∀w,J w->dr P (i==0) g w= .go g' w es)(m:J (w.at d))(u:g'.status= .running\/g'.status= .finished)(B:kE P (i==0) J Stop n (nH (ej t i) es) g'):∃b ops,nc P (gf gs (w.at d) f) i=(.next (gf b (w.at d) f),ops)/\b.size=gs.size/\fa P S Y n0 A rp p ρ (fv q i n) (λ _=>1) b (t++ops) (w.at d)/\∀op∈ops,∃e,mn e=true/\op.act= .ofEvent e:=by have o:bP S Y n0 A rp p (t++eH i g.frame.fn g.frame.place es) (w.at d):=((h.c d).k.z (λ op a=>gz a) (λ op a=>by grind[fR,G5]) λ op a=>by grind[fR,r5]);refine⟨_,_,rH (sl:=f) k (r (w.at d) m),by simp,(h.c d).l k o (λ _ _=>rfl) (λ _ _=>rfl) (λ j l=>fu q n l) (λ j l=> .c _ _) (λ _ _ x=>x) ?_ h.b,λ op a=>?_⟩;rw[s,gu];trivial;grind[fR]
end
variable{P:Program}{S Y:Nat->Prop}{n0:Nat}{A A':Nat->Prop}{rp rp':MemAct->Prop}{p p':Nat->ai}{ρ ρ':Nat->dm}{q wk q' wk':Nat->Nat}{gs:Array Goroutine}{t u:Trace}{w w':World}{sl:Option (Nat×Nat)}
variable{i:Nat}{gi:Goroutine}
theorem fa.o(h:fa P S Y n0 A rp p ρ q wk gs t w){j}(z:i≠j){gj}(v:i<gs.size)(B:j<gs.size)(g:bP S Y n0 A' rp' p' (t++u) w')(hp:∀l,l≠i->l≠j->p' l=p l)(s:∀l,l≠i->l≠j->ρ' l=ρ l)(m:∀l,l≠i->l≠j->q' l=q l)(o:∀l,l≠i->l≠j->wk' l=wk l) (n:∀l,bO (p l) w w') (k:∀c,Y c->dT w c->dT w' c) (e:∀l,ej (t++u) l=ej t l) (y:eJ P Y i (ej t i) (p' i) (q' i) (wk' i) gi w' (ρ' i)) (C:eJ P Y j (ej t j) (p' j) (q' j) (wk' j) gj w' (ρ' j)) (f:∀j Stop r,ρ' j= .cC Stop r->A' j):fa P S Y n0 A' rp' p' ρ' q' wk' ((gs.setIfInBounds j gj).setIfInBounds i gi) (t++u) w':=by
 refine⟨g,λ l x d=>?_,λ l D=>by rw[e];exact h.e l (by grind),f⟩;rw[e];by_cases a:i=l;grind
 rw[ng a]at d;by_cases b:j=l;grind;rw[ng b]at d;rw[hp l (bb a) (bb b),s l (bb a) (bb b),m l (bb a) (bb b),o l (bb a) (bb b)];exact(h.a l x d).c (n l) k
theorem fa.n(h:fa P S Y n0 A rp p ρ q wk gs t w)(s:i<gs.size)(f:bP S Y n0 A' rp' p' (t++u) w')(hp:∀l,l≠i->p' l=p l)(o:∀l,l≠i->ρ' l=ρ l)(k:∀l,l≠i->q' l=q l)(n:∀l,l≠i->wk' l=wk l)(m:∀l,bO (p l) w w')(g:∀c,Y c->dT w c->dT w' c)(b:∀l,ej (t++u) l=ej t l)(v:eJ P Y i (ej t i) (p' i) (q' i) (wk' i) gi w' (ρ' i))(e:∀j Stop r,ρ' j= .cC Stop r->A' j):fa P S Y n0 A' rp' p' ρ' q' wk' (gs.setIfInBounds i gi) (t++u) w':=by refine⟨f,λ l x d=>?_,λ l y=>by rw[b];exact h.e l (by grind),e⟩;rw[b];by_cases a:i=l;grind;rw[ng a]at d;rw[hp l (bb a),o l (bb a),k l (bb a),n l (bb a)];exact(h.a l x d).c (m l) g
theorem fa.d(h:fa P S Y n0 A rp p ρ q wk gs t w){child}(y:i<gs.size)(g:bP S Y n0 A' rp' p' (t++u) w')(hp:∀l,l≠i->l≠gs.size->p' l=p l)(s:∀l,l≠i->l≠gs.size->ρ' l=ρ l)(m:∀l,l≠i->l≠gs.size->q' l=q l)(o:∀l,l≠i->l≠gs.size->wk' l=wk l) (n:∀l,bO (p l) w w') (k:∀c,Y c->dT w c->dT w' c) (e:∀l,ej (t++u) l=ej t l) (z:eJ P Y i (ej t i) (p' i) (q' i) (wk' i) gi w' (ρ' i)) (v:eJ P Y gs.size 0 (p' gs.size) (q' gs.size) (wk' gs.size) child w' (ρ' gs.size)) (f:∀j Stop r,ρ' j= .cC Stop r->A' j):fa P S Y n0 A' rp' p' ρ' q' wk' ((gs.setIfInBounds i gi).push child) (t++u) w':=by
 refine⟨g,λ l x a=>?_,λ l B=>by rw[e];exact h.e l (by grind),f⟩;rw[e];rw[Array.getElem?_push]at a;by_cases b:l=gs.size;subst b;rw[if_pos (by simp)]at a;cases a;rw[h.e _ (fz _)];omega
 rw[if_neg (by grind)]at a;by_cases d:i=l;grind;rw[ng d]at a;rw[hp l (bb d) b,s l (bb d) b,m l (bb d) b,o l (bb d) b];exact(h.a l x a).c (n l) k
end
section
variable{P:Program}
def ba(a:Nat)(w:b2)(st b:Int):=∃ty,w.heap[a]?=some (.cells #[.int .u64 st,.int .u32 b] ty (0,0))
def bR(c b:Nat):=(c:Int)*4294967296+b
abbrev bg(a:Nat):Addr:= ⟨a,0,none⟩
abbrev dL(a:Nat):Addr:= ⟨a,1,none⟩
def jK(a:eo):Array Event:= #[⟨.cell a,false,true⟩]
def qP(a:eo):Array Event:= #[⟨.cell a,true,true⟩]
def gK(a:eo):Array Event:= #[⟨.cell a,false,true⟩,⟨.cell a,true,true⟩]
def lu(a:eo):Array Event:= #[⟨.mark .disable,false,true⟩,⟨.cell a,false,true⟩,⟨.cell a,true,true⟩,⟨.mark .enable,false,true⟩]
def fp(m:Mark):Array Event:= #[⟨.mark m,false,true⟩]
def iS(c:Nat):Array Event:= #[⟨.obj c,false,true⟩,⟨.obj c,true,true⟩]
def bM(P:ef)(main:Bool)(J:b2->Prop)(d:Nat)(g:eb)(Stop:Nat->eb->Prop):=g.status= .running/\∃n,kE P main J Stop n d g
def bG(P:ef)(main:Bool)(p:ai)(g:eb)(w:b2)(Stop:ai->eb->b2->Prop):=g.status= .running/\∃r,du P main Stop r p g w
structure dY(P:ef)where
 a:Nat
 c:Nat
 b:Nat
 y:df
 o:df
 d:List df
 z:Nat->Prop
 K:b2
 j:df->df->Option Nat->b2->Prop
 n:Nat->Nat->eb->Prop
 t:Nat->eb->Prop
 B:Nat->Nat->eb->Prop
 w:Nat->eb->Prop
 e:List df->ai->eb->b2->Prop
 l:List df->ai->eb->b2->Prop
 f:ai->eb->b2->Prop
 k:df->ai->eb->b2->Prop
 D:ai->eb->b2->Prop
 F:Nat->eb->Prop
 G:Nat->eb->Prop
 x:Nat->eb->Prop
 u:Nat->eb->Prop
 E:Nat->eb->Prop
 i:Nat->ai->eb->b2->Prop
 q:Nat->eb->Prop
 H:Nat->Nat->eb->Prop
 C:Nat->eb->Prop
 m:Nat->eb->Prop
 r:Nat->eb->Prop
 A:Nat->eb->Prop
 s:ai->eb->b2->Prop
def dY.J(T:dY P)(w:b2):=∃st a,ba T.a w st a
def dY.h(T:dY P)(w:b2):=∀a,T.z a->w.heap[a]?=T.K.heap[a]?
def dY.p(T:dY P)(p:ai):=(∀a,T.z a->p.a a/\¬p.b a)
structure dY.g{P:ef}(T:dY P):Prop where
 F:∀x own b w,T.j x own (some b) w->¬T.z b
 e:∀x own U w w',T.j x own U w->(∀b,U=some b->w'.heap[b]?=w.heap[b]?)->T.j x own U w'
 M:∀j d g,T.n j d g->d=1/\g.status= .running/\∃g',(∀w,ba T.a w (bR j 0) 0->dr P true g w= .go g' (w.setCell (bg T.a) (.int .u64 (bR (j+1) 0))) (gK (bg T.a)))/\
  bM P true T.J 1 g' (if j=0 then T.t else T.B j)
 A:∀d g,T.t d g->d=1/\g.status= .running/\∃g',(∀w,dr P true g w= .go g' w (fp (.read (dL T.a))))/\bM P true T.J 1 g' (T.B 0)
 Q:∀j d g,T.B j d g->d=0/\g.status= .running/\∃g' child,(∀w,dr P true g w= .spawn g' child w #[])/\bM P true T.J 0 g' (if j<2 then T.n (j+1)else T.w)/\
  ∀p w,T.p p->T.h w->bG P false p child w T.f
 K:∀d g,T.w d g->d=0/\g.status= .running/\∃g' child,(∀w,dr P true g w= .spawn g' child w #[])/\(∀p w,T.p p->T.h w->bG P true p g' w (T.e []))/\
  ∀p w,T.p p->T.h w->bG P false p child w (T.i 0)
 h:∀l p g w,T.e l p g w->g.status= .running/\∃v,(∀w',dr P true g w'= .comm v #[hz T.b T.o] true (.recv true) w' #[])/\(v.frame=g.frame/\v.callers=g.callers/\v.dying=g.dying)/\
  (∀x own U p' w',(∃r,T.d.Perm (l++x::r))->bO p w w'->T.h w'->T.j x own U w'->(∀a,p'.a a↔p.a a\/U=some a)->(∀a,p'.b a↔p.b a\/U=some a)->bG P true p' (jc v (.tuple #[own,.bool true])) w' (T.e (l++ [x])))/\
  ∀w',bO p w w'->T.h w'->bG P true p (jc v (.tuple #[T.o,.bool false])) w' (T.l l)
 f:∀l p g w w',T.e l p g w->bO p w w'->T.e l p g w'
 o:∀l p g w g',T.e l p g w->g'.status= .running->g'.frame=g.frame->g'.callers=g.callers->g'.dying=g.dying->T.e l p g' w
 m:∀p g w w',T.f p g w->bO p w w'->T.f p g w'
 n:∀p g w g',T.f p g w->g'.status= .running->g'.frame=g.frame->g'.callers=g.callers->g'.dying=g.dying->T.f p g' w
 S:∀l p g w,T.l l p g w->g.status= .running
 i:∀p g w,T.f p g w->g.status= .running/\∃v,(∀w',dr P false g w'= .comm v #[hz T.c T.y] true (.recv true) w' #[])/\(v.frame=g.frame/\v.callers=g.callers/\v.dying=g.dying)/\
  (∀x w',x∈T.d->bO p w w'->T.h w'->bG P false p (jc v (.tuple #[x,.bool true])) w' (T.k x))/\
  ∀w',bO p w w'->T.h w'->bG P false p (jc v (.tuple #[T.y,.bool false])) w' T.D
 D:∀x p g w,T.k x p g w->g.status= .running/\∃own U v,(∀w',bO p w w'->dr P false g w'= .comm v #[q0 T.b own (.tuple #[])] true .send w' #[])/\T.j x own U w/\(∀b,U=some b->p.b b)/\
  ∀p' w',(∀a,p'.a a↔p.a a/\U≠some a)->(∀a,p'.b a↔p.b a/\U≠some a)->bO p' w w'->T.h w'->bG P false p' (jc v eg) w' T.f
 R:∀p g w,T.D p g w->g.status= .running/\∃g',(∀w',dr P false g w'= .go g' w')/\bM P false T.J 0 g' T.F
 L:∀d g,T.F d g->d=0/\g.status= .running/\∃g',(∀w,dr P false g w= .go g' w (fp (.releaseMerge (bg T.a))))/\bM P false T.J 0 g' T.G
 H:∀d g,T.G d g->d=1/\g.status= .running/\∀c b,0<c->c<=3->b<=1->∃g',(∀w J,ba T.a w (bR c b) J->dr P false g w= .go g' (w.setCell (bg T.a) (.int .u64 (bR (c- 1) b))) (gK (bg T.a)))/\
  bM P false (if c=1/\b=1 then T.J else JT) 1 g' (if c=1/\b=1 then T.x else gM)
 B:∀d g,T.x d g->d=1/\g.status= .running/\∃g',(∀w J,ba T.a w (bR 0 1) J->dr P false g w= .go g' w (jK (bg T.a)))/\bM P false T.J 1 g' T.u
 t:∀d g,T.u d g->d=1/\g.status= .running/\∃g',(∀w J,ba T.a w (bR 0 1) J->dr P false g w= .go g' (w.setCell (bg T.a) (.int .u64 0)) (qP (bg T.a)))/\bM P false T.J 1 g' T.E
 y:∀d g,T.E d g->d=1/\g.status= .running/\mayWake P g=true/\∃g',(∀w,ba T.a w 0 0->dr P false g w= .go g' (w.setCell (dL T.a) (.int .u32 1)) (lu (dL T.a)))/\bM P false JT 1 g' gM
 C:∀k x p g w,T.i k p g w->T.d[k]?=some x->g.status= .running/\∃v,(∀w',bO p w w'->dr P false g w'= .comm v #[q0 T.c x (.tuple #[])] true .send w' #[])/\
  ∀p' w',T.p p'->T.h w'->bG P false p' (jc v eg) w' (T.i (k+1))
 O:∀k p g w,T.i k p g w->T.d[k]?=none->g.status= .running/\mayWake P g=true/\∃g',(∀w s r,w.heap[T.c]?=some (.chan 0 #[] false s r false)->dr P false g w= .go g' (w.setChan T.c 0 #[] true s r false) (iS T.c))/\bM P false T.J 0 g' T.q
 E:∀d g,T.q d g->d=1/\g.status= .running/\∀c,c<=3->∃g',(∀w J,ba T.a w (bR c 0) J->dr P false g w= .go g' w (jK (bg T.a)))/\bM P false T.J 1 g' (if c=0 then T.A else T.H c)
 N:∀c d g,T.H c d g->d=1/\g.status= .running/\0<c/\c<=3/\(∃g',(∀w J,ba T.a w (bR c 0) J->dr P false g w= .go g' (w.setCell (bg T.a) (.int .u64 (bR c 1))) (gK (bg T.a)))/\bM P false T.J 1 g' T.C)/\
  ∃g',(∀w c' J,c'<c->ba T.a w (bR c' 0) J->dr P false g w= .go g' w (jK (bg T.a)))/\bM P false T.J 1 g' T.q
 z:∀d g,T.C d g->d=1/\g.status= .running/\∃g',(∀w,dr P false g w= .go g' w (fp (.write (dL T.a))))/\bM P false T.J 1 g' T.m
 u:∀d g,T.m d g->d=1/\g.status= .running/\g.offers=none/\(∀w st,ba T.a w st 0->dr P false g w= .go {g with status:= .blocked} w #[])/\
  ∃g',(∀w st,ba T.a w st 1->dr P false g w= .go g' (w.setCell (dL T.a) (.int .u32 0)) (lu (dL T.a)))/\bM P false T.J 1 g' T.r
 q:∀d g,T.r d g->d=1/\g.status= .running/\∃g',(∀w J,ba T.a w 0 J->dr P false g w= .go g' w (jK (bg T.a)))/\bM P false T.J 1 g' T.A
 I:∀d g,T.A d g->d=0/\g.status= .running/\∃g',(∀w,dr P false g w= .go g' w (fp (.acquire (bg T.a))))/\∀p w,T.p p->T.h w->bG P false p g' w T.s
 G:∀p g w,T.s p g w->g.status= .running/\mayWake P g=true/\∃g',(∀w s r,w.heap[T.b]?=some (.chan 0 #[] false s r false)->dr P false g w= .go g' (w.setChan T.b 0 #[] true s r false) (iS T.b))/\bM P false JT 0 g' gM
end
inductive bD where|iN (j:Nat)|lI|go (j:Nat)|mW|eD (l:List df)|dH (l:List df)|eF (l:List df)
inductive bm where|fD|eC|eA|iz (x:df)|eh (x own:df) (ob:Option Nat)|lN|ln|lF|dg|dA|dt|cd
inductive bJ where|cg|dF (k:Nat)|ff (k:Nat)|ir|lD (c:Nat)|iH|eE|dZ|kI|jC|fG|dD
def bD.a:bD->Nat| .iN j=>min j 3| .lI=>0| .go j=>min j 3| .mW=>3|_=>4
def bD.c:bD->Nat| .iN j=>j| .lI=>1| .go j=>j+1|_=>3
def bD.f:bD->List df| .eD l| .dH l| .eF l=>l|_=> []
def bm.e:bm->Bool| .eC| .eA| .iz _| .eh _ _ _| .lN| .ln=>true|_=>false
def bm.b:bm->Bool| .dg| .dA| .dt| .cd=>true|_=>false
def bm.g:bm->Bool| .lN| .ln| .lF| .dg| .dA| .dt| .cd=>true|_=>false
def bm.a:bm->List df| .iz x| .eh x _ _=> [x]|_=> []
def bJ.d:bJ->Bool| .cg| .dD=>false|_=>true
def bJ.c:bJ->Bool| .cg| .dF _| .ff _=>false|_=>true
def bJ.e(m:Nat):bJ->Nat| .cg=>0| .dF k| .ff k=>k|_=>m
section
variable{P:Program}(T:dY P)
def rI:bD->dm->Prop| .iN j,ρ=>j<=2/\ρ= .cF T.J (T.n j)| .lI,ρ=>ρ= .cF T.J T.t| .go j,ρ=>j<=2/\ρ= .cF T.J (T.B j)| .mW,ρ=>ρ= .cF T.J T.w| .eD l,ρ=>∃r,ρ= .cC (T.e l) r| .dH _,ρ=>∃a K,ρ= .ic a (hz T.b T.o) (.recv true) K| .eF l,ρ=>∃r,ρ= .cC (T.l l) r
def TQ(g2:eb)(p:ai)(w:b2):=T.f p {l9 g2 #[hz T.c T.y] (.recv true)with status:= .running} w/\∀w',dr P false {l9 g2 #[hz T.c T.y] (.recv true)with status:= .running} w'= .comm g2 #[hz T.c T.y] true (.recv true) w' #[]
def IM(g2:eb)(ob:Option Nat)(p:ai)(w:b2):=∀p' w',(∀a,p'.a a↔p.a a/\ob≠some a)->(∀a,p'.b a↔p.b a/\ob≠some a)->bO p' w w'->T.h w'->bG P false p' (jc g2 eg) w' T.f
def uY:bm->dm->Prop| .fD,_=>True| .eC,ρ=>∃r,ρ= .cC T.f r| .eA,ρ=>∃a,ρ= .ic a (hz T.c T.y) (.recv true) (TQ T a)| .iz x,ρ=>x∈T.d/\∃r,ρ= .cC (T.k x) r| .eh x own b,ρ=>x∈T.d/\∃a,ρ= .ic a (q0 T.b own (.tuple #[])) .send (IM T a b)| .lN,ρ=>∃r,ρ= .cC T.D r| .ln,ρ=>ρ= .cF T.J T.F| .lF,ρ=>ρ= .cF T.J T.G| .dg,ρ=>ρ= .cF T.J T.x| .dA,ρ=>ρ= .cF T.J T.u| .dt,ρ=>ρ= .cF T.J T.E| .cd,ρ=>ρ= .cF JT gM
def xq:bJ->dm->Prop| .cg,_=>True| .dF k,ρ=>k<=T.d.length/\∃r,ρ= .cC (T.i k) r| .ff k,ρ=>∃a x K,T.d[k]?=some x/\ρ= .ic a (q0 T.c x (.tuple #[])) .send K/\∀p' w',T.p p'->T.h w'->bG P false p' (jc a eg) w' (T.i (k+1))| .ir,ρ=>ρ= .cF T.J T.q| .lD c,ρ=>ρ= .cF T.J (T.H c)| .iH,ρ=>ρ= .cF T.J T.C| .eE,ρ=>ρ= .cF T.J T.m| .dZ,ρ=>∃b,ρ= .kD b/\T.m 1 b| .kI,ρ=>ρ= .cF T.J T.r| .jC,ρ=>ρ= .cF T.J T.A| .fG,ρ=>∃r,ρ= .cC T.s r| .dD,ρ=>ρ= .cF JT gM
def bE(n:Nat)(a:Nat->bm)(fs:bJ)(i:Nat):=i=0\/(∃j,j<3/\i=n+j/\(a j).e=true)\/(i=n+3/\fs.d=true)
def de(ms:bD)(fs:bJ)(a:vR):Prop:=match ms,fs with| .eF _,_=>False|_,.dD=>a= .close T.b|_,.fG=>False|_,_=>a= .mark (.releaseMerge (bg T.a))
def bz(ms:bD)(a:Nat->bm):=ms.c- ((if(a 0).b then 1 else 0)+ (if(a 1).b then 1 else 0)+ (if(a 2).b then 1 else 0))
def ib(ms:bD)(a:Nat->bm)(fs:bJ)(w:b2):Prop:=match fs with
 | .iH| .eE=>(ba T.a w (bR (bz ms a) 1) 0/\0<bz ms a/\∀j,a j≠ .dg/\a j≠ .dA/\a j≠ .dt)\/(bz ms a=0/\∃j,j<3/\(∀l,l<3->l≠j->a l= .cd)/\((ba T.a w (bR 0 1) 0/\(a j= .dg\/a j= .dA))\/(ba T.a w 0 0/\a j= .dt)\/(ba T.a w 0 1/\a j= .cd)))| .dZ=>(ba T.a w (bR (bz ms a) 1) 0/\0<bz ms a/\∀j,a j≠ .dg/\a j≠ .dA/\a j≠ .dt)\/(bz ms a=0/\∃j,j<3/\(∀l,l<3->l≠j->a l= .cd)/\((ba T.a w (bR 0 1) 0/\(a j= .dg\/a j= .dA))\/(ba T.a w 0 0/\a j= .dt)))| .kI| .jC| .fG| .dD=>ba T.a w 0 0/\∀l,l<3->a l= .cd| .lD c=>ba T.a w (bR (bz ms a) 0) 0/\bz ms a<=c/\∀j,a j≠ .dg/\a j≠ .dA/\a j≠ .dt|_=>ba T.a w (bR (bz ms a) 0) 0/\∀j,a j≠ .dg/\a j≠ .dA/\a j≠ .dt
structure ed(ms:bD)(m:Nat->bm)(fs:bJ):Prop where
 g:∀k j,fs= .ff k->m j≠ .eA
 h:∀l j x own o,ms= .dH l->m j≠ .eh x own o
 f:fs.c=true->∀j,m j≠ .eA
 n:∀l,fs= .dD->ms≠ .dH l
 b:∀j,(m j).g=true->fs.c=true
 d:∀j,j<3->(m j= .fD↔ms.a<=j)
 a:fs= .cg↔ms.a<=3
 c:∀j,3<=j->m j= .fD
 e:(T.d.take (fs.e T.d.length)).Perm (ms.f++ ((m 0).a++ ((m 1).a++ (m 2).a)))
 i:∀l,ms= .eF l->fs= .dD
def bJ.a:bJ->Bool| .dD=>true|_=>false
structure Ab(n h:Nat)(w0:b2)(ms:bD)(v:Nat->bm)(fs:bJ)(p:Nat->ai)(t:kg)(w:b2):Prop where
 e:0<n
 l:∀i,bE n v fs i->T.p (p i)
 y:T.h w
 c:T.c≠T.b/\T.a≠T.c/\T.a≠T.b
 d:ed T ms v fs
 o:ib T ms v fs w
 r:∃s,w.heap[T.c]?=some (.chan 0 #[] fs.c s s false)
 q:∃s,w.heap[T.b]?=some (.chan 0 #[] fs.a s s false)
 g:∀j x g z,v j= .eh x g z->T.j x g z w/\∀b,z=some b->(p (n+j)).b b
 D:∀op∈t,op.act≠ .mark (.release (bg T.a))
 B:∀k x,gb t k=some x->x.kind= .said->x.loc= .cell (dL T.a)->if fs.d=true then ep t (n+3) k else(fs= .cg->ep t 0 k)
 E:∀a,a<h->w.heap[a]?=w0.heap[a]?
 f:∀i a,(p i).b a->h<=a
 C:h<=T.a/\h<=T.c/\h<=T.b
 u:∀a,T.z a->a<w.heap.size/\a≠T.a/\a≠T.c/\a≠T.b
 m:w.os=w0.os/\w.output=w0.output/\w.tape=w0.tape/\h<=w.heap.size/\h=w0.heap.size
structure aP(S:Nat->Prop)(n s n0:Nat)(w0:b2)(ms:bD)(g:Nat->bm)(fs:bJ)(p:Nat->ai)(ρ:Nat->dm)(q v:Nat->Nat)(h:Array eb)(t:kg)(w:b2):Prop where
 c:fa P S (λ b=>b=T.a\/b=T.c\/b=T.b) n0 (bE n g fs) (de T ms fs) p ρ q v h t w
 a:Ab T n s w0 ms g fs p t w
 e:h.size=n+ms.a
 o:S T.a
 r:rI T ms (ρ 0)
 f:∀j,j<3->uY T (g j) (ρ (n+j))
 u:xq T fs (ρ (n+3))
 k:∀i,0<i->i<n->ρ i= .cF JT gM
 m:∀l d K,ms= .dH l->ρ 0= .ic d (hz T.b T.o) (.recv true) K->T.e l (p 0) {l9 d #[hz T.b T.o] (.recv true)with status:= .running} w/\
  ∀w',dr P true {l9 d #[hz T.b T.o] (.recv true)with status:= .running} w'= .comm d #[hz T.b T.o] true (.recv true) w' #[]
end
section
variable{P:Program}{T:dY P}{S:Nat->Prop}{n N0 n0:Nat}{w0:World}{ms:bD}{ws:Nat->bm}{fs:bJ}{p p':Nat->ai}{ρ:Nat->dm}{q wk:Nat->Nat}{gs:Array Goroutine}{t u:Trace}{w w':World}
variable{i:Nat}{g:Goroutine}
theorem lK{a st b}(h:w'.heap[a]?=w.heap[a]?)(k:ba a w st b):ba a w' st b:=let⟨ty,e⟩:=k; ⟨_,h.trans e⟩
theorem IU(h:w'.heap[T.a]?=w.heap[T.a]?)(k:ib T ms ws fs w):ib T ms ws fs w':=by cases fs with|iH=>exact k.imp (λ x=> ⟨lK h x.1,x.2⟩) λ⟨x,j,a,y,z⟩=> ⟨x,j,a,y,z.imp (λ z=> ⟨lK h z.1,z.2⟩) λ z=>z.imp (λ z=> ⟨lK h z.1,z.2⟩) λ z=> ⟨lK h z.1,z.2⟩⟩|eE=>exact k.imp (λ x=> ⟨lK h x.1,x.2⟩) λ⟨x,j,a,y,z⟩=> ⟨x,j,a,y,z.imp (λ z=> ⟨lK h z.1,z.2⟩) λ z=>z.imp (λ z=> ⟨lK h z.1,z.2⟩) λ z=> ⟨lK h z.1,z.2⟩⟩|dZ=>exact k.imp (λ x=> ⟨lK h x.1,x.2⟩) λ⟨x,j,a,y,z⟩=> ⟨x,j,a,y,z.imp (λ z=> ⟨lK h z.1,z.2⟩) λ z=> ⟨lK h z.1,z.2⟩⟩|_=>exact⟨lK h k.1,k.2⟩
theorem Ab.F(h:Ab T n N0 w0 ms ws fs p t w)(I:T.g)(G:w.heap.size<=w'.heap.size)(K:∀a,T.z a->w'.heap[a]?=w.heap[a]?)(A:w'.heap[T.a]?=w.heap[T.a]?/\w'.heap[T.c]?=w.heap[T.c]?/\w'.heap[T.b]?=w.heap[T.b]?)(V:∀j x own b,ws j= .eh x own (some b)->w'.heap[b]?=w.heap[b]?/\(p' (n+j)).b b)(P:∀a,a<N0->w'.heap[a]?=w.heap[a]?)(O:∀i,bE n ws fs i->T.p (p' i))(Q:∀i a,(p' i).b a->N0<=a)(S:∀op∈u,op.act≠ .mark (.release (bg T.a)))(W:∀op∈u,∀x,op.act.touch?=some x->x.kind≠ .said)(F:w'.os=w.os/\w'.output=w.output/\w'.tape=w.tape):Ab T n N0 w0 ms ws fs p' (t++u) w' where
 e:=h.e
 l:=O
 y:=λ a v=>(K a v).trans (h.y a v)
 c:=h.c
 d:=h.d
 o:=IU A.1 h.o
 r:=let⟨s,e⟩:=h.r; ⟨s,A.2.1.trans e⟩
 q:=let⟨s,e⟩:=h.q; ⟨s,A.2.2.trans e⟩
 g:=λ j x own H e=>by have⟨z,J⟩:=h.g j x own H e;refine⟨I.e x own H w w' z λ b L=>?_,λ b L=>?_⟩;all_goals grind
 D:=λ op R=>(kL.1 R).elim (h.D op) (S op)
 B:=λ k x U M N=>by
  rcases lx U with⟨_,z⟩| ⟨_,op,z,_,J⟩;have:=h.B k x z M N;split at this;rw[if_pos ‹_›];exact this.app u;rw[if_neg ‹_›];exact λ e=>(this e).app u;grind
 E:=λ a v=>(P a v).trans (h.E a v)
 f:=Q
 C:=h.C
 u:=λ a v=> ⟨hh (h.u a v).1 G,(h.u a v).2⟩
 m:= ⟨F.1.trans h.m.1,F.2.1.trans h.m.2.1,F.2.2.trans h.m.2.2.1,gl h.m.2.2.2.1 G,h.m.2.2.2.2⟩
theorem aiy{q e}(h:iF q e){x}(a:(gg e).touch?=some x):x.kind≠ .said:=by grind[D9]
theorem aP.ajX(F:T.g)(h:aP T S n N0 n0 w0 ms ws fs p ρ q wk gs t w)(V:gs[i]?=some g){Stop f}(I:ρ i= .cC Stop (.mk f))(R:g.status= .running)(d)(E) (ad:∀w1,bO (p i) w w1->∃g' w' es p',dr P (i==0) g w1= .go g' w' es/\g'.status= .running/\ey (p i) p' w1 w' es/\du P (i==0) Stop (f w1) p' g' w'):∃y w' ops p',nc P (gf gs (w.at d) E) i=(.next (gf y w' E),ops)/\aP T S n N0 n0 w0 ms ws fs p' (fv ρ i (.cC Stop (f (w.at d)))) q (λ _=>1) y (t++ops) w':=by
 have⟨y,w',ops,A,M,N,O,al,k,B,am⟩:=h.c.h V I R d E ad;have C:=h.c.k;have ag:∀j,(∃g L aj K,ρ j= .ic g L aj K)->j≠i:=λ j⟨a,b,c,_,e⟩z=>by grind
 have ab:∀j,j≠i->∀a,(p j).a a->w'.heap[a]?=w.heap[a]?:=λ j z a s=>k.f a (C.c j a s).1 λ m=>C.f i j a (bb z) m s;have af:∀o,bE n ws fs o->T.p (fv p i A o):=λ o s a v=>by
  have aa:=h.a.l o s a v;by_cases e:o=i
  subst e;rw[gu];refine⟨k.j a aa.1,λ m=>?_⟩;rcases k.k a m with x| ⟨x,_⟩
  grind
  have:=(h.a.u a v).1;have x:w.heap.size<=a:=x;omega
  grind[fu]
 have ah:∀a,T.z a->w'.heap[a]?=w.heap[a]?:=λ a v=>k.f a (h.a.u a v).1 (h.a.l i (h.c.b i Stop _ I) a v).2;have J:Ab T n N0 w0 ms ws fs (fv p i A) (t++ops) w':=by
  refine h.a.F F k.b ah ⟨B _ (.inl rfl),B _ (.inr (.inl rfl)),B _ (.inr (.inr rfl))⟩ (λ j x own b e=>?_) (λ a s=>k.f a (hh s h.a.m.2.2.2.1) λ m=>by have:=h.a.f i a m;omega) af (λ o a m=>?_)
   (λ op ac=>by grind[Jq]) (λ op ac x ap=>by grind[aiy]) ⟨k.m,k.c,k.h⟩
  have W:j<3:=Nat.lt_of_not_le λ Y=>by rw[h.a.d.c j Y]at e;cases e
  have u:=h.f j W;rw[e]at u;have⟨_,G,U⟩:=u;have m:=(h.a.g j x own _ e).2 b rfl;exact⟨ab _ (ag _ ⟨_,_,_,_,U⟩) b (C.e _ b m),by grind[fu]⟩;by_cases e:o=i;subst e;rw[gu]at m;rcases k.k a m with x| ⟨x,_⟩
  exact h.a.f _ a x;have:=h.a.m.2.2.2.1;have x:w.heap.size<=a:=x;omega;rw[fu p A e]at m;exact h.a.f _ a m
 have D:∀j(Q:dm->Prop),(∀r,Q (.cC Stop r)↔Q (.cC Stop (.mk f)))->Q (ρ j)->Q (fv ρ i (.cC Stop (f (w.at d))) j):=λ j Q an ao=>by
  grind[gu,fu]
 refine⟨y,w',ops,fv p i A,M,O,J,N.trans h.e,h.o,D 0 _ (λ r=>?_) h.r,λ j z=>D (n+j) _ (λ r=>?_) (h.f j z),D (n+3) _ (λ r=>?_) h.u,λ o h0 H=>?_,λ l G K e u=>?_⟩;cases ms<;>simp[rI];cases ws j<;>simp[uY];cases fs<;>simp[xq]
 have e:o≠i:=λ e=>by
  subst e;have:=h.k o h0 H
  grind
 rw[fu _ _ e];exact h.k _ h0 H;have h0:0≠i:=λ ak=>by
  grind[gu]
 rw[fu ρ _ h0]at u;rw[fu p _ h0];have⟨m1,m2⟩:=h.m l G K e u;exact⟨F.f _ _ _ _ _ m1 ⟨k.b,by grind,k.m,k.c,k.h⟩,m2⟩
theorem aP.aj1(f:T.g)(h:aP T S n N0 n0 w0 ms ws fs p ρ q wk gs t w)(z:gs[i]?=some g){J Stop}(G:ρ i= .cF J Stop){k}(C:q i=k+1)(y:g.status= .running)(d)(c){g' es}(A:∀e∈es,mn e=true)(E:∀w,J w->dr P (i==0) g w= .go g' w es)(u:J (w.at d))(v:g'.status= .running\/g'.status= .finished)(F:kE P (i==0) J Stop k (nH (ej t i) es) g'):∃a ops,nc P (gf gs (w.at d) c) i=(.next (gf a (w.at d) c),ops)/\aP T S n N0 n0 w0 ms ws fs p ρ (fv q i k) (λ _=>1) a (t++ops) (w.at d):=by
 have⟨a,ops,o,r,s,H⟩:=h.c.f z G C y d c A E u v F;refine⟨a,ops,o,s,h.a.F f (fz _) (λ _ _=>rfl) ⟨rfl,rfl,rfl⟩ (λ j x own b e=> ⟨rfl,(h.a.g j x own _ e).2 b rfl⟩) (λ _ _=>rfl) h.a.l h.a.f (λ op B=>?_) (λ op B x I=>?_) ⟨rfl,rfl,rfl⟩,r.trans h.e,h.o,h.r,h.f,h.u,h.k,λ l m K e D=>?_⟩
 grind[xd]
 grind[r5]
 obtain⟨m1,m2⟩:=h.m l m K e D;exact⟨f.f _ _ _ _ _ m1 (jn _ _ _),m2⟩
theorem Ab.z{ms' ws' fs'}(h:Ab T n N0 w0 ms ws fs p t w)(N:ed T ms' ws' fs')(O:ib T ms' ws' fs' w')(I:∃s,w'.heap[T.c]?=some (.chan 0 #[] fs'.c s s false))(H:∃s,w'.heap[T.b]?=some (.chan 0 #[] fs'.a s s false))(G:w'.heap.size=w.heap.size)(F:∀a,a≠T.a->a≠T.c->a≠T.b->w'.heap[a]?=w.heap[a]?)(M:∀i,bE n ws' fs' i->T.p (p' i))(own:∀j x own A,ws' j= .eh x own A->T.j x own A w'/\∀b,A=some b->(p' (n+j)).b b)(J:∀i a,(p' i).b a->N0<=a)(L:∀op∈u,op.act≠ .mark (.release (bg T.a)))(said:∀k x,gb (t++u) k=some x->x.kind= .said->x.loc= .cell (dL T.a)->if fs'.d=true then ep (t++u) (n+3) k else(fs'= .cg->ep (t++u) 0 k))(z:w'.os=w.os/\w'.output=w.output/\w'.tape=w.tape):Ab T n N0 w0 ms' ws' fs' p' (t++u) w' where
 e:=h.e
 l:=M
 y:=λ a v=>(F a (h.u a v).2.1 (h.u a v).2.2.1 (h.u a v).2.2.2).trans (h.y a v)
 c:=h.c
 d:=N
 o:=O
 r:=I
 q:=H
 g:=own
 D:=λ op K=>(kL.1 K).elim (h.D op) (L op)
 B:=said
 E:=λ a v=>(F a (by have:=h.C;omega) (by have:=h.C;omega) (by have:=h.C;omega)).trans (h.E a v)
 f:=J
 C:=h.C
 u:=λ a v=> ⟨by rw[G];exact(h.u a v).1,(h.u a v).2⟩
 m:= ⟨z.1.trans h.m.1,z.2.1.trans h.m.2.1,z.2.2.trans h.m.2.2.1,by rw[G];exact h.m.2.2.2.1,h.m.2.2.2.2⟩
theorem Ab.h{fs':bJ}(h:Ab T n N0 w0 ms ws fs p t w)(j:∀op∈u,∀x,op.act.touch?=some x->x.kind≠ .said)(b:fs'.d=fs.d)(c:fs'= .cg↔fs= .cg):∀k x,gb (t++u) k=some x->x.kind= .said->x.loc= .cell (dL T.a)->if fs'.d=true then ep (t++u) (n+3) k else(fs'= .cg->ep (t++u) 0 k):=λ k x g d f=>by
 rcases lx g with⟨_,a⟩| ⟨_,op,a,_,i⟩;have:=h.B k x a d f;rw[b];split at this;rw[if_pos ‹_›];exact this.app u;rw[if_neg ‹_›];exact λ e=>(this (c.1 e)).app u;grind
theorem mJ{ws' fs'}(h1:∀j,j<3->(ws' j).e=(ws j).e)(h2:fs'.d=fs.d):bE n ws' fs'=bE n ws fs:=by grind[bE]
end
section
variable{es:Array Event}{g:Nat}{A:Nat->Prop}{rp:MemAct->Prop}{Wg:Nat}{st sm:Int}{a:Addr}{m:Mark}{fn:FuncId}
def bD.d:bD->Nat| .iN j=>100- 10*j| .lI=>95| .go j=>92- 10*j| .mW=>60| .eD _=>5| .dH _=>4| .eF _=>0
def bm.c:bm->Nat| .fD=>13| .eC=>12| .eA=>11| .iz _=>14| .eh _ _ _=>13| .lN=>10| .ln=>9| .lF=>8| .dg=>7| .dA=>6| .dt=>5| .cd=>0
def bJ.b(m c:Nat):bJ->Nat| .cg=>8*m+200| .dF k=>8* (m- k)+150| .ff k=>8* (m- k)+149| .ir=>50+10*c| .lD d=>45+10*d| .iH=>40| .eE=>35| .dZ=>34| .kI=>30| .jC=>25| .fG=>20| .dD=>0
def bW(m:Nat)(ms:bD)(ws:Nat->bm)(fs:bJ):=ms.d+ ((ws 0).c+ ((ws 1).c+ (ws 2).c))+fs.b m (bz ms ws)
section
variable{P:Program}{T:dY P}{S:Nat->Prop}{n N0 n0:Nat}{w0:World}{ms ms':bD}{ws ws':Nat->bm}{fs fs':bJ}{p p':Nat->ai}{ρ:Nat->dm}{q wk:Nat->Nat}{gs:Array Goroutine}{t u:Trace}{w w':World}
theorem aP.E(C:T.g)(h:aP T S n N0 n0 w0 ms ws fs p ρ q wk gs t w){i g g'}(y:gs[i]?=some g)(d)(u)(Q:dr P (i==0) g (w.at d)= .go g' w' es)(M:bP S (λ b=>b=T.a\/b=T.c\/b=T.b) n0 (bE n ws' fs') (de T ms' fs') p' (t++eH i g.frame.fn g.frame.place es) w')(hp:∀j,j≠i->p' j=p j)(k)(o)(R:w'.heap.size=w.heap.size)(Z:∀a,a≠T.a->a≠T.c->a≠T.b->w'.heap[a]?=w.heap[a]?)(O:∀c,(c=T.a\/c=T.c\/c=T.b)->dT w c->dT w' c)(s:w'.os=w.os/\w'.output=w.output/\w'.tape=w.tape)(D:Ab T n N0 w0 ms' ws' fs' p' (t++eH i g.frame.fn g.frame.place es) w')(ac:eJ P (λ b=>b=T.a\/b=T.c\/b=T.b) i (nH (ej t i) es) (p' i) o 1 g' w' k)(W:∀Stop r,k= .cC Stop r->bE n ws' fs' i)(H:∀j,j≠i->bE n ws fs j->bE n ws' fs' j)(J:ms'.a=ms.a)(Y:i=0\/n<=i)(A:i≠0->ms'=ms)(N:i=0->rI T ms' k/\∀l,ms'≠ .dH l)(U:∀j,n+j≠i->ws' j=ws j)(ad:∀j,j<3->n+j=i->uY T (ws' j) k)(L:i≠n+3->fs'=fs)(X:i=n+3->xq T fs' k):∃v ops,nc P (gf gs (w.at d) u) i=(.next (gf v w' u),ops)/\aP T S n N0 n0 w0 ms' ws' fs' p' (fv ρ i k) (fv q i o) (λ _=>1) v (t++ops) w':=by have m:∀j,j≠i->bO (p j) w w':=λ j f=> ⟨Nat.le_of_eq R.symm,λ a I=>by have:=(h.c.k.c j a I).2.2;grind,s.1,s.2.1,s.2.2⟩;have V:=(h.c.c d).l y M hp (ρ':=fv ρ i k) (q':=fv q i o) (λ j f=>fu ρ k f) (λ j f=>fu q o f) (λ j f=> ⟨(m j f).b,(m j f).e,(m j f).i,(m j f).f,(m j f).h⟩) O (by grind[gu]) (λ j Stop r e=>by by_cases f:j=i;grind[gu];rw[fu ρ k f]at e;exact H j f (h.c.b j _ r e)) (g':=g');refine⟨_,_,rH (sl:=u) y Q,V,D,by simp[h.e,J],h.o,?_,λ j f=>?_,?_,λ ae h0 G=>?_,λ l F K e B=>?_⟩;by_cases h0:i=0;grind[gu];rw[fu _ _ (bb h0),A h0];exact h.r;by_cases z:n+j=i;grind[gu];rw[fu _ _ z,U j z];exact h.f j f;by_cases x:i=n+3;grind[gu];rw[fu _ _ (bb x),L x];exact h.u;rw[fu _ _ (by omega)];exact h.k _ h0 G;have h0:i≠0:=λ E=>(N E).2 l e;rw[fu ρ k (bb h0)]at B;have⟨m1,m2⟩:=h.m l F K (A h0▸e) B;rw[hp 0 (bb h0)];exact⟨C.f _ _ _ _ _ m1 (by grind),m2⟩
theorem Ma(w:b2)(a)(v):(w.setCell a v).heap.size=w.heap.size:=by simp
theorem nI(w:b2)(a)(v){b}(h:b≠a.block):(w.setCell a v).heap[b]?=w.heap[b]?:=by grind[World.setCell]
theorem w7(h:ba Wg w st sm)(x):ba Wg (w.setCell (bg Wg) (.int .u64 x)) x sm:=by
 have⟨ty,e⟩:=h;refine⟨ty,?_⟩
 haveI:ck:= ⟨λ _=>false,0⟩
 haveI:aW:= ⟨0,λ _=>true,λ _ _=>False,λ _ _ _ h=>h.elim⟩;rw[Rs.Cp rfl e];grind
theorem I7(h:ba Wg w st sm)(x):ba Wg (w.setCell (dL Wg) (.int .u32 x)) st x:=by
 have⟨ty,e⟩:=h;refine⟨ty,?_⟩
 haveI:ck:= ⟨λ _=>false,0⟩
 haveI:aW:= ⟨0,λ _=>true,λ _ _=>False,λ _ _ _ h=>h.elim⟩;rw[Rs.Cp rfl e];grind
theorem JE(h:ba Wg w st sm)(f:a.block=Wg)(v){c}(b:dT w c):dT (w.setCell a v) c:=by have⟨s,r,e⟩:=b;have⟨ty,d⟩:=h;refine⟨s,r,?_⟩;grind[nI]
theorem wh(h:bP S (λ b=>b=T.a\/b=T.c\/b=T.b) n0 A rp p t w)(k:A g)(fn)(pos)(j:∀e∈es,e.mute=true\/(∃a i,e= ⟨.cell a,i,true⟩/\a.block=T.a)):bP S (λ b=>b=T.a\/b=T.c\/b=T.b) n0 A rp p (t++eH g fn pos es) w:=by
 refine h.C (λ op c=>gz c) (λ op c=>?_) (λ op c x m=>?_) (.inl k);obtain⟨e,d,rfl⟩:=fR c;rcases j e d with l| ⟨a,i,rfl,f⟩;exact G5 l _;show a.block<_;rw[f];exact h.d _ (.inr (.inl rfl));obtain⟨e,d,rfl⟩:=fR c;rcases j e d with l| ⟨a,i,rfl,f⟩
 grind[r5]
 simp only[nv,hq,Option.some.injEq]at m;subst m;exact⟨⟨_,rfl,.inl f⟩,by simp,by simp,.inl k⟩
theorem DY(h:bP S (λ b=>b=T.a\/b=T.c\/b=T.b) n0 A rp p t w)(y:S T.a)(z:0<ej t g)(fn)(pos)(j:∀e∈es,(∃a i,e= ⟨.cell a,i,true⟩/\a.block=T.a)):bP S (λ b=>b=T.a\/b=T.c\/b=T.b) n0 A rp p (t++eH g fn pos es) w:=by
 have F:∀e∈es,e.loc≠ .mark .disable/\e.loc≠ .mark .enable:=λ e c=>by grind
 refine h.C (λ op d=>gz d) (λ op d=>?_) (λ op d x l=>?_) (.inr λ k op B d D n=>?_);obtain⟨e,c,rfl⟩:=fR d;obtain⟨a,i,rfl,f⟩:=j e c;show a.block<_;rw[f];exact h.d _ (.inr (.inl rfl));obtain⟨e,c,rfl⟩:=fR d;obtain⟨a,i,rfl,f⟩:=j e c;simp only[nv,hq,Option.some.injEq]at l;subst l;exact⟨⟨_,rfl,.inl f⟩,by simp,by simp,.inr ⟨rfl,(show S _ by grind)⟩⟩;obtain⟨g',s,u⟩:=n;have E:op∈eH g fn pos es:=by
  grind
 have m:g'=g:=by
  grind[eH,Trace.g?,gz,R0]
 subst m;have key:∀k,t.size<=k->k<=(t++eH g' fn pos es).size->(t++eH g' fn pos es).deaf g' k=ej t g':=by
  intro k
  induction k with
  |zero=>
   intro c _;have:t.size=0:=by omega
   unfold ej;rw[this];rfl
  |succ k r=>
   intro c v;by_cases o:t.size<=k;rw[deaf_succ (k7 (by omega)),r o (by omega)];have C:(t++eH g' fn pos es)[k]'(by omega)∈eH g' fn pos es:=by
    grind
   grind[fR,Go.Conc.deafStep,nv]
   have:k+1=t.size:=by omega
   rw[this,deaf_old (fz _)];rfl
 grind
theorem Pw(h:bP S (λ b=>b=T.a\/b=T.c\/b=T.b) n0 A rp p t w)(g)(fn)(pos)(d:m= .acquire (bg T.a)\/m= .releaseMerge (bg T.a)):bP S (λ b=>b=T.a\/b=T.c\/b=T.b) n0 A rp p (t++eH g fn pos (fp m)) w:=by refine h.z (λ op c=>gz c) (λ op c=>?_) (λ op c=>?_);obtain⟨e,a,rfl⟩:=fR c;simp[fp]at a;subst a;rcases d with rfl|rfl<;>exact h.d _ (.inr (.inl rfl));obtain⟨e,a,rfl⟩:=fR c;simp[fp]at a;subst a;rcases d with rfl|rfl<;>rfl
theorem P7(h:bP S (λ b=>b=T.a\/b=T.c\/b=T.b) n0 A rp p t w)(d:A g)(fn)(pos)(f:m= .read (dL T.a)\/m= .write (dL T.a))(j:∀k x,gb t k=some x->x.kind= .said->x.loc= .cell (dL T.a)->ep t g k):bP S (λ b=>b=T.a\/b=T.c\/b=T.b) n0 A rp p (t++eH g fn pos (fp m)) w:=by
 refine h.C (λ op c=>gz c) (λ op c=>?_) (λ op c x l=>?_) (.inl d);obtain⟨e,a,rfl⟩:=fR c;simp[fp]at a;subst a;rcases f with rfl|rfl<;>exact h.d _ (.inr (.inl rfl))
 obtain⟨e,a,rfl⟩:=fR c;simp[fp]at a;subst a;have i:x.loc= .cell (dL T.a)/\x.kind= .said:=by
  grind[gg,hq,Option.some.injEq]
 refine⟨⟨_,by rw[i.1];rfl,.inl rfl⟩,by grind,by grind,.inl d⟩
theorem uh{pos}(h:∀e∈es,gg e≠ .mark (.release a)):∀op∈eH g fn pos es,op.act≠ .mark (.release a):=λ op c=>by obtain⟨e,b,rfl⟩:=fR c;exact h e b
theorem uM{pos}(h:∀e∈es,∀x,(gg e).touch?=some x->x.kind≠ .said):∀op∈eH g fn pos es,∀x,op.act.touch?=some x->x.kind≠ .said:=λ op b=>by obtain⟨e,a,rfl⟩:=fR b;exact h e a
end
end
end Go.Rs
