/- Part of a proof that the statement holds. No conditions. -/
import Derived.Conc.Own
import GoSem.Dispatch
import Derived.Laws.Sem
import Derived.RunT
import Derived.Conc.Events
import Derived.KernelRfl
import Derived.Conc.Beside
set_option linter.all false
open Go renaming Value->b2,World->ea,TypeId->eb,Program->ef,Frame->ei,Goroutine->ej,MapEntry->ez,stepG->gb,underlying->gl,Operand->gw,Question->hh,Sem->hq,FuncId->hy,Deferred->hB,undef->hF,Addr->hM,lone->hN,Event->hR,behindNumber->hZ,stuck->iA,Trace->jA,execOp->kH,Func->k4,boundsPanic->k5,IntKind->lH,cellAtBytes->l9,movedNumber->ma,runN->ml,program->mm,byteOfCell->mx,asAddr->mH,Item->ny,results->nz,typeInfo->nB,unwind->nL,runNT->nV,zeroValue->nY,binOp->n3,HappensBefore->ov,exitTo->oL,MemAct->oV,eqGuard->o4,GStep->o7,doReturn->o8,Touch->pk,elemOf->pN,newRow->pS,FrameMode->p7,BinOp->p8,MemOp->qi,Code->qn,step->qq,yielded->qW,callFunc->q4,invoke->q5,loadCellsFrom->rV,RuntimeError->so,askRoom->sr,loadVar->sv,runtimePanic->sy,sizeOf->sA,Next->s5,asNumber->u7,seen->vi,TypeInfo->vj,choose->x9,BoundsCode->yl,cellOfByte->y0,Obj->y6,newObj->I0,Oper->Jx,markStringish->K7
open Option renaming bind_eq_some_iff->ee,map_eq_some_iff->eH,elim_none->lL,bind_some->r9,getD_some->sc
open Bool renaming and_eq_true->eg,false_eq_true->fl,eq_iff_iff->u9,not_false->x6
open Go.Instr renaming sameBits->en,enterLoop->eo,takeDeferred->ih,checkKey->j1,sliceBounds->lA,sliceBound->lV,beginRound->l1,fill->l7,findKey->nc,getLoop->nf,keyThatStays->np,endRound->o6,makeInterface->rm,buildSlice->sB,findAsking->s0,makeSlice->tv,mapUpdate->u1,sureAddr->u5,makeFunc->u6,storeAt->x0,extract->x1,makeMap->x2,fieldAt->x3,indexAt->x4,sliceAt->x5,endLoop->x8,loadAt->yt,lookup->y3,alloc->y7,field->y8,index->y9,build->zj,slice->zl,entry->zs,range->zt,yield->zY,next->z1,box->A2
open Go.GStep renaming after->ep
open Array renaming getElem?_eq_some_iff->et,getElem?_eq_getElem->fv,all_eq_true_iff_forall_mem->gf,append_empty->gE,forIn_toList->hD,getElem?_map->hJ,mapM_eq_mapM_toList->hS,append_push->j2,getElem?_setIfInBounds_ne->kn,getElem?_append->kp,mem_append->kq,foldl_toList->k6,range->mo,getElem?_push->mv,swapAt!->ng,getElem?_setIfInBounds->oH,isEmpty->p5,getElem?_modify->qF,toList_filter->rr,ofFn->rL,find?_toList->r1,getElem_ofFn->r3,getElem_mem->r4,all_toList->s4,toList_zip->s6,replicate->tm
open Nat renaming lt_of_lt_of_le->ev,le_trans->eQ,le_refl->fu,zero_add->q7,eq_zero_or_pos->tg
open Go.stepG renaming apply->eL,exec->fR,oper->k7
open Pure renaming pure->eV
open Go.MemAct renaming ofEvent->fb,touch?->hA,low_mono->tl
open Go.Frame renaming enter->fx,finish->hz,round->lB,eval->o9,oper?->q6,pos->B2
open Go.Sem renaming bind->fz,run->fH,runT->fV,runT_fst->n1,getObj->sE,store->K3
open Std.Legacy.Range renaming forIn_eq_forIn_range'->gg
open Go.Conc renaming mem_ofEvents->hg,touchAt->kk,Knows->kL,heard_old->mr,Leavers->mA,crowd->oj,act?_old->pn,mem_of_getElem?->pH,Deaf_other->q8,touch_of->q9,Before->re,knows_own->sf,Past->tc,getElem?_append_cases->u4,Deaf->wH,lt_of_act?->y5,seen_app->K1,hb_app->K2,ofEvent_cell0->K8,runT_crowd_go->K9,noRace_append->Lk
open Go.Builtin renaming firstCells->hG,unsafeAdd_->kR,zeroCells->k9,min2->nv,mayShare->nH,append_->nZ,copy_->o3,cap_->pV,len_->p1,min_->p6,holdsCells->q3,lenOf->u0
open Go.Extern.BytealgIndexByte renaming indexByte->hL
open Go.Deferred renaming ofValue->hP,target->hY
open Go.Target renaming collected->hQ
open List renaming all_eq_true->hU,cons_append->oh,forIn_cons->o0,mapM_cons->pv,map_toArray->u3,mem_append->vo,nil_append->vE,all_cons->y2,map_cons->y4,map_nil->zZ,find?->Dd,range->D1
open Go.Value renaming slice->jc,pointer->nb,tuple->n4
open Go.Extern.BytealgCount renaming count->j3
open Go.Extern.BytealgIndex renaming index->kg,maxLen->mb
open Decidable renaming byContradiction->kV,decide->lk
open Classical renaming byContradiction->k3,axiomOfChoice->o2
open Go.MemOp renaming ofEvents->k8
open Go.Conv renaming bytesToString->lb,runesToString->r5,stringToBytes->r8
open Go.Extern.Bytes renaming loadBytes->lf,bytesOf->o1,asByte->pc
open SizeOf renaming sizeOf->lv
open Go.World renaming freeze->l4,cell?->n2,frozen?->w6
open Go.Op renaming equalIn->mn,eqGuardIn->n5,equal->n9,maxDepth->o5,intDiv->x7,shift->zr,twoPlaces->B1,addrMod->K4,addrCmp->K5,addrSub->K6
open Go.Trace renaming g?->pt
open Go.Region renaming wanted->pz,schedule->s8
open Go.ConcN renaming upd->qz,sumTo->vL,upd_same->vR,upd_ne->z8
open Go.Question renaming appendCap->qO
open Option.some renaming inj->q0
open Go.CallKind renaming wrapped->rH
open Go.Made renaming reckonStruct->s7,infoAt->z6,reckon->z7
open Go.Next renaming skip->u2
open Go.Event renaming mute->A1
open Go.Stepped.next renaming inj->D3
open ForIn renaming forIn->F0
open Go.Item renaming code->K0
namespace Go.Rs
open Go.Conc
section
variable {xs ys:Array b2} {y x:b2} {o o':y6}
class aW where
 n:Nat
 c:qn->Bool
 e:Nat->b2->Prop
 d:∀r a b,e r a->e r b->a=b
class ck where
 a:hy->Bool
 b:Nat
class Gl where
 a:Nat->Bool
instance I9:Gl:= ⟨λ _=>false⟩
variable[aW][ck][Gl]
structure ah where
 h:Nat->Nat->Prop
 f:∀r a b,h r a->h r b->a=b
 e:∀r s a,h r a->h s a->r=s
 d:∀r a,h r a->(r<aW.n↔a<aW.n)
 c:∀g,Gl.a g=true->h g g
instance:CoeFun ah (λ _=>Nat->Nat->Prop):= ⟨ah.h⟩
def bF(β b:ah):=∀r a,β r a->b r a
theorem bF.b(β):bF β β:=λ _ _ h=>h
theorem bF.a{β b c}(h:bF β b)(d:bF b c):bF β c:=λ r a x=>d r a (h r a x)
def AR(β:ah)(a a':hM):=β a.block a'.block/\a.off=a'.off/\a.spot=a'.spot
def AO(β:ah):Option hM->Option hM->Prop|none,none=>True|some a,some a'=>AR β a a'|_,_=>False
def NO(β:ah):Option Nat->Option Nat->Prop|none,none=>True|some a,some a'=>β a a'|_,_=>False
def rq:b2->Bool| .pointer (some _)| .chan (some _)=>true|_=>false
def FR(β:ah):Fn->Fn->Prop| .yield l,.yield l'=>β l l'| .func f,.func f'=>f=f'/\ck.a f=false|_,_=>False
theorem AR.a{β b}(h:bF β b){a a'}(x:AR β a a'):AR b a a':= ⟨h _ _ x.1,x.2⟩
theorem AO.a{β b}(h:bF β b):{a a':Option hM}->AO β a a'->AO b a a'|none,none,_=>trivial|some _,some _,x=>AR.a h x|none,some _,x=>x.elim|some _,none,x=>x.elim
theorem NO.a{β b}(h:bF β b):{a a':Option Nat}->NO β a a'->NO b a a'|none,none,_=>trivial|some _,some _,x=>h _ _ x|none,some _,x=>x.elim|some _,none,x=>x.elim
theorem FR.a{β a}(h:bF β a){f f'}(x:FR β f f'):FR a f f':=by cases f<;>cases f'<;>first|exact x|exact h _ _ x|exact x.elim
def p9:b2->Bool| .func (.func _) _ _| .func (.yield _) _ _=>false| .func _ _ _=>true|_=>false
theorem pT(h:p9 y=true):∃f a b,y= .func f a b:=by cases y<;>first|exact⟨_,_,_,rfl⟩| (simp[p9]at h)
theorem pr(h:rq y=true):(∃a,y= .pointer (some a))\/∃a,y= .chan (some a):=by cases y with
 |pointer a=>cases a with|none=>cases h|some a=>simp
 |chan a=>cases a with|none=>cases h|some a=>simp
 |_=>cases h
def od:b2->Bool| .bool _| .agg _| .tuple _| .pointer none| .nilIface| .nilFunc=>false|v=>!p9 v
inductive VR(β:ah):b2->b2->Prop|fY (b:Bool):VR β (.bool b) (.bool b)|cx (k:lH) (n:Int):VR β (.int k n) (.int k n)|eI (s:ByteArray):VR β (.string s) (.string s)|nG:VR β .nilFunc .nilFunc|mj:VR β .nilIface .nilIface|dc {a a':Option hM} (h:AO β a a'):VR β (.pointer a) (.pointer a')|dz {a a':Option hM} (h:AO β a a') (n c:Nat):VR β (.slice a n c) (.slice a' n c)|kM {r r':Option Nat} (h:NO β r r'):VR β (.map r) (.map r')|me:VR β (.chan none) (.chan none)|gW {r:Nat} {y:b2} (h:aW.e r y) (hp:rq y=true):VR β (.chan (some r)) y|sg {f f':Fn} {xs ys us vs:Array b2} (d:FR β f f') (h1:xs.size=ys.size) (h2:∀(i:Nat) v v',xs[i]?=some v->ys[i]?=some v'->VR β v v') (h3:us.size=vs.size) (h4:∀(i:Nat) v v',us[i]?=some v->vs[i]?=some v'->VR β v v'):VR β (.func f xs us) (.func f' ys vs)|qM (t:eb) {v v':b2} (h:VR β v v'):VR β (.iface t v) (.iface t v')|gU {xs ys:Array b2} (h1:xs.size=ys.size) (h2:∀(i:Nat) v v',xs[i]?=some v->ys[i]?=some v'->VR β v v'):VR β (.agg xs) (.agg ys)|nA {xs ys:Array b2} (h1:xs.size=ys.size) (h2:∀(i:Nat) v v',xs[i]?=some v->ys[i]?=some v'->VR β v v'):VR β (.tuple xs) (.tuple ys)|jL {y:b2} (h:p9 y=true):VR β .nilFunc y|fy {y:b2} (h:od y=true):VR β hF y
theorem VR.a{β e}(h:bF β e)(i:VR β x y):VR e x y:=by induction i with|fY b=>exact .fY b|cx k n=>exact .cx k n|eI s=>exact .eI s|nG=>exact .nG|mj=>exact .mj|dc x=>exact .dc (x.a h)|dz x n c=>exact .dz (x.a h) n c|kM x=>exact .kM (x.a h)|me=>exact .me|gW h hp=>exact .gW h hp|sg g a _ f _ j l=>exact .sg (g.a h) a j f l|qM t _ d=>exact .qM t d|gU a _ d=>exact .gU a d|nA a _ d=>exact .nA a d|jL h=>exact .jL h|fy h=>exact .fy h
def AV(β:ah)(xs ys:Array b2):=xs.size=ys.size/\∀(i:Nat) v v',xs[i]?=some v->ys[i]?=some v'->VR β v v'
theorem AV.a{β c}(h:bF β c)(x:AV β xs ys):AV c xs ys:= ⟨x.1,λ i v v' a b=>(x.2 i v _ a b).a h⟩
theorem AV.d{β}(h:AV β xs ys)(i:Nat):(xs[i]?=none/\ys[i]?=none)\/∃v v',xs[i]?=some v/\ys[i]?=some v'/\VR β v v':=by
 by_cases a:i<xs.size
 have b:i<ys.size:=h.1▸a;exact .inr ⟨_,_,fv a,fv b,h.2 i _ _ (by grind) (by grind)⟩;have b:¬i<ys.size:=h.1▸a
 grind
theorem AV.k{β}(h:AV β xs ys)(i){d a}(f:VR β d a):VR β (xs.getD i d) (ys.getD i a):=by rcases h.d i with⟨b,c⟩| ⟨v,v',b,c,e⟩;all_goals simp_all
theorem AV.e(β):AV β #[] #[]:= ⟨rfl,by grind⟩
theorem AV.c{β}(h:VR β x y):AV β #[x] #[y]:= ⟨rfl,λ i v v' a b=>by grind⟩
theorem AV.h{β}(h:AV β xs ys)(d:VR β x y):AV β (xs.push x) (ys.push y):=by
 refine⟨by simp[h.1],λ i v v' a b=>?_⟩;rw[mv]at a b;by_cases c:i=xs.size
 rw[if_pos c]at a;rw[if_pos (h.1▸c)]at b
 grind
 rw[if_neg c]at a;rw[if_neg (h.1▸c)]at b;exact h.2 i v _ a b
theorem AV.b{β us vs}(h:AV β xs ys)(d:AV β us vs):AV β (xs++us) (ys++vs):=by
 refine⟨by simp[h.1,d.1],λ i v v' a b=>?_⟩;rw[kp]at a b;by_cases c:i<xs.size
 rw[if_pos c]at a;rw[if_pos (h.1▸c)]at b;exact h.2 i v _ a b;rw[if_neg c]at a;rw[if_neg (h.1▸c),<-h.1]at b;exact d.2 _ v _ a b
theorem AV.l{β}(h:AV β xs ys)(k)(d:VR β x y):AV β (xs.setIfInBounds k x) (ys.setIfInBounds k y):=by
 refine⟨by simp[h.1],λ i v v' a b=>?_⟩;rw[oH]at a b;by_cases c:k=i
 grind
 rw[if_neg c]at a b;exact h.2 i v _ a b
theorem AV.m{β}(h:AV β xs ys)(a b):AV β (xs.extract a b) (ys.extract a b):=by
 refine⟨by simp[h.1],λ i v v' c d=>?_⟩;rw[Array.getElem?_extract]at c d;rw[h.1]at c;split at c
 rw[if_pos ‹_›]at d;exact h.2 _ v _ c d;trivial
theorem AV.f{β}(n)(h:VR β x y):AV β (tm n x) (tm n y):=by refine⟨by simp,λ i v v' a b=>?_⟩;grind
theorem AV.j{β}{α:Type}(l:Array α){f g}(h:∀a∈l,VR β (f a) (g a)):AV β (l.map f) (l.map g):=by refine⟨by simp,λ i v v' b c=>?_⟩;grind
theorem AV.i{β l}(h:∀v∈l,VR β v v):AV β l l:= ⟨rfl,λ i v v' a b=>by grind⟩
theorem VR.c(β):VR β hF undef:= .nA rfl (by grind)
theorem VR.b{β}(h:AV β xs ys):VR β (.tuple xs) (.tuple ys):= .nA h.1 h.2
theorem VR.d{β}(h:AV β xs ys):VR β (.agg xs) (.agg ys):= .gU h.1 h.2
theorem VR.f{β f f' us vs}(b:FR β f f')(h:AV β xs ys)(a:AV β us vs):VR β (.func f xs us) (.func f' ys vs):= .sg b h.1 h.2 a.1 a.2
theorem VR.e{β x y}(h:VR β x y):AV β x.cells y.cells:=by cases h with
 |gU a d=>trivial|jL h=>cases y<;>first| (simp[p9]at h;done)|exact AV.c (.jL h)
 |fy h=>cases y<;>first| (simp[od]at h;done)|exact AV.c (.fy h)
 |fY b=>exact AV.c (.fY b)|cx k n=>exact AV.c (.cx k n)|eI s=>exact AV.c (.eI s)|nG=>exact AV.c .nG|mj=>exact AV.c .mj|dc x=>exact AV.c (.dc x)|dz x n c=>exact AV.c (.dz x n c)|kM x=>exact AV.c (.kM x)|me=>exact AV.c .me|gW h hp=>cases y<;>first| (simp[rq]at hp;done)|exact AV.c (.gW h hp)
 |sg g a d e f=>exact AV.c (.sg g a d e f)|qM t x=>exact AV.c (.qM t x)|nA a d=>exact AV.c (.nA a d)
theorem VR.g(β)(y):∃x,VR β x y:=by
 by_cases h:od y=true
 exact⟨_,.fy h⟩
 suffices H:∀n(y:b2),lv y<=n->∃x,VR _ x y from H _ y (fu _)
 intro n
 induction n with
 |zero=>intro y g;cases y<;>simp at g
 |succ n j=>
  intro y g;have many:∀(ys:Array b2),lv ys<=n->∃xs,AV β xs ys:=by
   intro ys m;have:∀i(e:i<ys.size),∃x,VR β x ys[i]:=λ i e=>j _ (by
    have:=Array.sizeOf_lt_of_mem (r4 e);omega)
   let f:Fin ys.size->Value:=λ i=>(this i.1 i.2).choose
   refine⟨rL f,by simp,λ i v v' k l=>?_⟩
   grind[et,Array.getElem?_ofFn]
  by_cases hp:od y=true;exact⟨_,.fy hp⟩;cases y with
  |bool b=>exact⟨_,.fY b⟩
  |agg ys=>obtain⟨xs,c⟩:=many ys (by grind);exact⟨_,.d c⟩
  |tuple ys=>obtain⟨xs,c⟩:=many ys (by grind);exact⟨_,.b c⟩
  |nilIface=>exact⟨_,.mj⟩
  |nilFunc=>exact⟨_,.nG⟩
  |pointer a=>cases a with
   |none=>exact⟨_,.dc (a:=none) (a':=none) trivial⟩
   |some a=>trivial
  |func f a b=>exact⟨_,.jL (by grind[od])⟩
  |_=>trivial
def TR(β:ah):Target->Target->Prop| .fn f c,.fn f' c'=>FR β f f'/\AV β c c'| .nil,.nil=>True| .builtin b a t k,.builtin d a' t' k'=>b=d/\a=a'/\t=t'/\k=k'| .collected r,.collected r'=>β r r'|_,_=>False
def DR(β:ah)(d a:hB):=TR β d.target a.target/\AV β d.args a.args
def DL(β:ah):List hB->List hB->Prop| [],[]=>True|d::l,d'::l'=>DR β d d'/\DL β l l'|_,_=>False
theorem TR.a{β a}(h:bF β a){t t'}(x:TR β t t'):TR a t t':=by cases t<;>cases t'<;>first|exact x.elim|exact trivial|exact x|exact⟨x.1.a h,x.2.a h⟩|exact h _ _ x
theorem DR.a{β b}(h:bF β b){d a}(x:DR β d a):DR b d a:= ⟨x.1.a h,x.2.a h⟩
theorem DL.a{β a}(h:bF β a):{l l':List hB}->DL β l l'->DL a l l'| [],[],_=>trivial|_::_,_::_,x=> ⟨x.1.a h,DL.a h x.2⟩| [],_::_,x=>x.elim|_::_,[],x=>x.elim
theorem DL.b{β}:{l l' m m':List hB}->DL β l l'->DL β m m'->DL β (l++m) (l'++m')| [],[],_,_,_,h=>h|_::_,_::_,_,_,x,h=> ⟨x.1,DL.b x.2 h⟩| [],_::_,_,_,x,_=>x.elim|_::_,[],_,_,x,_=>x.elim
def ER(β:ah)(e a:ez):=VR β e.key a.key/\VR β e.val a.val/\e.born=a.born
def EA(β:ah)(es b:Array ez):=es.size=b.size/\∀(i:Nat) e a,es[i]?=some e->b[i]?=some a->ER β e a
theorem EA.c{β d}(h:bF β d){es c}(x:EA β es c):EA d es c:= ⟨x.1,λ i e f a b=>let⟨p,q,r⟩:=x.2 i e _ a b; ⟨p.a h,q.a h,r⟩⟩
structure LR(β:ah)(l l':Loop):Prop where
 g:l.state=l'.state
 d:l.pending=l'.pending
 n:l.fn=l'.fn
 i:AV β l.tmps l'.tmps
 e:l.params=l'.params
 f:l.assign=l'.assign
 h:l.body=l'.body
 a:β l.defers l'.defers
 m:aW.c l.assign=true
 k:aW.c l.body=true
 j:∀c,l.pending=some c->aW.c c=true
theorem LR.b{β a}(h:bF β a){l l'}(x:LR β l l'):LR a l l':= ⟨x.1,x.2,x.3,x.4.a h,x.5,x.6,x.7,h _ _ x.8,x.9,x.10,x.11⟩
inductive OR(β:ah):Bool->y6->y6->Prop|jM {c c':Array b2} (e:eb) (fr:Nat×Nat) (h:AV β c c'):OR β false (.cells c e fr) (.cells c' e fr)|qb {c c':Array b2} (e:eb) (fr:Nat×Nat) (h:AV β c c'):OR β true (.cells c e (0,c.size)) (.cells c' e fr)|mw {es b:Array ez} (clock:Nat) (h:EA β es b):OR β false (.map es clock) (.map b clock)|tY (s:ByteArray) (pos:Nat):OR β false (.stringIter s pos) (.stringIter s pos)|rn {m m':Option Nat} (g:Nat) (f:Array Nat) (i:Nat) (h:NO β m m'):OR β false (.mapIter m g f i) (.mapIter m' g f i)|rh {l l':Loop} (h:LR β l l'):OR β false (.loop l) (.loop l')|xc:OR β false (.deferred (some [])) (.deferred (some []))|yE:OR β false (.deferred none) (.deferred none)|xE {a a':hM} (d:Bool) (h:AR β a a'):OR β false (.number a d) (.number a' d)
theorem OR.a{β d}(h:bF β d){f}(x:OR β f o o'):OR d f o o':=by cases x with|jM e fr x=>exact .jM e _ (x.a h)|qb e fr x=>exact .qb e _ (x.a h)|mw c x=>exact .mw c (x.c h)|tY s p=>exact .tY s p|rn a b c x=>exact .rn a b c (x.a h)|rh x=>exact .rh (x.b h)|xc=>exact .xc|yE=>exact .yE|xE l x=>exact .xE l (x.a h)
structure cw(F:Nat->Bool)(β:ah)(v w:ea):Prop where
 b:∀r a,β r a->∃o o',v.heap[r]?=some o/\w.heap[a]?=some o'/\OR β (F r) o o'
 c:∀r,F r=true->r<v.heap.size
 d:aW.n<=v.heap.size/\aW.n<=w.heap.size
def ah.i(β:ah)(r a:Nat)(n:∀s b,β s b->s≠r/\b≠a)(m:aW.n<=r/\aW.n<=a):ah where
 h:=λ s b=>β s b\/(s=r/\b=a)
 f:=by
  rintro s b c(x| ⟨i,j⟩)(y| ⟨k,l⟩)
  exact β.f s b c x y;all_goals grind
 e:=by
  rintro s t b(x| ⟨i,j⟩)(y| ⟨k,l⟩)
  exact β.e s t b x y;all_goals grind
 d:=by
  rintro s b(x| ⟨i,j⟩)
  exact β.d s b x;omega
 c:=λ g h=> .inl (β.c g h)
section
variable{F:Nat->Bool}{β:ah}{v w:ea}
theorem cw.f(h:cw F β v w){r a}(x:β r a):r<v.heap.size/\a<w.heap.size:=by have⟨o,o',b,c,_⟩:=h.b r a x;grind
theorem cw.t(h:cw F β v w):∀s b,β s b->s≠v.heap.size/\b≠w.heap.size:=λ s b x=>by have:=h.f x;omega
def cw.h(h:cw F β v w):=β.i v.heap.size w.heap.size h.t h.d
theorem cw.e(h:cw F β v w):bF β h.h:=λ _ _ x=> .inl x
theorem cw.m(h:cw F β v w):h.h v.heap.size w.heap.size:= .inr ⟨rfl,rfl⟩
theorem cw.s(h:cw F β v w)(e:OR β false o o'):cw F h.h {v with heap:=v.heap.push o} {w with heap:=w.heap.push o'}:=by
 have b:=h.e;refine⟨?_,?_,?_⟩
 ·rintro r a(x| ⟨rfl,rfl⟩)
  ·have⟨p,p',g,i,c⟩:=h.b r a x;have j:=h.f x;refine⟨p,_,?_,?_,c.a b⟩;all_goals grind
  ·refine⟨o,o',by simp,by simp,?_⟩;have:F v.heap.size=false:=by cases d:F _ with|false=>rfl|true=>have:=h.c _ d;omega
   rw[this];exact e.a b
 ·intro r f;have:=h.c r f;grind
 ·have:=h.d;grind
theorem cw.p(h:cw F β v w){r a}(x:β r a)(k:OR β (F r) o o'):cw F β {v with heap:=v.heap.setIfInBounds r o} {w with heap:=w.heap.setIfInBounds a o'}:=by
 refine⟨?_,?_,by simpa using h.d⟩
 intro s b y;by_cases c:r=s;subst c;obtain rfl:=β.f r a b x y;have j:=h.f x
 grind
 have i:a≠b:=λ e=>c (β.e r s a x (e▸y));obtain⟨p,p',d,f,g⟩:=h.b s b y
 grind
 intro s c;have:=h.c s c
 grind
theorem cw.k(h:cw F β v w){v' w'}(b:v'.heap=v.heap)(f:∀r a,β r a->w'.heap[a]?=w.heap[a]?)(e:w.heap.size<=w'.heap.size):cw F β v' w':= ⟨λ r a x=>let⟨o,o',c,_,d⟩:=h.b r a x; ⟨o,_,b▸c,by grind,d⟩,b▸h.c,b▸h.d.1,eQ h.d.2 e⟩
theorem cw.g(h:cw F β v w){v' w'}(a:v'.heap=v.heap)(b:w'.heap=w.heap):cw F β v' w':=h.k a (by grind) (by grind)
end
end
section
variable[aW][ck][Gl]
def jX:Halt->Bool| .panic _| .stuck _=>true| .unsupported (.initOrder _)=>false| .unsupported _=>true|_=>false
def AL:y6->Bool| .coro _| .chan .. =>false|_=>true
def Hd(v:ea):=∀(r:Nat) o,v.heap[r]?=some o->(∀l,o= .deferred (some l)->l= [])/\AL o=true
theorem Hd.a{v}(h:Hd v){o}(b:(∀l,o= .deferred (some l)->l= [])/\AL o=true):Hd {v with heap:=v.heap.push o}:=by
 intro q l a;change(v.heap.push o)[q]?=_ at a;rw[mv]at a;split at a
 grind
 exact h q l a
structure BH(v v2:ea)(x:Halt):Prop where
 a:jX x=true
 b:Hd v->Hd v2
theorem ru{α γ P}(f:α->hq γ):∀(s:hq α) v,(s.bind f).run P v=match s.run P v with| .ok a v2=>(f a).run P v2| .halt x v2=> .halt x v2:=by
 intro s
 induction s with
 |pure a=>intro v;rfl|load m a k b=>grind[fz,fH]|store m a y k b=>
  intro v;cases y;case agg=>rfl
  case tuple=>rfl
  all_goals
   simp[fz,fH];cases v.cell? a with
   |some _=>
    simp;cases v.frozen? a with
    |true=>rfl
    |false=>exact b _
   |none=>
    simp;split
    exact b _;rfl
 |new o k b=>exact λ v=>b _ _|shape r k b=>exact λ v=>b _ _|freeze a n k b=>exact λ v=>b _|frozen a k b=>exact λ v=>b _ _|getObj r k b=>
  grind[fz,fH]|setObj r o k b=>
  grind[fz,fH]|choose q k b=>
  grind[fz,fH]|sys c k b=>exact λ v=>b _ _|program k b=>exact λ v=>b _ _|mark m k b=>trivial|halt y=>exact λ v=>rfl
theorem ql{α γ P x v v2}(f:α->hq γ)(s:hq α)(h:s.run P v= .halt x v2):(s.bind f).run P v= .halt x v2:=by rw[ru,h]
def _root_.Go.World.tp(v:ea)(T:Nat->hh->Nat)(D:Nat):World:={v with tape:=T,drawn:=D}
section
variable(F:Nat->Bool)(P' P:ef)
inductive RS{α α':Type}(A:ah->α->α'->Prop):ah->hq α->hq α'->Prop|ak {β:ah} {a:α} {a':α'} (h:A β a a'):RS A β (.pure a) (.pure a')|ti {β:ah} {a a':hM} {k:b2->hq α} {k':b2->hq α'} (g:AR β a a') (c:∀x e,VR β x e->RS A β (k x) (k' e)):RS A β (.load .plain a k) (.load .plain a' k')|vW {β:ah} {a a':hM} {x e:b2} {k:hq α} {k':hq α'} (g:AR β a a') (z:VR β x e) (c:RS A β k k'):RS A β (.store .plain a x k) (.store .plain a' e k')|oq {β:ah} {o d:y6} {k:Nat->hq α} {k':Nat->hq α'} (p:OR β false o d) (c:∀r r' i,bF β i->i r r'->F r=false->RS A i (k r) (k' r')):RS A β (.new o k) (.new d k')|nt {β:ah} {r r':Nat} {k:Option (eb×Nat)->hq α} {k':Option (eb×Nat)->hq α'} (j:β r r') (c:∀s,RS A β (k s) (k' s)):RS A β (.shape r k) (.shape r' k')|zv {β:ah} {a a':hM} {k:Bool->hq α} {k':Bool->hq α'} (g:AR β a a') (c:∀b l,RS A β (k b) (k' l)):RS A β (.frozen a k) (.frozen a' k')|vH {β:ah} {a a':hM} {n:Nat} {k:hq α} {k':hq α'} (g:AR β a a') (u:F a.block=false) (c:RS A β k k'):RS A β (.freeze a n k) (.freeze a' n k')|jF {β:ah} {r r':Nat} {k:y6->hq α} {k':y6->hq α'} (j:β r r') (c:∀o d,OR β false o d->RS A β (k o) (k' d)):RS A β (.getObj r k) (.getObj r' k')|mD {β:ah} {r r':Nat} {o d:y6} {k:hq α} {k':hq α'} (j:β r r') (p:OR β false o d) (c:RS A β k k'):RS A β (.setObj r o k) (.setObj r' d k')|uP {β:ah} {q:hh} {k:Nat->hq α} {k':Nat->hq α'} (c:∀n,RS A β (k n) (k' n)):RS A β (.choose q k) (.choose q k')|v8 {β:ah} {q:hh} {k:Nat->hq α} {s':hq α'} (n:Nat) (y:if q.forced then n=0 else∃t,q.cut t=n) (c:RS A β (k n) s'):RS A β (.choose q k) s'|wD {β:ah} {k:ef->hq α} {k':ef->hq α'} (c:RS A β (k P') (k' P)):RS A β (.program k) (.program k')|vc {β:ah} {m:Mark} {k:hq α} {k':hq α'} (w:m= .noRoom\/∃f,m= .extern f) (c:RS A β k k'):RS A β (.mark m k) (.mark m k')|gp {β:ah} {s:hq α} {s':hq α'} (h:∀v,∃x v2,s.run P' v= .halt x v2/\BH v v2 x):RS A β s s'|vA {β:ah} {s:hq α} {s':hq α'} (h:∀v,Hd v->∃x v2,s.run P' v= .halt x v2/\BH v v2 x):RS A β s s'
end
section
variable{F:Nat->Bool}{P' P:ef}{α α' γ γ':Type}
theorem RS.c{A C}{f:α->hq γ}{f':α'->hq γ'}{β s s'} (h:RS F P' P A β s s') (c:∀j a a',bF β j->A j a a'->RS F P' P C j (f a) (f' a')):RS F P' P C β (s.bind f) (s'.bind f'):=by induction h with|ak h=>exact c _ _ _ (bF.b _) h|ti d _ b=>exact .ti d (by grind)|vW d t _ b=>exact .vW d t (b c)|oq l _ b=>exact .oq l λ r r' j m e k=>b r _ _ m e k λu a a' g i=>c _ a _ (m.a g) i|nt e _ b=>exact .nt e λ s=>b s c|zv d _ b=>exact .zv d (by grind)|vH d k _ b=>exact .vH d k (b c)|jF e _ b=>exact .jF e (by grind)|mD e l _ b=>exact .mD e l (b c)|uP _ b=>exact .uP λ n=>b n c|v8 n p _ b=>exact .v8 n p (b c)|wD _ b=>exact .wD (b c)|vc o _ b=>exact .vc o (b c)|gp h=>exact .gp λ v=>let⟨x,_,g,i⟩:=h v; ⟨x,_,ql _ _ g,i⟩|vA h=>exact .vA λ v q=>let⟨x,_,g,i⟩:=h v q; ⟨x,_,ql _ _ g,i⟩
theorem RS.a{A:ah->α->α'->Prop}{β h s'}(a:jX h=true):RS F P' P A β (.halt h) s':= .gp λ v=> ⟨h,v,rfl,a,id⟩
def lQ(F:Nat->Bool)(β:ah)(e:hR):Prop:=match e.loc with| .cell a=>(∃r,β r a.block/\(e.write=true->F r=false))/\e.sync=false| .obj n=>(∃r,β r n/\(e.write=true->F r=false))/\e.sync=false| .mark m=>m= .noRoom\/∃f,m= .extern f|_=>False
theorem lQ.a{β d}(h:bF β d){e}(x:lQ F β e):lQ F d e:=by
 have⟨f,i,g⟩:=e;cases f<;>simp[lQ]at x⊢
 obtain⟨⟨r,a,b⟩,c⟩:=x;exact⟨⟨r,h _ _ a,b⟩,c⟩;obtain⟨⟨r,a,b⟩,c⟩:=x;exact⟨⟨r,h _ _ a,b⟩,c⟩;omega
structure im(F:Nat->Bool)(β:ah)(v w:ea)(c:ah)(v' w':ea):Prop where
 b:bF β c
 e:w.heap.size<=w'.heap.size
 f:v.heap.size<=v'.heap.size
 k:∀a,a<w.heap.size->(∀r,β r a->F r=true)->w'.heap[a]?=w.heap[a]?
 n:∀a,w.heap.size<=a->a<w'.heap.size->∃r,c r a
 d:∀r a,c r a->β r a\/(v.heap.size<=r/\w.heap.size<=a)
 o:w'.os=w.os
 g:w'.output=w.output
 h:w'.tape=w.tape
theorem im.c(F)(β)(v w):im F β v w β v w:= ⟨bF.b _,fu _,fu _,λ _ _ _=>rfl,by omega,by grind,rfl,rfl,rfl⟩
theorem im.j{β g i v w v' w' e f}(h:im F β v w g v' w')(b:im F g v' w' i e f) (n:∀r,F r=true->r<v.heap.size):im F β v w i e f:=by
 refine⟨h.b.a b.b,eQ h.e b.e,eQ h.f b.f,λ a d c=>?_,λ a j k=>?_,λ r a c=>?_,b.o.trans h.o,b.g.trans h.g,b.h.trans h.h⟩
 ·rw[b.k a (ev d h.e) λ r l=>?_,h.k a d c];rcases h.d r a l with x| ⟨_,x⟩;all_goals grind
 ·by_cases m:a<w'.heap.size
  obtain⟨r,c⟩:=h.n a j m;exact⟨r,b.b _ _ c⟩;exact b.n a (by omega) k
 ·rcases b.d r a c with x| ⟨x,y⟩
  exact h.d r a x;exact .inr ⟨eQ h.f x,eQ h.e y⟩
def gy(d:Nat)(t:Nat->hh->Nat)(T:Nat->hh->Nat)(D:Nat):=∀j,j<d->T (D+j)=t j
def fM(F:Nat->Bool)(P' P:ef)(A:ah->α->α'->Prop)(β:ah)(v w:ea)(es:Array hR)(s:hq α)(s':hq α'):=∃d t,(∀T D,gy d t T D->∃x v2,s.run P' (v.tp T D)= .halt x v2/\jX x=true/\Hd v2)\/∃a v2 a' w2 c b,s'.runT P w es=(.ok a' w2,es++c)/\A b a a'/\cw F b v2 w2/\im F β v w b v2 w2/\(∀e∈c,lQ F b e)/\Hd v2/\∀T D,gy d t T D->s.run P' (v.tp T D)= .ok a (v2.tp T (D+d))
section
variable{A:ah->α->α'->Prop}{β:ah}{v w:ea}{es:Array hR}{s:hq α}{s':hq α'}
theorem fM.a(h:∀T D,∃x v2,s.run P' (v.tp T D)= .halt x v2/\jX x=true/\Hd v2):fM F P' P A β v w es s s':= ⟨0,λ _ _=>0,by simp_all⟩
theorem fM.b{b v1 w1 ev1 k k'}(o:im F β v w b v1 w1)(n:∀x,F x=true->x<v.heap.size) (h:fM F P' P A b v1 w1 (es++ev1) k k') (m:∀e∈ev1,lQ F b e) (h1:∀T D,s.run P' (v.tp T D)=k.run P' (v1.tp T D)) (h2:s'.runT P w es=k'.runT P w1 (es++ev1)):fM F P' P A β v w es s s':=by
 have⟨d,t,h⟩:=h;refine⟨d,t,?_⟩;obtain h| ⟨a,v2,a',w2,f,q,r,g,i,c,j,l,u⟩:=h
 grind
 refine .inr ⟨a,v2,a',w2,ev1++f,q,by grind,g,i,o.j c n,λ e p=>?_,l,λ T D y=>by grind⟩;exact(kq.1 p).elim (λ x=>(m e x).a c.b) (j e)
theorem fM.c{w1 k k'}(a)(o:im F β v w β v w1)(n:∀x,F x=true->x<v.heap.size) (h:fM F P' P A β v w1 es k k') (h1:∀T D,T D=a->s.run P' (v.tp T D)=k.run P' (v.tp T (D+1))) (h2:s'.runT P w es=k'.runT P w1 es):fM F P' P A β v w es s s':=by
 have⟨d,t,h⟩:=h;refine⟨d+1,λ j=>if j=0 then a else t (j- 1),?_⟩;have cut:∀T D,gy (d+1) (λ j=>if j=0 then a else t (j- 1)) T D->T D=a/\gy d t T (D+1):=λ T D c=>by refine⟨by simpa using c 0 (by omega),λ j u=>?_⟩;have:=c (j+1) (by omega);grind
 obtain h| ⟨b,v2,a',w2,e,p,q,f,g,i,l,m,r⟩:=h
 grind
 refine .inr ⟨b,v2,a',w2,e,p,by grind,f,g,o.j i n,l,m,λ T D c=>?_⟩
 grind
end
end
end
section
variable[aW][ck][Gl]
section
variable{F:Nat->Bool}{P' P:ef}{α α':Type}{β:ah}{v w:ea}
variable {a a':hM} {u:ea} {o:y6} {b:Nat} {c:Array b2} {e:eb} {fr:Nat×Nat}
theorem cw.q(h:cw F β v w)(c:AR β a a'){x}(b:v.cell? a=some x):∃i,w.cell? a'=some i/\VR β x i:=by have⟨o,q,j,k,g⟩:=h.b _ _ c.1;unfold n2 at b⊢;rw[j]at b;rw[k];generalize F a.block=p at g;cases g with
 |jM e fr d=>
  simp only at b⊢;rw[<-c.2.2,<-c.2.1];split at b
  trivial;rw[if_neg ‹_›];rcases d.d a.off with⟨f,_⟩| ⟨y,n,f,l,m⟩
  all_goals grind|qb e fr d=>
  simp only at b⊢;rw[<-c.2.2,<-c.2.1];split at b
  trivial;rw[if_neg ‹_›];rcases d.d a.off with⟨f,_⟩| ⟨y,n,f,l,m⟩
  all_goals grind|_=>trivial
theorem cw.i(h:cw F β v w)(d:AR β a a')(e):jX (v.noCell a e)=true:=by have⟨o,i,c,g,b⟩:=h.b _ _ d.1;unfold World.noCell;rw[c];generalize F a.block=f at b;cases b<;>rfl
theorem cw.l(h:cw F β v w)(c:AR β a a')(q):∃x,v.farLoad P' a q= .error x/\jX x=true:=by have⟨o,g,d,f,b⟩:=h.b _ _ c.1;refine⟨_,?_,h.i c "load: no such cell"⟩;unfold World.farLoad;rw[d];generalize F a.block=e at b;cases b<;>rfl
theorem cw.j(h:cw F β v w)(c:AR β a a')(x)(q):∃d,v.farStore P' a x q= .error d/\jX d=true:=by have⟨o,i,e,g,b⟩:=h.b _ _ c.1;refine⟨_,?_,h.i c "store: no such cell"⟩;unfold World.farStore;rw[e];generalize F a.block=f at b;cases b<;>rfl
theorem im.l{r a}(h:cw F β v w)(x:β r a)(o c)(d:F r=false):im F β v w β {v with heap:=v.heap.setIfInBounds r o} {w with heap:=w.heap.setIfInBounds a c}:= ⟨bF.b _,by simp,by simp,λ b e f=>by grind,by grind,by grind,rfl,rfl,rfl⟩
theorem im.m(h:cw F β v w)(o c):im F β v w h.h {v with heap:=v.heap.push o} {w with heap:=w.heap.push c}:= ⟨h.e,by simp,by simp,λ b f g=>by grind,λ b d e=> ⟨v.heap.size,.inr (by grind)⟩,λ r a y=>y.elim .inl (by omega),rfl,rfl,rfl⟩
theorem im.i{v' w'}(a:v'.heap=v.heap)(b:w'.heap=w.heap)(h1:w'.os=w.os)(h2:w'.output=w.output)(h3:w'.tape=w.tape):im F β v w β v' w':= ⟨bF.b _,by grind,by grind,by grind,by grind,by grind,h1,h2,h3⟩
theorem Cp(d:a.block=b)(h:u.heap[b]?=some (.cells c e fr))(x):u.setCell a x={u with heap:=u.heap.setIfInBounds b (.cells (if a.spot.isSome then c else c.setIfInBounds a.off x) e fr)}:=by
 subst d;unfold World.setCell
 congr 1;grind
theorem Ce(d:a.block=b)(h:u.heap[b]?=some (.cells c e fr))(n):u.freeze a n=if n=0 then u else{u with heap:=u.heap.setIfInBounds b (.cells c e (if fr.1==fr.2 then(a.off,a.off+n)else(min fr.1 a.off,max fr.2 (a.off+n))))}:=by
 subst d;unfold l4;split
 rfl
 congr 1
 grind
theorem Ow(h:u.heap[a.block]?=some o)(b:∀c e fr,o≠ .cells c e fr)(n):(u.freeze a n).heap=u.heap:=by grind[l4,absurd]
theorem Hd.d{v}(h:Hd v){r}(b:(∀l,o= .deferred (some l)->l= [])/\AL o=true):Hd {v with heap:=v.heap.setIfInBounds r o}:=by
 intro q l a;change(v.heap.setIfInBounds r o)[q]?=_ at a;rw[oH]at a;split at a
 grind
 exact h q l a
theorem OR.d{β f a}(h:OR β f o a):(∀l,o= .deferred (some l)->l= [])/\AL o=true:=by
 constructor
 intro l e;cases h<;>first| (cases e;done)| (cases e;rfl)
 cases h<;>rfl
theorem Sz(v:ea)(a)(n)(T)(D):(v.tp T D).freeze a n=(v.freeze a n).tp T D:=by unfold l4;split<;>rfl
theorem RS.d{A}{s:hq α}{s':hq α'}(h:RS F P' P A β s s'):∀v w,cw F β v w->Hd v->∀es,fM F P' P A β v w es s s':=by induction h with
 | @ak β a a' h=>exact λ v w d f es=> ⟨0,λ _ _=>0,.inr ⟨a,v,a',w,#[],β,by simp[fV],h,d,.c _ _ _ _,by simp,f,λ T D _=>rfl⟩⟩| @ti β a a' k k' u J j=>
  intro v w d f es;cases g:v.cell? a with
  |none=>
   refine .a λ T D=>?_;have⟨x,Q,Y⟩:=(d.g (v':=v.tp T D) (w':=w) rfl rfl).l (P':=P') u false;have K:(v.tp T D).cell? a=none:=g;exact⟨x,v.tp T D,by simp[fH,K];rw[show(Mode.plain==Mode.atomic)=false from rfl,Q],Y,f⟩
  |some x=>
   have⟨L,aq,ap⟩:=d.q u g;refine fM.b (ev1:= #[⟨.cell a',false,false⟩]) (.c _ _ _ _) d.c (j x L ap v w d f _) ?_ (λ T D=>?_) ?_
   intro e B;simp at B;subst B;exact⟨⟨a.block,u.1,by simp⟩,rfl⟩;have K:(v.tp T D).cell? a=some x:=g;simp only[fH,K];simp only[fV,aq];rfl
 | @vW β a a' x L k k' u Q J j=>
  intro v w d f es;by_cases X:(∃c,x= .agg c)\/∃c,x= .tuple c
  refine .a λ T D=> ⟨.stuck "store: not the value of one cell",v.tp T D,?_,rfl,f⟩;rcases X with⟨c,rfl⟩| ⟨c,rfl⟩<;>rfl
  have ac:∀c,x≠ .agg c:=λ c e=>X (.inl ⟨c,e⟩);have ad:∀c,x≠ .tuple c:=λ c e=>X (.inr ⟨c,e⟩);have al:∀c,L≠ .agg c:=λ c e=>by subst e;cases Q with|gU t C=>exact ac _ rfl|jL h=>simp[p9]at h|fy h=>simp[od]at h|gW _ h=>simp[rq]at h
  have am:∀c,L≠ .tuple c:=λ c e=>by subst e;cases Q with|nA t C=>exact ad _ rfl|jL h=>simp[p9]at h|fy h=>simp[od]at h|gW _ h=>simp[rq]at h
  have W:∀v:ea,(K3 .plain a x k).run P' v=match v.cell? a with
   |some _=>if v.frozen? a then .halt (.unsupported (.unsafePointer "a write to bytes that a string shares")) v else k.run P' (v.setCell a x)
   |none=>match v.farStore P' a x false with
    | .ok (w,_)=>k.run P' w
    | .error h=> .halt h v:=by
   intro v;cases x<;>first|rfl|exact absurd rfl (ac _)|exact absurd rfl (ad _)
  have I:(K3 .plain a' L k').runT P w es=match w.cell? a' with
   |some _=>
    if w.frozen? a' then(.halt (.unsupported (.unsafePointer "a write to bytes that a string shares")) w,es)
    else k'.runT P (w.setCell a' L) (es.push ⟨.cell a',true,false⟩)
   |none=>match w.farStore P a' L false with
    | .ok (w,az)=>k'.runT P w (es++az.toArray.map (⟨.cell ·,true,false⟩))
    | .error h=>(.halt h w,es):=by
   cases L<;>first|rfl|exact absurd rfl (al _)|exact absurd rfl (am _)
  cases g:v.cell? a with
  |none=>
   refine .a λ T D=>?_;obtain⟨y,ar,Y⟩:=(d.g (v':=v.tp T D) (w':=w) rfl rfl).j (P':=P') u x false;have K:(v.tp T D).cell? a=none:=g;rw[W,K];exact⟨y,v.tp T D,by simp only[ar],Y,f⟩
  |some y=>
   obtain⟨aA,au,_⟩:=d.q u g;by_cases H:v.frozen? a=true;refine .a λ T D=>?_;have K:(v.tp T D).cell? a=some y:=g;have Z:(v.tp T D).frozen? a=true:=H;rw[W,K];simp only[Z,if_true];exact⟨_,v.tp T D,rfl,rfl,f⟩;obtain⟨o,G,t,C,z⟩:=d.b _ _ u.1;have ae:a.spot=none:=by
    unfold n2 at g;rw[t]at g;cases o<;>simp at g
    exact g.1
   generalize U:F a.block=V at z;cases z with
   | @jM c c' e fr aa=>
    have ai:¬w.frozen? a'=true:=by
     unfold w6 at H⊢;rw[t]at H;rw[C,<-u.2.1];exact H
    have E:OR β (F a.block) (.cells (if a.spot.isSome then c else c.setIfInBounds a.off x) e fr) (.cells (if a'.spot.isSome then c' else c'.setIfInBounds a'.off L) e fr):=by
     rw[U,<-u.2.2,<-u.2.1,ae];exact .jM e fr (aa.l _ Q)
    have ao:=d.p u.1 E;refine fM.b (ev1:= #[⟨.cell a',true,false⟩]) (im.l d u.1 _ _ U) d.c (j _ _ ao (f.d E.d) _) ?_ (λ T D=>?_) ?_;intro e B;simp at B;subst B;exact⟨⟨a.block,u.1,λ _=>U⟩,rfl⟩;have K:(v.tp T D).cell? a=some y:=g;have Z:(v.tp T D).frozen? a=false:=(by simpa using H:v.frozen? a=false);have M:(v.tp T D).heap[a.block]?=some (.cells c e fr):=t;rw[W,K];simp only[Z,fl,if_false];rw[Cp rfl M];rfl;rw[I];simp only[au];rw[if_neg ai,Cp rfl C];simp
   | @qb c c' e fr aa=>
    exfalso;apply H;unfold w6;rw[t];unfold n2 at g;rw[t]at g;simp only[ae]at g;have:=(et.1 g).1;simp[this]
   |_=>unfold n2 at g;rw[t]at g;cases g
 | @oq β o G k k' E J j=>
  intro v w d f es;have S:F v.heap.size=false:=by
   cases Q:F v.heap.size with
   |false=>rfl
   |true=>have:=d.c _ Q;omega
  exact fM.b (ev1:= #[]) (im.m d o G) d.c (j v.heap.size w.heap.size _ d.e d.m S _ _ (d.s E) (f.a E.d) _) (by simp) (λ T D=>rfl) (by rw[gE];rfl)
 | @nt β r r' k k' O J j=>
  intro v w d f es;have⟨o,G,t,C,z⟩:=d.b _ _ O;have e:v.shape? r=w.shape? r':=by
   unfold World.shape?;rw[t,C];generalize F r=V at z;cases z with
   |jM e fr g=>simp[g.1]
   |qb e fr g=>simp[g.1]
   |_=>rfl
  refine fM.b (ev1:= #[]) (.c _ _ _ _) d.c (j (v.shape? r) v w d f _) (by simp) (λ T D=>rfl) ?_;simp only[fV];rw[<-e,gE]
 | @zv β a a' k k' u J j=>
  intro v w d f es;exact fM.b (ev1:= #[]) (.c _ _ _ _) d.c (j (v.frozen? a) (w.frozen? a') v w d f _) (by simp) (λ T D=>rfl) (by rw[gE];rfl)
 | @vH β a a' n k k' u S J j=>
  intro v w d f es;have⟨o,G,t,C,z⟩:=d.b _ _ u.1;rw[S]at z;have af:v.freeze a n=v->w.freeze a' n=w->fM F P' P A β v w es (.freeze a n k) (.freeze a' n k'):=λ ax ay=>by
   refine fM.b (ev1:= #[]) (.c _ _ _ _) d.c (j v w d f _) (by simp) (λ T D=>?_) ?_
   simp only[fH];rw[Sz,ax];simp only[fV];rw[ay,gE]
  cases z with
  | @jM c c' e fr g=>
   by_cases N:n=0
   exact af (by rw[Ce rfl t,if_pos N]) (by rw[Ce rfl C,if_pos N]);have E:OR β (F a.block) (.cells c e (if fr.1==fr.2 then(a.off,a.off+n)else(min fr.1 a.off,max fr.2 (a.off+n)))) (.cells c' e (if fr.1==fr.2 then(a.off,a.off+n)else(min fr.1 a.off,max fr.2 (a.off+n)))):=by
    rw[S];exact .jM e _ g
   refine fM.b (ev1:= #[]) (im.l d u.1 _ _ S) d.c (j _ _ (d.p u.1 E) (f.d E.d) _) (by simp) (λ T D=>?_) ?_;simp only[fH];rw[Sz,Ce rfl t,if_neg N];simp only[fV];rw[Ce rfl C,if_neg N,<-u.2.1,gE]
  |_=>
   refine af ?_ ?_
   have I:=Ow t (by intro _ _ _ h;cases h) n;unfold l4 at I⊢;split;rfl;rename_i N;rw[if_neg N]at I;simp only at I;rw[I];have I:=Ow C (by intro _ _ _ h;cases h) n;unfold l4 at I⊢;split;rfl;rename_i N;rw[if_neg N]at I;simp only at I;rw[I]
 | @jF β r r' k k' O J j=>
  intro v w d f es;have⟨o,G,t,C,z⟩:=d.b _ _ O;generalize F r=V at z;have key:∀(E:OR β false o G),(∀c e fr,o≠ .cells c e fr)->(∀c e fr,G≠ .cells c e fr)->G.isChan=false->fM F P' P A β v w es (.getObj r k) (.getObj r' k'):=by
   intro E av aw ab;refine fM.b (ev1:= #[⟨.obj r',false,false⟩]) (.c _ _ _ _) d.c (j o G E v w d f _) ?_ (λ T D=>?_) ?_
   intro e B;simp at B;subst B;exact⟨by grind,rfl⟩;have M:(v.tp T D).heap[r]?=some o:=t
   grind[fH,absurd]
   simp only[fV,C,ab];rfl
  have ag:∀c e fr,o= .cells c e fr->fM F P' P A β v w es (.getObj r k) (.getObj r' k'):=by
   intro c e fr B;refine .a λ T D=>?_;have M:(v.tp T D).heap[r]?=some (.cells c e fr):=B▸t;exact⟨_,v.tp T D,by simp[fH,M];rfl,rfl,f⟩
  cases z with
  |jM e fr g=>grind
  |qb e fr g=>grind
  |mw c x=>exact key (.mw c x) (by simp) (by simp) rfl
  |tY s p=>exact key (.tY s p) (by simp) (by simp) rfl
  |rn a b c x=>exact key (.rn a b c x) (by simp) (by simp) rfl
  |rh x=>exact key (.rh x) (by simp) (by simp) rfl
  |xc=>exact key .xc (by simp) (by simp) rfl
  |yE=>exact key .yE (by simp) (by simp) rfl
  |xE l x=>exact key (.xE l x) (by simp) (by simp) rfl
 | @mD β r r' o G k k' O E J j=>
  intro v w d f es;have⟨p,p',t,C,z⟩:=d.b _ _ O;generalize U:F r=V at z;have ab:G.isChan=false:=by cases E<;>rfl
  have key:V=false->(∀c e fr,p≠ .cells c e fr)->(∀c e fr,p'≠ .cells c e fr)->fM F P' P A β v w es (.setObj r o k) (.setObj r' G k'):=by
   intro H av aw;have an:OR β (F r) o G:=by grind
   refine fM.b (ev1:= #[⟨.obj r',true,false⟩]) (im.l d O _ _ (U.trans H)) d.c (j _ _ (d.p O an) (f.d E.d) _) ?_ (λ T D=>?_) ?_
   intro e B;simp at B;subst B;exact⟨by grind,rfl⟩;have M:(v.tp T D).heap[r]?=some p:=t;simp only[fH,M];rfl
   simp_all[fV,absurd]
  have ag:∀c e fr,p= .cells c e fr->fM F P' P A β v w es (.setObj r o k) (.setObj r' G k'):=by
   intro c e fr B;refine .a λ T D=>?_;have M:(v.tp T D).heap[r]?=some (.cells c e fr):=B▸t;exact⟨_,v.tp T D,by simp[fH,M];rfl,rfl,f⟩
  cases z with
  |jM e fr g=>grind
  |qb e fr g=>grind
  |_=>grind
 | @uP β q k k' J j=>
  intro v w d f es;by_cases R:q.forced=true
  refine fM.b (ev1:= #[]) (.c _ _ _ _) d.c (j 0 v w d f _) (by simp) (λ T D=>by grind[fH]) ?_
  grind[fV]
  refine fM.c (w.tape w.drawn) (w1:={w with drawn:=w.drawn+1}) (k:=k (q.cut (w.tape w.drawn q))) (k':=k' (q.cut (w.tape w.drawn q))) (.i rfl rfl rfl rfl rfl) d.c (j _ v {w with drawn:=w.drawn+1} (d.g rfl rfl) f _) (λ T D e=>?_) ?_;simp only[fH];rw[if_neg R];show(k (q.cut (T D q))).run _ (v.tp T (D+1))=_;rw[e]
  grind[fV]
 | @v8 β q k s' n R J j=>
  intro v w d f es;by_cases H:q.forced=true
  rw[if_pos H]at R;subst R;refine fM.b (ev1:= #[]) (.c _ _ _ _) d.c (j v w d f _) (by simp) (λ T D=>by grind[fH]) rfl;rw[if_neg H]at R;obtain⟨m,aj⟩:=R;refine fM.c (λ _=>m) (.c _ _ _ _) d.c (j v w d f _) (λ T D e=>?_) rfl;simp only[fH];rw[if_neg H];show(k (q.cut (T D q))).run _ (v.tp T (D+1))=_
  grind
 | @wD β k k' J j=>trivial
 | @vc β m k k' aj J j=>
  intro v w d f es;refine fM.b (ev1:= #[⟨.mark m,false,true⟩]) (.c _ _ _ _) d.c (j v w d f _) ?_ (λ T D=>rfl) ?_
  intro e B;simp at B;subst B;trivial
  rfl
 | @gp β s s' h=>
  exact λ v w d f es=> .a λ T D=>by
   have⟨x,v2,t,C,z⟩:=h (v.tp T D);exact⟨x,_,t,C,z f⟩
 | @vA β s s' h=>
  exact λ v w d f es=> .a λ T D=>by
   have⟨x,v2,t,C,z⟩:=h (v.tp T D) f;exact⟨x,_,t,C,z f⟩
end
end
section
variable[aW][ck][Gl]
variable {a a':hM} {x x':b2}
abbrev lp(P:ef)(fs:Array k4):={P with funcs:=fs}
def cW{α:Type}:ah->α->α->Prop:=λ _ a b=>a=b
def fB(v:b2):=∀β,VR β v v
def nC(P:ef):=∀t i z,P.info? t=some i->i.zero=some z->fB z
def LV(β:ah):List b2->List b2->Prop| [],[]=>True|x::l,y::m=>VR β x y/\LV β l m|_,_=>False
theorem LV.b{β a}(h:bF β a):{l m:List b2}->LV β l m->LV a l m| [],[],_=>trivial|_::_,_::_,x=> ⟨x.1.a h,LV.b h x.2⟩| [],_::_,x=>x.elim|_::_,[],x=>x.elim
theorem LV.c{β}:{l m:List b2}->l.length=m.length->(∀(i:Nat) v v',l[i]?=some v->m[i]?=some v'->VR β v v')->LV β l m| [],[],_,_=>trivial|_::_,_::_,h,x=> ⟨x 0 _ _ rfl rfl,LV.c (by grind) λ i v v' a b=>x (i+1) v v' (by trivial) (by trivial)⟩| [],_::_,h,_=>by trivial|_::_,[],h,_=>by trivial
theorem LV.d{β}:{l m:List b2}->LV β l m->l.length=m.length/\∀(i:Nat) v v',l[i]?=some v->m[i]?=some v'->VR β v v'
 | [],[],_=> ⟨rfl,λ i v v' h=>by trivial⟩|_::_,_::_,x=> ⟨by simpa using(LV.d x.2).1,λ i v v' a b=>by cases i with|zero=>simp at a b;subst a b;exact x.1|succ i=>exact(LV.d x.2).2 i v _ (by trivial) (by trivial)⟩| [],_::_,x=>x.elim|_::_,[],x=>x.elim
theorem AV.g{β xs ys}(h:AV β xs ys):LV β xs.toList ys.toList:=LV.c (by simpa using h.1) λ i v v' a b=>h.2 i v _ (by grind) (by grind)
theorem LV.e{β l m}(h:LV β l m):AV β l.toArray m.toArray:= ⟨by simpa using h.d.1,λ i v v' a b=>h.d.2 i v _ (by grind) (by grind)⟩
section
variable{F:Nat->Bool}{P:ef}{fs:Array k4}{α α' γ γ':Type}{β:ah}
theorem bK{A C}{f:α->hq γ}{f':α'->hq γ'}{s s'} (h:RS F (lp P fs) P A β s s') (c:∀b a a',bF β b->A b a a'->RS F (lp P fs) P C b (f a) (f' a')):RS F (lp P fs) P C β (s>>=f) (s'>>=f'):=RS.c h c
theorem bc{C}{f:α->hq γ}{f':α->hq γ'}{s s'} (h:RS F (lp P fs) P cW β s s') (c:∀b a,bF β b->RS F (lp P fs) P C b (f a) (f' a)):RS F (lp P fs) P C β (s>>=f) (s'>>=f'):=RS.c h λb a a' d e=>by cases e;grind
theorem mc{C}{f:ef->hq γ}{f':ef->hq γ'}(h:RS F (lp P fs) P C β (f (lp P fs)) (f' P)):RS F (lp P fs) P C β (mm>>=f) (mm>>=f'):= .wD h
theorem db{A:ah->α->α'->Prop}{h s'}(b:jX h=true:=by rfl):RS F (lp P fs) P A β (.halt h) s':= .a b
theorem aN{A:ah->α->α'->Prop}{why s'}:RS F (lp P fs) P A β (iA why) s':= .a rfl
theorem tC{A why}{f:α->hq γ}{s':hq γ'}:RS F (lp P fs) P A β (iA why>>=f) s':= .a rfl
theorem tV{A s}{f:α->hq γ}{s':hq γ'}(h:∀v,∃x v2,s.run (lp P fs) v= .halt x v2/\BH v v2 x):RS F (lp P fs) P A β (s>>=f) s':= .gp λ v=>let⟨x,_,a,b⟩:=h v; ⟨x,_,ql f s a,b⟩
theorem RS.e{A C}{s:hq α}{s':hq α'}(h:RS F (lp P fs) P A β s s')(c:∀f a a',bF β f->A f a a'->C f a a'):RS F (lp P fs) P C β s s':=by induction h with|ak h=>exact .ak (c _ _ _ (bF.b _) h)|ti d _ b=>exact .ti d (by grind)|vW d p _ b=>exact .vW d p (b c)|oq i _ b=>exact .oq i λ r r' f j e g=>b r _ _ j e g λq a a' k l=>c _ a _ (j.a k) l|nt e _ b=>exact .nt e λ s=>b s c|zv d _ b=>exact .zv d (by grind)|vH d g _ b=>exact .vH d g (b c)|jF e _ b=>exact .jF e (by grind)|mD e i _ b=>exact .mD e i (b c)|uP _ b=>exact .uP λ n=>b n c|v8 n o _ b=>exact .v8 n o (b c)|wD _ b=>exact .wD (b c)|vc m _ b=>exact .vc m (b c)|gp h=>exact .gp h|vA h=>exact .vA h
theorem rJ(t):RS F (lp P fs) P cW β (nB t) (nB t):=by refine mc ?_;show RS F (lp P fs) P cW β (match P.info? t with|some i=>eV i|none=>iA "no such type") (match P.info? t with|some i=>eV i|none=>iA "no such type");cases P.info? t with|none=>exact aN|some i=>exact .ak rfl
theorem ig(t):RS F (lp P fs) P cW β (gl t) (gl t):=by refine mc ?_;show RS F (lp P fs) P cW β (match P.underlying t with|some i=>eV i|none=>iA "no such type") (match P.underlying t with|some i=>eV i|none=>iA "no such type");cases P.underlying t with|none=>exact aN|some i=>exact .ak rfl
theorem jR(t):RS F (lp P fs) P cW β (sA t) (sA t):=bc (rJ t) λa i _=> .ak rfl
theorem Pz(t):RS F (lp P fs) P cW β (isAgg t) (isAgg t):=bc (ig t) λa d _=>by cases d<;>exact .ak rfl
theorem vr(a:nC P)(t):RS F (lp P fs) P (λ _ z d=>z=d/\fB z) β (nY t) (nY t):=by refine mc ?_;show RS F _ P _ _ ((match P.info? t with|some i=>eV i|none=>iA _)>>=_) ((match P.info? t with|some i=>eV i|none=>iA _)>>=_);cases b:P.info? t with|none=>exact tC|some i=>show RS F (lp P fs) P _ β (match i.zero with|some v=>eV v|none=>_) (match i.zero with|some v=>eV v|none=>_);cases c:i.zero with|none=>exact db|some z=>exact .ak ⟨rfl,a t i z b c⟩
theorem JK{C q}{f:Nat->hq γ}{f':Nat->hq γ'}(h:∀n,RS F (lp P fs) P C β (f n) (f' n)):RS F (lp P fs) P C β (x9 q>>=f) (x9 q>>=f'):= .uP h
theorem Qv(n):RS F (lp P fs) P cW β (sr n) (sr n):=by
 unfold sr;split
 exact .vc (.inl rfl) (.ak rfl);exact .ak rfl
theorem AR.b(h:AR β a a')(n):AR β (a.add n) (a'.add n):=by
 unfold Addr.add;split
 exact h;exact⟨h.1,by simp[h.2.1],rfl⟩
theorem Sa(h:AR β a a'):RS F (lp P fs) P VR β (load a) (load a'):= .ti h λ x x' b=> .ak b
theorem Wt(h:AR β a a')(b:VR β x x'):RS F (lp P fs) P cW β (store a x) (store a' x'):= .vW h b (.ak rfl)
theorem TE:∀n{β:ah}{a a':hM}(i:Nat){b c:Array b2},AR β a a'->AV β b c->RS F (lp P fs) P AV β (rV a i n b) (rV a' i n c)|0,_,_,_,_,_,_,_,h=> .ak h|n+1,_,_,_,i,_,_,d,h=>bK (Sa (d.b i)) λg x x' e f=>TE n (i+1) (d.a e) ((h.a e).h f)
theorem J5(n)(h:AR β a a'):RS F (lp P fs) P AV β (loadCells a n) (loadCells a' n):=TE n 0 h (AV.e _)
theorem Ds:∀{l l':List b2}{β:ah}{a a':hM}(i:Nat),AR β a a'->LV β l l'->RS F (lp P fs) P cW β (storeCells a l i) (storeCells a' l' i)| [],[],_,_,_,_,_,_=> .ak rfl|x::l,y::m,_,_,_,i,ha,h=>bc (Wt (ha.b i) h.1) λc _ b=>Ds (i+1) (ha.a b) (h.2.b b)| [],_::_,_,_,_,_,_,h=>h.elim|_::_,[],_,_,_,_,_,h=>h.elim
theorem QA(t)(h:AR β a a'):RS F (lp P fs) P VR β (sv t a) (sv t a'):=by refine bc (Pz t) λi b d=>?_;cases b with|true=>exact bc (jR t) λj n e=>bK (J5 n ((h.a d).a e)) λk c c' g f=> .ak (VR.d f)|false=>exact Sa (h.a d)
theorem Ui(t)(h:AR β a a')(f:VR β x x'):RS F (lp P fs) P cW β (storeVar t a x) (storeVar t a' x'):=by
 refine bc (jR t) λg n b=>?_;have c:=(f.a b).e;by_cases d:x.cells.size=n
 have e:x'.cells.size=n:=c.1▸d;simp only[d,e,ne_eq,not_true_eq_false,if_false];exact Ds 0 (h.a b) c.g;grind[not_false_eq_true,tC]
theorem yW(e){c c'}(h:AV β c c'):RS F (lp P fs) P (λβ a a'=>AR β a a'/\F a.block=false) β (pS e c) (pS e c'):= .oq (.jM e _ h) λ r r' f _ d b=> .ak ⟨⟨d,rfl,rfl⟩,b⟩
theorem OW(t)(h:VR β x x'):RS F (lp P fs) P (λβ a a'=>AR β a a'/\F a.block=false) β (newVar t x) (newVar t x'):=yW t h.e
theorem sI(t){c c'}(off)(h:AV β c c'):RS F (lp P fs) P VR β (part t c off) (part t c' off):=by refine bc (Pz t) λj b e=>?_;cases b with|true=>exact bc (jR t) λk n g=> .ak (VR.d (((h.a e).a g).m _ _))|false=>
  show RS F _ P _ _ (match c[off]? with|some v=>eV v|none=>_) (match c'[off]? with|some v=>eV v|none=>_);rcases(h.a e).d off with⟨a,d⟩| ⟨y,i,a,d,f⟩
  grind[aN]
  rw[a,d];exact .ak f
theorem PS{Q t u v v2}(h:(pN t).run Q v= .ok u v2):v2=v:=by unfold pN at h;change(fz (fz mm _) _).run Q v=_ at h;simp[mm,fz,fH]at h;cases a:Q.underlying t with|none=>rw[a]at h;cases h|some d=>rw[a]at h;cases d<;>cases h<;>rfl
theorem nE(e){α}:∀v,∃x v2,(sy e:hq α).run (lp P fs) v= .halt x v2/\BH v v2 x:=by intro v;cases e with
 |typeAssertion i c a m=>show∃x v2,((pN (lp P fs).rt.typeAssertionError)>>=_:hq α).run (lp P fs) v= .halt x v2/\BH v v2 x;generalize b:(pN (lp P fs).rt.typeAssertionError).run (lp P fs) v=r;cases r with
  |halt x v2=>refine⟨x,v2,ql _ _ b,?_⟩;unfold pN at b;change(fz (fz mm _) _).run (lp P fs) v=_ at b;simp[mm,fz,fH]at b;cases f:(lp P fs).underlying (lp P fs).rt.typeAssertionError with|none=>rw[f]at b;cases b;exact⟨rfl,id⟩|some d=>rw[f]at b;cases d<;>cases b<;>exact⟨rfl,id⟩
  |ok t v2=>show∃x v2,(fz _ _).run (lp P fs) v= .halt x v2/\BH v v2 x;rw[ru,b];exact⟨_,_,rfl,rfl,λ h=>by rw[PS b];exact h.a ⟨by grind,rfl⟩⟩
 |panicNil=>show∃x v2,((pN (lp P fs).rt.panicNilError)>>=_).run _ v= .halt x _/\BH v _ x;generalize b:(pN (lp P fs).rt.panicNilError).run (lp P fs) v=r;cases r with
  |halt x v2=>refine⟨x,v2,ql _ _ b,?_⟩;unfold pN at b;change(fz (fz mm _) _).run (lp P fs) v=_ at b;simp[mm,fz,fH]at b;cases f:(lp P fs).underlying (lp P fs).rt.panicNilError with|none=>rw[f]at b;cases b;exact⟨rfl,id⟩|some d=>rw[f]at b;cases d<;>cases b<;>exact⟨rfl,id⟩
  |ok t v2=>show∃x v2,(fz _ _).run (lp P fs) v= .halt x v2/\BH v v2 x;rw[ru,b];exact⟨_,_,rfl,rfl,λ h=>by rw[PS b];exact h.a ⟨λ l e=>(by cases e),rfl⟩⟩
 |_=>exact⟨_,v,rfl,rfl,id⟩
theorem E7{A:ah->α->α'->Prop}(e){s'}:RS F (lp P fs) P A β (sy e) s':= .gp (nE e)
theorem yb{A}(e){f:α->hq γ}{s':hq γ'}:RS F (lp P fs) P A β (sy e>>=f) s':=tV (nE e)
end
end
section
variable[aW][ck][Gl]
variable {x x':b2}
theorem C2{β}(place):∀{ps o:List (Nat×b2)}{c c':Array b2},(ps.length=o.length/\∀(i:Nat) x x',ps[i]?=some x->o[i]?=some x'->x.1=x'.1/\VR β x.2 x'.2)->AV β c c'->(l7 place c ps=none)\/∃d f,l7 place c ps=some d/\l7 place c' o=some f/\AV β d f
 | [],[],c,c',_,h=> .inr ⟨c,c',rfl,rfl,h⟩| [],_::_,_,_,h,_=>by grind|_::_,[],_,_,h,_=>by grind| (i,x)::ps,(j,y)::o,c,c',⟨hl,hp⟩,h=>by have⟨e,s⟩:=hp 0 _ _ rfl rfl;simp at e s;subst e;simp only[l7];cases place i with|none=>simp|some q=>
   have⟨off,size⟩:=q;simp only;have r:=s.e;rw[<-r.1,<-h.1];split
   simp;refine C2 _ ⟨by grind,λ k a b v t=>hp (k+1) a b (by grind) (by grind)⟩ ?_;have:∀(n:Nat)(l m:List b2)(d f:Array b2),LV β l m->AV β d f->
    AV β ((l.zipIdx n).foldl (λ cs(q:b2×Nat)=>cs.setIfInBounds (off+q.2) q.1) d) ((m.zipIdx n).foldl (λ cs(q:b2×Nat)=>cs.setIfInBounds (off+q.2) q.1) f):=by
    intro n l
    induction l generalizing n with
    |nil=>intro m d f g p;cases m<;>first|exact p|exact g.elim
    |cons a l u=>
     intro m d f g p;cases m with
     |nil=>trivial
     |cons b m=>exact u _ m _ _ g.2 (p.l _ g.1)
   have t:=this 0 x.cells.toList y.cells.toList c c' r.g h
   grind[Array.foldl,List.foldl,Array.toList_zipIdx]
theorem Gk{z}(c:fB z):∀v∈z.cells,fB v:=λ v b β=>by have⟨i,a⟩:=Array.mem_iff_getElem?.1 b;exact(c _).e.2 i v v a a
theorem Jh{z:Array b2}(b:∀v∈z,fB v)(i:Nat)(β):VR β (z[i]!) (z[i]!):=by
 by_cases a:i<z.size
 rw[getElem!_pos z _ a];exact b _ (by grind) _;rw[getElem!_neg z _ a];exact VR.fY _
section
variable{F:Nat->Bool}{P:ef}{fs:Array k4}{α α' γ γ':Type}{β:ah}
theorem acA(b:nC P)(e):RS F (lp P fs) P VR β (y7 e true (.tuple #[])) (y7 e true (.tuple #[])):=bK (vr b e) λj z i f⟨c,d⟩=>by subst c;exact bK (OW e (d _)) λk a a' g h=> .ak (.dc (a:=some a) (a':=some _) h.1)
theorem ady(e)(h:VR β x x'):RS F (lp P fs) P VR β (A2 e x) (A2 e x'):=bK (OW e h) λc a a' b h=> .ak (.dc (a:=some a) (a':=some _) h.1)
theorem zi(h:VR β x x'):RS F (lp P fs) P AR β (u5 x) (u5 x'):=by cases h with
 | @dc a a' h=>cases a<;>cases a'<;>first|exact h.elim|exact .ak h|exact aN
 |_=>exact aN
theorem acs(t)(h:VR β x x'):RS F (lp P fs) P VR β (yt t x) (yt t x'):=bK (zi h) λd a a' c b=>QA t b
theorem ad7(t){y b}(h:VR β x x')(e:VR β y b):RS F (lp P fs) P cW β (x0 t x y) (x0 t x' b):=bK (zi h) λf a a' c d=>Ui t d (e.a c)
theorem aci(h:VR β x x')(i):RS F (lp P fs) P VR β (x1 x i) (x1 x' i):=by cases h with
 | @nA xs ys d e=>
  show RS F (lp P fs) P VR β (match xs[i]? with|some v=>eV v|none=>_) (match ys[i]? with|some v=>eV v|none=>_);rcases AV.d (β:=β) (xs:=xs) (ys:=ys) ⟨d,e⟩ i with⟨a,b⟩| ⟨v,v',a,b,c⟩
  grind[aN]
  rw[a,b];exact .ak c|fy h=>exact aN|_=>exact aN
theorem ahl{f f'}(b:FR β f f'){xs ys us vs}(h:AV β xs ys)(a:AV β us vs):RS F (lp P fs) P VR β (u6 f xs us) (u6 f' ys vs):= .ak (VR.f b h a)
theorem ahg(t)(h:VR β x x'):RS F (lp P fs) P VR β (rm t x) (rm t x'):=bc (ig t) λb d a=>by cases d<;>first|exact aN|exact .ak (.qM t (h.a a))
theorem aea(t):RS F (lp P fs) P VR β (x2 t none) (x2 t none):= .oq (.mw 0 ⟨rfl,by grind⟩) λ r r' b _ a _=> .ak (.kM (r:=some r) (r':=some _) a)
theorem Dh(h:VR β x x'):RS F (lp P fs) P cW β (asIntOf x) (asIntOf x'):=by cases h with
 |cx k n=>exact .ak rfl| @dc a a' h=>cases a<;>first|exact db|exact aN
 |_=>exact aN
theorem HK(h:VR β x x'):RS F (lp P fs) P cW β (asInt x) (asInt x'):=bc (Dh h) λ _ _ _=> .ak rfl
theorem abX(h:VR β x x'):RS F (lp P fs) P cW β (asBool x) (asBool x'):=by cases h with|fY b=>exact .ak rfl|_=>exact aN
theorem aaR(k)(x y)(c){α}:∀v,∃z v2,(k5 k x y c:hq α).run (lp P fs) v= .halt z v2/\BH v v2 z:=by
 intro v;unfold k5;split
 obtain⟨z,v2,b,a⟩:=nE (P:=P) (fs:=fs) (.bounds (IntKind.i64.wrap x) y ((Question.extern "runtime.boundsError.signed" 2).cut (v.tape v.drawn (.extern "runtime.boundsError.signed" 2))==1) c) (α:=α) {v with drawn:=v.drawn+1};exact⟨z,_,b,a.a,a.b⟩;exact nE (P:=P) (fs:=fs) (.bounds _ y _ c) (α:=α) v
theorem Am{A:ah->α->α'->Prop}(k)(x y)(c){s'}:RS F (lp P fs) P A β (k5 k x y c) s':= .gp (aaR k x y c)
theorem Vq(t)(h:VR β x x')(i):RS F (lp P fs) P VR β (y8 t x i) (y8 t x' i):=by refine bc (ig t) λj d e=>?_;cases d with
 |struct a=>show RS F (lp P fs) P VR j (match a[i]? with|some f=>_|none=>_) (match a[i]? with|some f=>_|none=>_);cases a[i]? with|none=>exact aN|some f=>have g:=h.a e;cases g with|gU b c=>exact sI _ _ ⟨b,c⟩|_=>exact tC
 |_=>exact aN
theorem acY(t){y b}(h:VR β x x')(l:VR β y b):RS F (lp P fs) P VR β (y9 t x y) (y9 t x' b):=by refine bc (Dh l) λm q f=>?_;have⟨k,i⟩:=q;refine bc (ig t) λo d g=>?_;have a:=(h.a f).a g;cases d with
 |array len elem=>cases a with
  |gU c e=>
   simp;split
   exact bc (jR _) λp n j=>sI _ _ (AV.a j ⟨c,e⟩);grind[Am]|_=>exact aN
 |string=>cases a with
  |eI s=>
   simp;split
   exact .ak (.cx _ _);grind[Am]|_=>exact aN
 |_=>grind[aN]
theorem WW(k:nC P)(t){y i}(h:VR β x x')(o:VR β y i):RS F (lp P fs) P VR β (tv t x y) (tv t x' i):=by refine bc (ig t) λB d f=>?_;cases d with
 |slice elem=>
  refine bc (HK (h.a f)) λC l j=>?_;refine bc (HK ((o.a f).a j)) λD c p=>?_;refine bc (rJ elem) λE info q=>?_;simp only;split
  split
  grind[yb]
  split
  grind[yb]
  refine .gp λ v=>?_;exact⟨_,_,rfl,rfl,λ h=>h⟩;refine bc (Qv _) λG _ r=>?_;refine bc (jR elem) λH n s=>?_;have key:∀(b:ah)(z:Array b2),(∀v∈z,fB v)->RS F (lp P fs) P VR b
   (do let a<-pS elem ((mo ((IntKind.i64.wrap c).toNat*n)).map (z[· %z.size]!));eV (jc (some a) (IntKind.i64.wrap l).toNat (IntKind.i64.wrap c).toNat))
   (do let a<-pS elem ((mo ((IntKind.i64.wrap c).toNat*n)).map (z[· %z.size]!));eV (jc (some a) (IntKind.i64.wrap l).toNat (IntKind.i64.wrap c).toNat)):=by
   intro b z g;refine bK (yW elem (AV.j _ λ a _=>?_)) λI a a' w m=> .ak (.dz (a:=some a) (a':=some a') m.1 _ _)
   grind[Jh]
  split;exact key _ _ (by simp);refine bK (vr k elem) λb z A u⟨e,g⟩=>?_;subst e;exact key _ _ (Gk g)|_=>exact aN
end
end
section
variable[aW][ck][Gl]
def PV(β:ah)(ps b:Array (Nat×b2)):=ps.size=b.size/\∀(i:Nat) x a,ps[i]?=some x->b[i]?=some a->x.1=a.1/\VR β x.2 a.2
theorem PV.a{β f}(h:bF β f){ps e}(x:PV β ps e):PV f ps e:= ⟨x.1,λ i a b c d=> ⟨(x.2 i a b c d).1,(x.2 i a b c d).2.a h⟩⟩
theorem PV.b{β ps d}(h:PV β ps d):ps.toList.length=d.toList.length/\∀(i:Nat) x c,ps.toList[i]?=some x->d.toList[i]?=some c->x.1=c.1/\VR β x.2 c.2:= ⟨by simpa using h.1,λ i x c a b=>h.2 i x _ (by grind) (by grind)⟩
section
variable{F:Nat->Bool}{P:ef}{fs:Array k4}{α α' γ γ':Type}{β:ah}
theorem Qz{a c:Type}(f:a->hq c)(b:∀i β,RS F (lp P fs) P cW β (f i) (f i)):∀(l:List a) β,RS F (lp P fs) P cW β (l.mapM f) (l.mapM f)
 | [],β=>by exact .ak rfl|i::l,β=>by simp[pv];exact bc (b i _) λg x d=>bc (Qz f b l _) λh y e=> .ak rfl
theorem VG{a c:Type}(f:a->hq c)(b:∀i β,RS F (lp P fs) P cW β (f i) (f i))(l:Array a)(β):RS F (lp P fs) P cW β (l.mapM f) (l.mapM f):=by rw[hS];exact bc (Qz f b _ _) λe x d=> .ak rfl
theorem afe(r:nC P)(t){ps m}(h:PV β ps m):RS F (lp P fs) P VR β (zj t ps) (zj t m):=by refine bK (vr r t) λx z v p⟨e,l⟩=>?_;subst e;refine bc (ig t) λu d q=>?_;have hp:=(h.a p).a q;cases d with
 |struct o=>
  refine bc (VG _ (λ f β=>bc (jR f.type) λw n _=> .ak rfl) o u) λk s g=>?_;rcases C2 (s[·]?) (hp.a g).b (l k).e with e| ⟨c,c',a,b,j⟩
  grind[aN]
  simp only[a,b];exact .ak (VR.d j)|array n elem=>
  refine bc (jR elem) λk size g=>?_;rcases C2 (λ i=>some (i*size,size)) (hp.a g).b (l k).e with e| ⟨c,c',a,b,j⟩
  grind[aN]
  simp only[a,b];exact .ak (VR.d j)|_=>exact aN
theorem aiU(o:nC P)(t)(len){ps j}(h:PV β ps j):RS F (lp P fs) P VR β (sB t len ps) (sB t len j):=by refine bc (ig t) λw d m=>?_;cases d with
 |slice elem=>
  refine bc (jR elem) λr size n=>?_;have key:∀b(z:Array b2),bF r b->(∀v∈z,fB v)->RS F (lp P fs) P VR b (do
    let some cells:=l7 (λ i=>some (i*size,size)) ((mo (len*size)).map (z[· %z.size]!)) ps.toList|stuck "buildSlice: a part of the wrong size"
    eV (jc (some (<-pS elem cells)) len len)) (do
    let some cells:=l7 (λ i=>some (i*size,size)) ((mo (len*size)).map (z[· %z.size]!)) j.toList|stuck "buildSlice: a part of the wrong size"
    eV (jc (some (<-pS elem cells)) len len)):=by
   intro b z f g;rcases C2 (λ i=>some (i*size,size)) (((h.a m).a n).a f).b (AV.j (β:=b) (mo (len*size)) λ a _=>Jh g (a%z.size) b)with e| ⟨c,c',k,l,q⟩
   grind[aN]
   simp only[k,l];exact bK (yW _ q) λx a a' s p=> .ak (.dz (a:=some a) (a':=some _) p.1 _ _)
  simp only;split
  exact db;split;exact key _ _ (bF.b _) (by simp);refine bK (vr o elem) λb z u f⟨e,g⟩=>?_;subst e;exact key _ _ f (Gk g)|_=>exact aN
end
end
section
variable[aW][ck][Gl]
section
variable{F:Nat->Bool}{P:ef}{fs:Array k4}{α α' γ γ':Type}{β:ah}
variable {a a':hM} {x x':b2}
theorem aah(h:AR β a a'):RS F (lp P fs) P cW β (noView a) (noView a'):=by
 refine bK (A:=λ _(x y:Option _)=>x=none/\y=none) ?_ λg x y e⟨b,c⟩=>by subst b c;exact .ak rfl
 refine .nt h.1 λ s=>?_;cases s with|some q=>exact .ak ⟨rfl,rfl⟩|none=>refine .jF h.1 λ o f d=>?_;cases d<;>exact .ak ⟨rfl,rfl⟩
theorem Ki:∀d t off,mx (lp P fs) d t off=mx P d t off:=by
 intro d
 induction d with|zero=>intro t off;rfl|succ d a=>intro t off;unfold mx;simp[a];rfl
theorem tE(h:AR β a a'):RS F (lp P fs) P cW β (byteOf a) (byteOf a'):=by unfold byteOf;rw[<-h.2.2,<-h.2.1];cases a.spot with|some s=>exact .ak rfl|none=>refine mc ?_;refine bc (aah h) λd _ c=>?_;refine .nt (c _ _ h.1) λ s=>?_;cases s with|none=>exact aN|some q=>
   have⟨e,n⟩:=q;show RS F _ P _ _ (if P.cellsOf e=0 then eV 0 else _) (if P.cellsOf e=0 then eV 0 else _);split
   exact .ak rfl;rw[Ki];show RS F (lp P fs) P cW d (match mx P P.depth e (a.off%P.cellsOf e)with|some b=>eV (a.off/P.cellsOf e*P.bytesOf e+b)|_=>iA "byteOf: no such cell") (match mx P P.depth e (a.off%P.cellsOf e)with|some b=>eV (a.off/P.cellsOf e*P.bytesOf e+b)|_=>iA "byteOf: no such cell");cases mx P _ e _ with
   |none=>exact aN
   |some b=>exact .ak rfl
theorem VV(h:AR β a a')(c b):RS F (lp P fs) P AR β (partAt a c b) (partAt a' c b):=by
 refine bc (tE h) λg x f=>?_;have d:AR g {block:=a.block,off:=a.off+c} {block:=a'.block,off:=a'.off+c}:= ⟨f _ _ h.1,by simp[h.2.1],rfl⟩;refine bc (tE d) λi y e=> .ak ?_;split
 exact d.a e;exact⟨e _ _ d.1,d.2.1,rfl⟩
theorem aaM(h:AR β a a')(f):RS F (lp P fs) P AR β (fieldPlace a f) (fieldPlace a' f):=by
 refine bc (jR f.type) λc n b=>?_;split
 exact VV (h.a b) _ _;exact .ak ((h.a b).b _)
theorem VN(t)(h:VR β x x')(i):RS F (lp P fs) P VR β (x3 t x i) (x3 t x' i):=by refine bc (ig t) λn d e=>?_;cases d with
 |struct c=>simp;cases c[i]? with|none=>exact aN|some f=>refine bK (zi (h.a e)) λo a a' l g=>?_;exact bK (aaM g f) λp b k m j=> .ak (.dc (a:=some b) (a':=some _) j)
 |_=>exact aN
theorem ab9(t){y m}(h:VR β x x')(v:VR β y m):RS F (lp P fs) P VR β (x4 t x y) (x4 t x' m):=by
 refine bc (Dh v) λz q o=>?_;have⟨k,i⟩:=q;refine bc (ig t) λA d p=>?_;have l:=(h.a o).a p;have rest:∀f b e len elem,AO f b e->RS F (lp P fs) P VR f (do let j:=len<=1&& (match<-gl t with| .array .. =>true|_=>false) match b with
   |some a=>if 0<=i/\i<len then eV (.pointer (some (a.add (i.toNat* (<-sA elem))))) else if j then unsupported (.noEntry "op/indexAddr.an index out of range at an array of length 0 or 1 (ledger 616)") else k5 k i len .index|none=>k5 k i 0 .index) (do
   let j:=len<=1&& (match<-gl t with| .array .. =>true|_=>false) match e with
   |some a=>
    if 0<=i/\i<len then eV (.pointer (some (a.add (i.toNat* (<-sA elem))))) else if j then unsupported (.noEntry "op/indexAddr.an index out of range at an array of length 0 or 1 (ledger 616)") else k5 k i len .index|none=>k5 k i 0 .index):=by intro f b e len elem u;refine bc (ig t) λB d2 r=>?_;cases b with|none=>grind[Am]|some a=>cases e with|none=>trivial|some a'=>
    simp;split
    exact bc (jR _) λC n s=> .ak (.dc (a:=some _) (a':=some _) (((AR.a r u).a s).b _));cases d2<;>simp only<;>split<;>first|exact .a rfl|exact Am _ _ _ _
 cases d with
 |array len elem=>exact bK (zi l) λf a a' w g=>rest _ (some a) (some _) _ _ g|slice elem=>cases l with|dz g n c=>exact rest _ _ _ n _ g|_=>exact aN
 |_=>exact aN
def VO(β:ah):Option b2->Option b2->Prop|none,none=>True|some x,some y=>VR β x y|_,_=>False
theorem VO.b{β b}(h:bF β b):{a a':Option b2}->VO β a a'->VO b a a'|none,none,_=>trivial|some _,some _,x=>VR.a h x|none,some _,x=>x.elim|some _,none,x=>x.elim
theorem Bo(h:VR β x x')(y)(c):RS F (lp P fs) P cW β (lV x y c) (lV x' y c):=by
 refine bc (Dh h) λb q a=>?_;have⟨k,i⟩:=q;simp;split
 exact .ak rfl;grind[Am]
theorem B3(s)(len cap){lo d e c j f}(h1:VO β lo d)(g:VO β e c)(h3:VO β j f):RS F (lp P fs) P cW β (lA s len cap lo e j) (lA s len cap d c f):=by
 have low:∀k(h m:Nat)(b:Bool),bF β k->RS F (lp P fs) P cW k (do
   let l<-match lo with|some v=>lV v h (if b then .slice3C else .sliceB)|none=>eV 0
   eV (l,h,m)) (do
   let l<-match d with|some v=>lV v h (if b then .slice3C else .sliceB)|none=>eV 0
   eV (l,h,m)):=by intro k h m b a;cases lo with
  |none=>cases d with
   |none=>exact .ak rfl|some _=>trivial
  |some x=>cases d with
   |none=>trivial|some x'=>exact bc (Bo (VR.a a h1) _ _) λn l g=> .ak rfl
 cases j with
 |none=>cases f with|some _=>trivial|none=>refine bc (s:=eV cap) (s':=eV cap) (.ak rfl) λn m a=>?_;cases e with
   |none=>cases c with|none=>exact low _ _ m _ a|some _=>trivial
   |some x=>cases c with|none=>trivial|some x'=>exact bc (Bo (VR.a a g) _ _) λo l i=>low _ l m _ (a.a i)
 |some x=>cases f with|none=>trivial|some x'=>refine bc (Bo h3 _ _) λn m a=>?_;cases e with|none=>grind[tC]|some y=>cases c with|none=>trivial|some p=>exact bc (Bo (VR.a a g) _ _) λo l i=>low _ l m _ (a.a i)
theorem AO.c{a a'}(h:AO β a a')(n):AO β (a.map (·.add n)) (a'.map (·.add n)):=by cases a<;>cases a'<;>first|exact h.elim|exact trivial|exact AR.b h n
theorem XA(t){lo v p r o j}(D:VR β x x')(h1:VO β lo v)(h2:VO β p r)(h3:VO β o j):RS F (lp P fs) P VR β (x5 t x lo p o) (x5 t x' v r j):=by
 have slice:∀w,bF β w->RS F (lp P fs) P VR w (zl t x lo p o) (zl t x' v r j):=by intro w u;refine bc (ig t) λB d z=>?_;have b:=u.a z;have A:=D.a b;cases d with
  |string=>cases A with
   |eI s=>cases o with
    |some _=>cases j with
     |none=>exact h3.elim
     |some _=>exact tC
    |none=>cases j with
     |some _=>exact h3.elim
     |none=>exact bc (B3 false s.size _ (h1.b b) (h2.b b) trivial) λC q g=> .ak (.eI _)
   |_=>exact aN
  |slice elem=>cases A with| @dz a a' k n c=>
    refine bc (B3 true n c (h1.b b) (h2.b b) (h3.b b)) λC q g=>?_;have⟨l,h,m⟩:=q;refine bc (jR elem) λE size i=> .ak ?_;have e:=(k.a g).a i;by_cases f:m=l
    simp only[f,if_true];exact .dz e _ _;simp only[f,if_false];exact .dz (e.c _) _ _|_=>exact aN
  |pointer arr=>
   have I:RS F (lp P fs) P AR B (mH x) (mH x'):=by cases A with
    | @dc a a' h=>cases a<;>cases a'<;>first|exact h.elim|exact .ak h|exact E7 .nilDeref
    |_=>exact aN
   have body:RS F (lp P fs) P VR B (do
    let a<-mH x
    let .array n elem<-gl arr|stuck "Slice: array type expected"
    let(l,h,m)<-lA false n n lo p o
    let size<-sA elem
    eV (.slice (some (if m=l then a else a.add (l*size))) (h- l) (m- l))) (do
    let a<-mH x'
    let .array n elem<-gl arr|stuck "Slice: array type expected"
    let(l,h,m)<-lA false n n v r j
    let size<-sA elem
    eV (.slice (some (if m=l then a else a.add (l*size))) (h- l) (m- l))):=by
    refine bK I λC a a' g k=>?_;refine bc (ig arr) λE d2 i=>?_;cases d2 with
    |array n elem=>
     have y:=(b.a g).a i;refine bc (B3 false n n (h1.b y) (h2.b y) (h3.b y)) λJ q G=>?_;have⟨l,h,m⟩:=q;refine bc (jR elem) λK size H=> .ak ?_;have e:=((k.a i).a G).a H;by_cases f:m=l
     simp only[f,if_true];exact .dz (a:=some a) (a':=some _) e _ _;simp only[f,if_false];exact .dz (a:=some _) (a':=some _) (e.b _) _ _
    |_=>exact aN
   omega|_=>grind[aN]
 refine bc (ig t) λw d u=>?_;cases d with|array n elem=>
  refine bK (zi (D.a u)) λB a a' z k=>?_;have b:=u.a z;refine bc (B3 false n n (h1.b b) (h2.b b) (h3.b b)) λC q g=>?_;have⟨l,h,m⟩:=q;refine bc (jR elem) λE size i=> .ak ?_;have e:=(k.a g).a i;by_cases f:m=l
  simp only[f,if_true];exact .dz (a:=some a) (a':=some _) e _ _;simp only[f,if_false];exact .dz (a:=some _) (a':=some _) (e.b _) _ _|_=>grind
end
end
section
variable[aW][ck][Gl]
section
variable{F:Nat->Bool}{P:ef}{fs:Array k4}{α α' γ γ':Type}{β:ah}
variable {xs ys:Array b2}
theorem S4{A}{s':hq α'}(r)(k:y6->hq α)(i:∀o,AL o=true->∃m,k o=iA m):RS F (lp P fs) P A β (sE r k) s':= .vA λ v j=>by cases a:v.heap[r]? with|none=>exact⟨_,_,by simp[fH,a];rfl,rfl,id⟩|some o=>
  have b:=(j r o a).2;have⟨m,d⟩:=i o b;by_cases h:∃c e f,o= .cells c e f
  obtain⟨c,e,f,rfl⟩:=h;exact⟨_,_,by simp only[fH,a];rfl,rfl,id⟩;have g:(sE r k).run (lp P fs) v=(k o).run (lp P fs) v:=by
   grind[fH,absurd]
  exact⟨_,_,g.trans (by rw[d];rfl),rfl,id⟩
theorem abc(i)(t)(h:AV β xs ys):RS F (lp P fs) P VR β (p1 i t xs) (p1 i t ys):=by
 unfold p1;rcases h.d 0 with⟨j,l⟩| ⟨x,y,j,l,q⟩
 grind[aN]
 rw[j,l];cases i[0]? with
 |none=>exact aN
 |some u=>
  refine bc (ig u) λw d m=>?_;have f:=q.a m;cases d with
  |string=>cases f<;>first|exact aN|exact .ak (.cx _ _)
  |array n e=>exact .ak (.cx _ _)
  |pointer arr=>exact bc (ig _) λz d2 s=>by cases d2<;>first|exact aN|exact .ak (.cx _ _)
  |slice e=>cases f<;>first|exact aN|exact .ak (.cx _ _)
  |map k e=>
   cases f with
   | @kM r r' h=>
    cases r with
    |none=>cases r' with
     |none=>exact .ak (.cx _ _)
     |some _=>trivial
    |some r=>cases r' with
     |none=>trivial
     |some r'=>
      refine .jF h λ o v g=>?_;cases g with
      |mw c p=>exact .ak (by rw[p.1];exact .cx _ _)
      |_=>exact aN
   |_=>exact aN
  |chan a b=>
   cases f with
   |me=>exact .ak (.cx _ _)
   |gW h hp=>exact S4 _ _ λ o g=>by cases o<;>first|exact⟨_,rfl⟩|cases g
   |_=>exact aN
  |_=>grind[aN]
theorem afI(c)(t)(h:AV β xs ys):RS F (lp P fs) P VR β (pV c t xs) (pV c t ys):=by
 unfold pV;rcases h.d 0 with⟨f,g⟩| ⟨x,y,f,g,l⟩
 grind[aN]
 rw[f,g];cases c[0]? with
 |none=>exact aN
 |some u=>
  refine bc (ig u) λp d j=>?_;have i:=l.a j;cases d with
  |array n e=>exact .ak (.cx _ _)
  |pointer arr=>exact bc (ig _) λq d2 m=>by cases d2<;>first|exact aN|exact .ak (.cx _ _)
  |slice e=>cases i<;>first|exact aN|exact .ak (.cx _ _)
  |chan a b=>
   cases i with
   |me=>exact .ak (.cx _ _)
   |gW h hp=>exact S4 _ _ λ o k=>by cases o<;>first|exact⟨_,rfl⟩|cases k
   |_=>exact aN
  |_=>grind[aN]
theorem Oh{x a}(h:VR β x a):RS F (lp P fs) P cW β (u0 x) (u0 a):=by cases h<;>first|exact aN|exact .ak rfl
theorem Ek(size n){x d}(h:VR β x d):RS F (lp P fs) P AV β (hG size n x) (hG size n d):=by cases h with
 | @dz a a' h l c=>cases a<;>cases a'<;>first|exact h.elim|exact J5 _ h|exact .ak (AV.e _)
 |eI s=>exact .ak (AV.j _ λ b _=> .cx _ _)|_=>exact aN
theorem ac0{z}(b:∀v∈z,fB v)(n)(β):AV β (k9 z n) (k9 z n):=AV.j _ λ a _=>Jh b _ _
theorem adB(e)(t)(h:AV β xs ys):RS F (lp P fs) P VR β (o3 e t xs) (o3 e t ys):=by
 unfold o3;rcases h.d 0 with⟨f,g⟩| ⟨x,y,f,g,w⟩
 grind[aN];rcases h.d 1 with⟨i,j⟩| ⟨u,v,i,j,o⟩
 grind[aN];rw[f,g,i,j];cases e[0]? with|none=>exact aN|some d=>refine bc (ig d) λB d b=>?_;cases d with
  |slice elem=>have z:=w.a b;cases z with
   | @dz a a' q n c=>refine bc (Oh (o.a b)) λC l k=>?_;refine bc (jR elem) λD size m=>?_;refine bK (Ek size _ (((o.a b).a k).a m)) λE c c' p s=>?_;have r:=((q.a k).a m).a p;cases a with
    |none=>cases a' with|none=>exact .ak (.cx _ _)|some _=>trivial
    |some a=>cases a' with|none=>trivial|some a'=>exact bc (Ds 0 r s.g) λG _ A=> .ak (.cx _ _)
   |_=>exact aN
  |_=>exact aN
theorem kW(t):RS F (lp P fs) P (λ _ a a'=>a=a'/\P.underlying t=some a) β (gl t) (gl t):=by refine mc ?_;show RS F (lp P fs) P _ β (match P.underlying t with|some i=>eV i|none=>iA "no such type") (match P.underlying t with|some i=>eV i|none=>iA "no such type");cases h:P.underlying t with|none=>exact aN|some i=>exact .ak ⟨rfl,rfl⟩
theorem NK(Q)(a)(n)(v):∃b,(q3 a n).run Q v= .ok b v:=by show∃b,((match v.shape? _ with|some (_,m)=>eV _|none=>eV _:hq _)).run Q v= .ok b v;cases v.shape? _ with|none=>simp|some q=>simp
theorem aej(Q)(size sl n)(a)(x)(v):∃b,(nH size sl n a x).run Q v= .ok b v:=by
 have tail:∀t,∃b,((do
  if !t then return true
  match x with| .slice (some b) _ _=>do eV (!(<-q3 b (n*size))||a.any (·.block==b.block))|_=>eV false:hq Bool)).run Q v= .ok b v:=by intro t;cases t with|false=>simp|true=>cases x with
   |slice b l c=>cases b with|none=>simp|some b=>have⟨y,d⟩:=NK Q b (n*size) v;simp_all
   |_=>simp
 unfold nH;cases a with|none=>exact tail true|some a=>have⟨y,d⟩:=NK Q a (sl*size) v;have⟨b,e⟩:=tail (y&&!v.frozen? (a.add (sl/2*size)));refine⟨b,?_⟩;rw[<-e];show(fz _ _).run Q v=_;rw[ru,d];rfl
theorem VC(X:nC P)(g)(t){xs ys}(M:g[1]?≠none/\∀u,g[1]?=some u->(∃e,P.underlying u=some (.slice e))\/P.underlying u=some .string)(h:AV β xs ys):RS F (lp P fs) P VR β (nZ g t xs) (nZ g t ys):=by
 unfold nZ;rcases h.d 0 with⟨y,A⟩| ⟨s,s',y,A,ab⟩
 grind[aN];rcases h.d 1 with⟨B,C⟩| ⟨x,af,B,C,ad⟩
 grind[aN];rw[y,A,B,C];cases g[0]? with|none=>exact aN|some d=>refine bc (ig d) λar d D=>?_;cases d with
  |slice elem=>have ac:=ab.a D;cases ac with
   | @dz a a' q sl l=>
    refine bc (jR elem) λaw size G=>?_;have O:=(ad.a D).a G;have Y:=q.a G;cases N:g[1]? with
    |none=>exact absurd N M.1
    |some u=>
     refine bK (kW u) λax d aj m⟨e,K⟩=>?_;subst e;have Z:(∃e,d= .slice e)\/d= .string:=by
      rcases M.2 u N with⟨e,k⟩|k
      rw[K]at k;cases k;exact .inl ⟨e,rfl⟩;rw[K]at k;cases k;exact .inr rfl
     obtain⟨e,rfl⟩|rfl:=Z
     all_goals
      simp only[pure_bind,fl,if_false,x6,if_true,false_or];refine bc (Oh (O.a m)) λah n H=>?_;have Q:=(O.a m).a H;have I:=(Y.a m).a H;split
      refine bK (Ek size n Q) λai c c' p w=>?_;have J:=I.a p;cases a with
      |none=>cases a' with
       |none=>exact .ak (.dz (a:=none) (a':=none) trivial _ _)
       |some _=>exact q.elim
      |some a=>cases a' with
       |none=>exact q.elim
       |some a'=>exact bc (Ds 0 (AR.b J _) w.g) λi _ j=> .ak (.dz (a:=some a) (a':=some a') (AR.a j J) _ _)
      refine bc (rJ elem) λai info p=>?_;have S:∀i,bF ah i->RS F (lp P fs) P VR i (do
       let f<-x9 (qO (sl+n) l elem)
       let __do_lift<-nB elem
       sr (f*__do_lift.bytes)
       let old<-hG size sl (jc a sl l)
       let new<-hG size n x
       let __do_lift<-nY elem
       let __do_lift<-pS elem (old++new++k9 __do_lift.cells (f- (sl+n)))
       eV (jc (some __do_lift) (sl+n) f)) (do
       let f<-x9 (qO (sl+n) l elem)
       let __do_lift<-nB elem
       sr (f*__do_lift.bytes)
       let old<-hG size sl (jc a' sl l)
       let new<-hG size n af
       let __do_lift<-nY elem
       let __do_lift<-pS elem (old++new++k9 __do_lift.cells (f- (sl+n)))
       eV (jc (some __do_lift) (sl+n) f)):=by
       intro i j;refine JK λ ao=>bc (rJ elem) λay an U=>bc (Qv _) λaz _ V=>?_;have L:=(j.a U).a V;refine bK (Ek size sl (.dz (I.a L) sl l)) λaA o ap W aa=>?_;refine bK (Ek size n ((Q.a L).a W)) λau c c' T w=>?_;refine bK (vr X elem) λag z aq E⟨e,ae⟩=>?_;subst e;refine bK (yW elem (AV.b (AV.b ((aa.a T).a E) (w.a E)) (ac0 (Gk ae) _ ag))) λav b R al r=> .ak (.dz (a:=some b) (a':=some R) r.1 _ _)
      split;exact yb _;refine bc (rJ elem) λi am j=>?_;split;refine tV λ v=>?_;obtain⟨b,r⟩:=aej (lp P fs) size sl n a x v;show∃z v2,(fz (nH size sl n a x) _).run (lp P fs) v= .halt z v2/\BH v v2 z;rw[ru,r];cases b<;>exact⟨_,_,rfl,rfl,id⟩
      exact S i (p.a j)
   |_=>exact aN
  |_=>exact aN
end
end
section
variable[aW][ck][Gl]
section
variable{F:Nat->Bool}{P:ef}{fs:Array k4}{α α' γ γ':Type}{β:ah}
variable {a a':hM}
theorem ad9{r r'}(h:β r r'):RS F (lp P fs) P (λ _(x y:Option (hM×eb))=>x=none/\y=none) β (viewAt r) (viewAt r'):=by refine .nt h λ s=>?_;cases s with|some q=>exact .ak ⟨rfl,rfl⟩|none=>refine .jF h λ o b a=>?_;cases a<;>exact .ak ⟨rfl,rfl⟩
def NR:ah->Option (hM×Bool)->Option (hM×Bool)->Prop|_,none,none=>True|β,some x,some y=>AR β x.1 y.1/\x.2=y.2|_,_,_=>False
theorem XS{r r'}(h:β r r'):RS F (lp P fs) P NR β (numberAt r) (numberAt r'):=by refine .nt h λ s=>?_;cases s with|some q=>exact .ak trivial|none=>refine .jF h λ o b a=>?_;cases a with|xE l x=>exact .ak ⟨x,rfl⟩|_=>exact .ak trivial
theorem sn(h:AR β a a'):RS F (lp P fs) P (λβ x y=>AR β x.1 y.1/\x.2=y.2) β (hZ a) (hZ a'):=by refine bK (XS h.1) λd x y c b=>?_;cases x<;>cases y<;>first|exact b.elim|exact .ak ⟨h.a c,rfl⟩|exact .ak b
theorem adm(h:AR β a a')(l):RS F (lp P fs) P VR β (u7 a l) (u7 a' l):= .oq (.xE l h) λ r r' c _ b _=> .ak (.dc (a:=some _) (a':=some _) ⟨b,rfl,rfl⟩)
theorem V6:∀d t off,y0 (lp P fs) d t off=y0 P d t off:=by
 intro d
 induction d with|zero=>intro t off;rfl|succ d a=>intro t off;unfold y0;simp[a];rfl
theorem afG(d)(e)(count off)(b):l9 (lp P fs) d e count off b=l9 P d e count off b:=by unfold l9;simp[Ki,V6];rfl
def PA:ah->b2->b2->Prop:=λβ x y=>∃b a,x= .pointer b/\y= .pointer a/\AO β b a
theorem Ke(d)(t){a a'}(h:AO β a a')(n)(k):RS F (lp P fs) P PA β (kR d t #[.pointer a,.int k n]) (kR d t #[.pointer a',.int k n]):=by
 refine bc (HK (.cx k n)) λl m i=>?_;have b:=h.a i;simp;split
 cases a with
 |none=>exact db
 |some a=>cases a' with
  |none=>trivial
  |some a'=>
   refine bK (ad9 b.1) λo x y j⟨f,g⟩=>?_;subst f g;exact .ak ⟨_,_,rfl,rfl,AO.a j b⟩
 split;exact tV λ v=> ⟨_,_,rfl,rfl,λ h=>h⟩;cases a with
 |none=>exact db
 |some a=>cases a' with
  |none=>trivial
  |some a'=>
   refine .nt b.1 λ s=>?_;cases s with
   |none=>exact db
   |some q=>
    obtain⟨e,c⟩:=q;refine mc ?_;rw[afG,<-b.2.1];show RS F (lp P fs) P PA l (match l9 P P.depth e (c/P.cellsOf e) a.off m with|some off=>eV (.pointer (some {a with off}))|none=>_) (match l9 P P.depth e (c/P.cellsOf e) a.off m with|some off=>eV (.pointer (some {a' with off}))|none=>_);cases l9 P _ e _ _ m with
    |none=>exact db
    |some off=>exact .ak ⟨_,_,rfl,rfl,b.1,rfl,b.2.2⟩
theorem HQ(op)(t)(k)(a)(k')(b):RS F (lp P fs) P VR β (n3 op t (.int k a) (.int k' b)) (n3 op t (.int k a) (.int k' b)):=by
 have d:∀op,RS F (lp P fs) P VR β (zr op k a k' b) (zr op k a k' b):=by
  intro op;unfold zr;split
  grind[E7]
  cases op<;>first|exact .ak (.cx _ _)|exact aN
 have c:∀op,RS F (lp P fs) P VR β (x7 op k a b) (x7 op k a b):=by
  intro op;unfold x7;split
  grind[E7]
  cases op<;>first|exact .ak (.cx _ _)|exact aN
 cases op<;>simp only[n3]<;>first|exact d _| (
   split
   exact aN
   first
   |exact c _
   |exact .ak (.cx _ _)
   |exact .ak (.fY _))
theorem G4(op)(t)(a b):RS F (lp P fs) P VR β (n3 op t (.string a) (.string b)) (n3 op t (.string a) (.string b)):=by cases op<;>simp[n3,Op.stringOp]<;>first|exact .ak (.fY _)|exact aN| (
   split
   exact db;exact .ak (.eI _))
theorem Ky(k:aW.n=P.globals.size){b d}(c:AR β a a')(e:AR β b d):RS F (lp P fs) P cW β (B1 a b) (B1 a' d):=by
 refine mc ?_;have f:(a.block !=b.block)=(a'.block !=d.block):=by rw[u9,bne_iff_ne,bne_iff_ne];exact not_congr ⟨λ h=>β.f _ _ _ c.1 (h▸e.1),λ h=>β.e _ _ _ c.1 (h▸e.1)⟩
 have g:lk (a.block>=(lp P fs).globals.size)=lk (a'.block>=P.globals.size):=by have:=β.d _ _ c.1;grind
 simp[f,g];split
 exact .a rfl;exact bc (tE c) λl x i=>bc (tE (e.a i)) λm y j=> .ak rfl
theorem HT(h:AR β a a')(k)(n):RS F (lp P fs) P VR β (K4 k a n) (K4 k a' n):=by refine .nt h.1 λ s=>?_;cases s with|none=>exact db|some q=>
  have⟨e,c⟩:=q;show RS F _ P _ _ (nB e>>=λ i=>_) (nB e>>=λ i=>_);refine bc (rJ e) λg info d=>?_;simp;split
  exact tV λ v=> ⟨_,_,rfl,rfl,λ h=>h⟩;exact bc (tE (h.a d)) λj b f=> .ak (.cx _ _)
theorem Fx(t){x l}(h:VR β x l)(c:∃a,x= .pointer a)(k)(n):RS F (lp P fs) P VR β (ma t x (.int k n)) (ma t l (.int k n)):=by obtain⟨a,rfl⟩:=c;cases h with| @dc a a' h=>
  refine bc (ig t) λz d q=>?_;have body:RS F (lp P fs) P VR z (do
   let .pointer (some f):=nb a|Builtin.unsafeAdd_ #[] t #[.pointer a,.int k n]
   let(a,e)<-hZ f match<-kR #[] t #[.pointer (some a),.int k n]with
   | .pointer (some b)=>u7 b e|v=>eV v) (do
   let .pointer (some f):=nb a'|Builtin.unsafeAdd_ #[] t #[.pointer a',.int k n]
   let(a,e)<-hZ f match<-kR #[] t #[.pointer (some a),.int k n]with
   | .pointer (some b)=>u7 b e|v=>eV v):=by have p:=h.a q;cases a with
   |none=>cases a' with|none=>exact RS.e (Ke _ _ (a:=none) (a':=none) trivial n k) λG x y _⟨b,g,m,o,h⟩=>by subst m o;exact .dc h|some _=>trivial
   |some a=>cases a' with|none=>trivial|some a'=>refine bK (sn p) λH x y A⟨c,j⟩=>?_;have⟨s,D⟩:=x;have⟨w,E⟩:=y;simp at c j;subst j;refine bK (Ke _ _ (a:=some s) (a':=some w) c n k) λI u C B r=>?_;obtain⟨b,g,rfl,rfl,i⟩:=r;cases b<;>cases g<;>first|exact i.elim|exact adm i _|exact .ak (.dc (a:=none) (a':=none) trivial)
  cases d<;>first|exact tV λ v=> ⟨_,_,rfl,rfl,λ h=>h⟩|exact body
end
end
section
variable[aW][ck][Gl]
def ik(Q P:ef):Nat->eb->Bool|0,_=>false|n+1,t=>match P.underlying t with|some .bool|some (.int _)|some .string|some (.slice _)=>true|some (.struct fs)=>!P.stoodInHeld t&&!Q.stoodInHeld t&&fs.all λ f=>ik Q P n f.type|some (.array _ e)=>ik Q P n e|_=>false
section
variable{F:Nat->Bool}{P:ef}{fs:Array k4}{α α' γ γ':Type}{β:ah}
def Ni{a:Type}(A:ah->a->a->Prop):ah->ForInStep a->ForInStep a->Prop|β,.yield x,.yield y=>A β x y|β,.done x,.done y=>A β x y|_,_,_=>False
theorem yn{c a:Type}{A f f'}:∀(l:List c),(∀i∈l,∀β s s',A β s s'->RS F (lp P fs) P (Ni A) β (f i s) (f' i s'))->∀β(s s':a),A β s s'->RS F (lp P fs) P A β (F0 l s f) (F0 l s' f')
 | [],_,β,s,s',h=>by exact .ak h|i::l,hf,β,s,s',h=>by simp[o0];refine bK (hf i (by simp) β s s' h) λe x y g b=>?_;cases x<;>cases y<;>first|exact b.elim|exact .ak b|exact yn l (λ j d=>hf j (by simp[d])) e _ _ b
theorem afL(d)(t)(k0)(K:P.underlying t=some (.int k0))(O:aW.n=P.globals.size){x B y C}(s:VR β x B)(f:VR β y C):RS F (lp P fs) P cW β (mn (d+1) t x y) (mn (d+1) t B C):=by refine bK (kW t) λY u V o⟨e,A⟩=>?_;subst e;rw[K]at A;cases A;have s:=s.a o;have f:=f.a o;cases s with
 |cx k a=>cases f with
  |cx k' b=>
   simp;split
   exact .ak rfl;exact aN| @dc b g j=>
   cases b with
   |none=>cases g with
    |none=>exact db
    |some _=>exact j.elim
   |some b=>cases g with
    |none=>exact j.elim
    |some g=>
     cases a with
     |ofNat n=>cases n<;>first|exact .ak rfl|exact db
     |negSucc n=>exact db
  |_=>first|exact aN|exact db
 | @dc a a' H=>cases a with|none=>cases f<;>exact db|some a=>cases a' with
   |none=>trivial
   |some a'=>
    cases f with
    |cx k b=>
     cases b with
     |ofNat n=>cases n<;>first|exact .ak rfl|exact db
     |negSucc n=>exact db
    | @dc b g j=>
     cases b with
     |none=>exact db
     |some b=>cases g with
      |none=>trivial
      |some g=>
       refine bK (sn H) λZ p q w⟨hp,_⟩=>?_;refine bK (sn (AR.a w j)) λl u v z⟨c,_⟩=>?_;have⟨p,p2⟩:=p;have⟨q,L⟩:=q;have⟨u,W⟩:=u;have⟨v,v2⟩:=v;simp at hp c;have hp:=hp.a z;have R:=c;have D:(p.block==u.block)=(q.block==v.block):=by
        rw[u9,beq_iff_eq,beq_iff_eq];exact⟨λ h=>l.f _ _ _ hp.1 (h▸c.1),λ h=>l.e _ _ _ hp.1 (h▸c.1)⟩
       have G:lk (p.block< (lp P fs).globals.size)=lk (q.block<P.globals.size):=by
        have:=l.d _ _ hp.1
        grind
       refine mc ?_;simp only[D,G];split
       exact bc (tE hp) λM m i=>bc (tE (c.a i)) λaa n N=> .ak rfl;refine bc (rJ t) λM info i=>?_;have Q:=hp.a i;have S:=c.a i;have E:p=u->q=v:=by
        intro e;subst e;obtain⟨T,L,U⟩:=q;obtain⟨v1,v2,X⟩:=v;have o:=l.f _ _ _ hp.1 c.1;have w:=hp.2.1.symm.trans c.2.1;have z:=hp.2.2.symm.trans c.2.2
        grind
       by_cases r:p=u;have J:=E r;subst r J;simp only[beq_self_eq_true,if_true];split;exact .ak rfl;exact .a rfl;have I:(p==u)=false:=beq_false_of_ne r;simp only[I,fl,if_false];split<;>exact .a rfl
    |_=>exact db
 |fy h=>cases f<;>first|exact aN|exact db
 |_=>cases f<;>first|exact aN|exact db
theorem NU(af:aW.n=P.globals.size):∀d n t,ik (lp P fs) P n t=true->∀{β:ah}{x E y G:b2},VR β x E->VR β y G->RS F (lp P fs) P cW β (mn d t x y) (mn d t E G):=by
 intro d
 induction d with|zero=>intro n t _ β x E y G g p;exact db|succ d R=>intro n t o β x E y G g p;cases n with|zero=>simp[ik]at o|succ n=>unfold ik at o;cases j:P.underlying t with|none=>rw[j]at o;simp at o|some u=>cases u with
    |int k0=>grind[afL]|bool=>
     refine bK (kW t) λw u z k⟨e,h⟩=>?_;subst e;rw[j]at h;cases h;have g:=g.a k;cases g with
     |fY a=>cases p<;>first|exact .ak rfl|exact aN
     |_=>exact aN
    |string=>
     refine bK (kW t) λw u z k⟨e,h⟩=>?_;subst e;rw[j]at h;cases h;have g:=g.a k;cases g with
     |eI a=>cases p<;>first|exact .ak rfl|exact aN
     |_=>exact aN
    |slice e=>
     refine bK (kW t) λw u z k⟨e,h⟩=>?_;subst e;rw[j]at h;cases h;have g:=g.a k;have p:=p.a k;cases g with
     | @dz a a' Q l c=>
      cases p with
      | @dz b S U ag c2=>
       cases a<;>cases a'<;>cases b<;>cases S<;>first|exact Q.elim|exact U.elim|exact .ak rfl|exact aN
      |_=>cases a<;>cases a'<;>first|exact Q.elim|exact aN
     |_=>exact aN
    |struct T=>
     rw[j]at o;simp only[eg,Bool.not_eq_true',hU,gf]at o;have⟨⟨X,Y⟩,V⟩:=o;refine bK (kW t) λw u z k⟨e,h⟩=>?_;subst e;rw[j]at h;cases h;have g:=g.a k;have p:=p.a k;cases g with
     | @gU xs aa H I=>
      cases p with
      | @gU ys ab J K=>
       refine mc ?_;simp only[X,Y,fl,if_false];rw[<-hD,<-hD];refine bK (yn (A:=λβ s s'=>s=s'/\bF w β) T.toList ?_ w _ _ ⟨rfl,bF.b _⟩) λD s s' L⟨e,_⟩=>?_
       intro f W D s s' ⟨e,q⟩;subst e;split;refine bK (sI f.type f.offset (AV.a q ⟨H,I⟩)) λac u z B j=>?_;refine bK (sI f.type f.offset (AV.a (q.a B) ⟨J,K⟩)) λad v v' C O=>?_;refine bc (R n f.type (V f (by simpa using W)) (j.a C) O) λae r M=>?_;have N:=((q.a B).a C).a M;cases r<;>exact .ak ⟨rfl,N⟩
       exact .ak ⟨rfl,q⟩;subst e;split<;>exact .ak rfl
      |_=>exact aN
     |_=>exact aN
    |array len e=>
     rw[j]at o;simp at o;refine bK (kW t) λw u z k⟨e,h⟩=>?_;subst e;rw[j]at h;cases h;have g:=g.a k;have p:=p.a k;cases g with
     | @gU xs aa H I=>
      cases p with
      | @gU ys ab J K=>
       refine bc (jR _) λD m L=>?_;rw[gg,gg];refine bK (yn (A:=λβ s s'=>s=s'/\bF w β) _ ?_ D _ _ ⟨rfl,L⟩) λD s s' L⟨e,_⟩=>?_
       intro i _ D s s' ⟨e,q⟩;subst e;refine bK (sI _ _ (AV.a q ⟨H,I⟩)) λac u z B j=>?_;refine bK (sI _ _ (AV.a (q.a B) ⟨J,K⟩)) λad v v' C O=>?_;refine bc (R n _ o (j.a C) O) λae r M=>?_;have N:=((q.a B).a C).a M;cases r<;>exact .ak ⟨rfl,N⟩
       subst e;obtain⟨Z,ai⟩:=s;cases Z<;>exact .ak rfl
      |_=>exact aN
     |_=>exact aN
    |_=>rw[j]at o;simp at o
end
end
section
variable[aW][ck][Gl]
section
variable{F:Nat->Bool}{P:ef}{fs:Array k4}{α α' γ γ':Type}{β:ah}
variable {β':ah} {n:Nat} {t:eb}
theorem AO.b{a b a' c}(h:AO β a a')(d:AO β b c)(e:a=b):a'=c:=by subst e;cases a with
 |none=>cases a'<;>cases c<;>first|rfl|exact h.elim|exact d.elim
 |some a=>cases a' with|none=>exact h.elim|some a'=>cases c with|none=>trivial|some c=>have⟨j,k,l⟩:=a';have⟨v1,v2,m⟩:=c;have f:=β.f _ _ _ h.1 d.1;have g:=h.2.1.symm.trans d.2.1;have i:=h.2.2.symm.trans d.2.2;grind
theorem NO.c{a b a' c}(h:NO β a a')(d:NO β b c)(e:a=b):a'=c:=by subst e;cases a with
 |none=>cases a'<;>cases c<;>first|rfl|exact h.elim|exact d.elim
 |some a=>cases a' with|none=>exact h.elim|some a'=>cases c with|none=>trivial|some c=>exact congrArg some (β.f _ _ _ h d)
theorem Wu{p:b2->b2->Bool}{l m l' m'}(c:LV β l l')(d:LV β m m')(hp:∀x e y f,VR β x e->VR β y f->p x y=true->p e f=true) (h:(l.zip m).all (λ(x,y)=>p x y)=true):(l'.zip m').all (λ(x,y)=>p x y)=true:=by induction l generalizing l' m m' with
 |nil=>cases l' with|nil=>simp|cons _ _=>trivial
 |cons a l g=>cases l' with|nil=>rfl|cons a' l'=>cases m with
   |nil=>cases m' with|nil=>simp|cons _ _=>trivial
   |cons b m=>cases m' with|nil=>rfl|cons i m'=>simp only[List.zip_cons_cons,y2,eg]at h⊢;exact⟨hp _ _ _ _ c.1 d.1 h.1,g c.2 d.2 h.2⟩
theorem PL:∀n{y:b2},rq y=true->en n y y=true:=by intro n y h;cases y with|pointer a=>grind[en]|chan a=>grind[en]|_=>trivial
theorem aaj:∀n{x d y e:b2},VR β x d->VR β y e->en n x y=true->en n d e=true:=by
 intro n
 induction n with
 |zero=>intro x d y e f a h;cases f with
  |dc b=>cases a<;>first| (simp[en,hF]at h;done)| (rename_i c;simp[en,beq_iff_eq]at h⊢;exact b.b c h)
  |me=>cases a<;>first| (simp[en,hF]at h;done)|rfl
  |gW b hp=>cases a<;>first| (simp[en,hF]at h;done)| (rename_i c p;simp[en,beq_iff_eq,Option.some.injEq]at h;subst h;cases aW.d _ _ _ b c;exact PL _ hp)
  |_=>cases a<;>first|exact h| (simp[en,hF]at h;done)
 |succ n j=>intro x d y e f a h;cases f with
  |dc b=>cases a<;>first| (simp[en,hF]at h;done)| (rename_i c;simp[en,beq_iff_eq]at h⊢;exact b.b c h)
  |me=>cases a<;>first| (simp[en,hF]at h;done)|rfl
  |gW b hp=>cases a<;>first| (simp[en,hF]at h;done)| (rename_i c p;simp[en,beq_iff_eq,Option.some.injEq]at h;subst h;cases aW.d _ _ _ b c;exact PL _ hp)
  |qM t q=>cases a<;>first| (simp[en,hF]at h;done)| (rename_i r;simp[en,eg]at h⊢;exact⟨h.1,j q r h.2⟩)
  |gU g k=>cases a with|gU i l=>simp only[en,eg]at h⊢;rw[<-g,<-i];exact⟨h.1,Wu (AV.g ⟨g,k⟩) (AV.g ⟨i,l⟩) (λ _ _ _ _ m o=>j m o) h.2⟩|_=>trivial
  |_=>cases a<;>first|exact h| (simp[en,hF]at h;done)
theorem YZ{x b y c}(e:VR β x b)(a:VR β y c):RS F (lp P fs) P VR β (np x y) (np b c):=by
 unfold np;by_cases h:en 10000 x y=true
 rw[if_pos h,if_pos (aaj _ e a h)];exact .ak a;rw[if_neg h];by_cases d:en 10000 b c=true;rw[if_pos d];refine .v8 0 (by exact⟨0,rfl⟩) ?_;exact .ak a;rw[if_neg d];refine .uP λ n=> .ak ?_
 grind
theorem agz(t):RS F (lp P fs) P cW β (typeStr t) (typeStr t):=by
 refine bc (rJ t) λb i a=>?_;simp;split
 exact db;exact .ak rfl
theorem zx:∀n empty t{β:ah}{x p:b2},VR β x p->RS F (lp P fs) P cW β (j1 empty n t x) (j1 empty n t p)
 |0,_,_,_,_,_,_=>db|n+1,empty,t,β,x,p,b=>by refine bc (ig t) λD d v=>?_;have b:=b.a v;cases d with
  |interface ms=>cases b with
   |qM d o=>
    refine bc (rJ d) λr info w=>?_;have o:=o.a w;simp;split
    grind[yb,bc,agz]
    exact zx n _ d o|mj=>exact .ak rfl|_=>exact aN
  |array len e=>cases b with|gU c g=>simp only;rw[gg,gg];refine bK (yn (A:=λβ s s'=>s=s'/\bF _ β) _ ?_ _ _ _ ⟨rfl,bF.b _⟩) λ _ _ _ _ _=> .ak rfl;intro i _ r s s' ⟨h,a⟩;subst h;refine bc (jR e) λE m q=>?_;refine bK (sI e _ (AV.a (a.a q) ⟨c,g⟩)) λz u y j l=>?_;exact bc (zx n _ e l) λB _ k=> .ak ⟨rfl,((a.a q).a j).a k⟩|_=>exact aN
  |struct C=>cases b with|gU c g=>
    simp only;rw[<-hD,<-hD];refine bK (yn (A:=λβ s s'=>s=s'/\bF _ β) _ ?_ _ _ _ ⟨rfl,bF.b _⟩) λ _ _ _ _ _=> .ak rfl;intro f _ r s s' ⟨h,a⟩;subst h;split
    refine bK (sI f.type f.offset (AV.a a ⟨c,g⟩)) λz u y j l=>?_;exact bc (zx n _ _ l) λB _ k=> .ak ⟨rfl,(a.a j).a k⟩;exact .ak ⟨rfl,a⟩|_=>exact aN
  |_=>cases b<;>exact .ak rfl
def KR:ah->Option (Nat×b2)->Option (Nat×b2)->Prop|_,none,none=>True|β,some x,some y=>x.1=y.1/\VR β x.2 y.2|_,_,_=>False
def EL(β:ah):List ez->List ez->Prop| [],[]=>True|e::l,e'::l'=>ER β e e'/\EL β l l'|_,_=>False
theorem ER.a(h:bF β β'){e a}(x:ER β e a):ER β' e a:= ⟨x.1.a h,x.2.1.a h,x.2.2⟩
theorem EL.b(h:bF β β'):{l l':List ez}->EL β l l'->EL β' l l'| [],[],_=>trivial|_::_,_::_,x=> ⟨x.1.a h,EL.b h x.2⟩| [],_::_,x=>x.elim|_::_,[],x=>x.elim
theorem EL.c:{l m:List ez}->l.length=m.length->(∀(i:Nat) v v',l[i]?=some v->m[i]?=some v'->ER β v v')->EL β l m| [],[],_,_=>trivial|_::_,_::_,h,x=> ⟨x 0 _ _ rfl rfl,EL.c (by grind) λ i v v' a b=>x (i+1) v v' (by trivial) (by trivial)⟩| [],_::_,h,_=>by trivial|_::_,[],h,_=>by trivial
theorem EA.a{es c}(h:EA β es c):EL β es.toList c.toList:=EL.c (by simpa using h.1) λ i v v' a b=>h.2 i v _ (by grind) (by grind)
theorem SI(c:aW.n=P.globals.size)(d:ik (lp P fs) P n t=true):∀{l l':List ez}{β:ah}{k k':b2}(i:Nat),EL β l l'->VR β k k'->RS F (lp P fs) P KR β (s0 t k l i) (s0 t k' l' i)
 | [],[],_,_,_,_,_,_=> .ak trivial|e::l,e'::l',β,k,k',i,h,hk=>by refine bc (NU c _ n t d hk h.1.1) λf b a=>?_;cases b with|true=>exact .ak ⟨rfl,h.1.2.1.a a⟩|false=>exact SI c d _ (h.2.b a) (hk.a a)
 | [],_::_,_,_,_,_,h,_=>h.elim|_::_,[],_,_,_,_,h,_=>h.elim
theorem KX(d:aW.n=P.globals.size){n t}(j:ik (lp P fs) P n t=true)(i:∃f,P.underlying t=some (.struct f)){l l' k k'}(h:EL β l l')(a:VR β k k'):RS F (lp P fs) P KR β (nc t k l) (nc t k' l'):=by refine bK (kW t) λp u o b⟨e,c⟩=>?_;subst e;have⟨f,g⟩:=i;rw[g]at c;cases c;have h:=h.b b;have a:=a.a b;cases l with
 |nil=>cases l' with|nil=>exact .ak trivial|cons _ _=>trivial
 |cons e l=>cases l' with|nil=>exact h.elim|cons m l'=>exact SI d j 0 h a
end
end
section
variable[aW][ck][Gl]
section
variable{F:Nat->Bool}{P:ef}{fs:Array k4}{α α' γ γ':Type}{β:ah}
variable {p:ez->Bool} {n:Nat} {t:eb}
def nq(Q P:ef)(n:Nat)(t:eb):Bool:=match P.underlying t with|some (.map k _)=>ik Q P n k&& (match P.underlying k with|some (.struct _)=>true|_=>false)|_=>false
theorem EL.d:{l m:List ez}->EL β l m->l.length=m.length/\∀(i:Nat) v v',l[i]?=some v->m[i]?=some v'->ER β v v'
 | [],[],_=> ⟨rfl,λ i v v' h=>by trivial⟩|_::_,_::_,x=> ⟨by simpa using(EL.d x.2).1,λ i v v' a b=>by cases i with|zero=>simp at a b;subst a b;exact x.1|succ i=>exact(EL.d x.2).2 i v _ (by trivial) (by trivial)⟩| [],_::_,x=>x.elim|_::_,[],x=>x.elim
theorem EL.f{es c}(h:EL β es.toList c.toList):EA β es c:= ⟨by simpa using h.d.1,λ i v v' a b=>h.d.2 i v _ (by grind) (by grind)⟩
theorem EL.a(hp:∀e a,ER β e a->p e=p a):{l m:List ez}->EL β l m->EL β (l.filter p) (m.filter p)
 | [],[],_=>trivial|e::l,a::m,x=>by simp[List.filter_cons];rw[<-hp e _ x.1];cases p e with|true=>exact⟨x.1,EL.a hp x.2⟩|false=>exact EL.a hp x.2
 | [],_::_,x=>x.elim|_::_,[],x=>x.elim
theorem EA.b(hp:∀e a,ER β e a->p e=p a){es b}(h:EA β es b):EA β (es.filter p) (b.filter p):=EL.f (by rw[rr,rr];exact EL.a hp h.a)
theorem EL.e(hp:∀e a,ER β e a->p e=p a):{l m:List ez}->EL β l m->l.all p=m.all p| [],[],_=>rfl|e::l,a::m,x=>by simp[y2,hp e a x.1,EL.e hp x.2]| [],_::_,x=>x.elim|_::_,[],x=>x.elim
theorem EA.h(hp:∀e a,ER β e a->p e=p a){es b}(h:EA β es b):es.all p=b.all p:=by rw[<-s4,<-s4];exact EL.e hp h.a
theorem EA.g{es f}(h:EA β es f){e d}(g:ER β e d):EA β (es.push e) (f.push d):=by
 refine⟨by simp[h.1],λ i v v' a b=>?_⟩;rw[mv]at a b;by_cases c:i=es.size
 rw[if_pos c]at a;rw[if_pos (h.1▸c)]at b
 grind
 rw[if_neg c]at a;rw[if_neg (h.1▸c)]at b;exact h.2 i v _ a b
theorem EA.d{es k}(h:EA β es k)(i){f f'}(o:∀e g,ER β e g->ER β (f e) (f' g)):EA β (es.modify i f) (k.modify i f'):=by
 refine⟨by simp[h.1],λ j v v' c d=>?_⟩;rw[qF]at c d;by_cases l:i=j
 subst l;rw[if_pos rfl]at c d;obtain⟨a,m,rfl⟩:=eH.1 c;obtain⟨b,n,rfl⟩:=eH.1 d;exact o a b (h.2 i a b m n);rw[if_neg l]at c d;exact h.2 j v _ c d
theorem EA.f{es a}(h:EA β es a)(i:Nat):(es[i]?=none/\a[i]?=none)\/∃v v',es[i]?=some v/\a[i]?=some v'/\ER β v v':=by
 by_cases b:i<es.size
 have c:i<a.size:=h.1▸b;exact .inr ⟨_,_,fv b,fv c,h.2 i _ _ (by grind) (by grind)⟩;have c:¬i<a.size:=h.1▸b
 grind
theorem ad0(C:nC P)(B:aW.n=P.globals.size)(d:nq (lp P fs) P n t=true){x A y h}(m:VR β x A)(g:VR β y h)(ok):RS F (lp P fs) P VR β (y3 t x y ok) (y3 t A h ok):=by refine bK (kW t) λJ u O p⟨e,D⟩=>?_;subst e;unfold nq at d;rw[D]at d;cases u with
 |map key elem=>
  simp[eg]at d;have H:∃f,P.underlying key=some (.struct f):=by grind
  have m:=m.a p;have g:=g.a p;have rest:∀j es a,bF J j->EA j es a->RS F (lp P fs) P VR j (do
    j1 es.isEmpty 10000 key y
    let(v,o)<-match<-nc key y es.toList with
     |some (_,v)=>eV (v,true)
     |none=>eV (<-nY elem,false)
    eV (if ok then .tuple #[v,.bool o]else v)) (do
    j1 a.isEmpty 10000 key h
    let(v,o)<-match<-nc key h a.toList with
     |some (_,v)=>eV (v,true)
     |none=>eV (<-nY elem,false)
    eV (if ok then .tuple #[v,.bool o]else v)):=by
   intro j es a q b;have E:es.isEmpty=a.isEmpty:=by simp[p5,b.1]
   rw[<-E];refine bc (zx 10000 _ key (g.a q)) λR _ s=>?_;have fin:∀k v v' o,VR k v v'->RS F (lp P fs) P VR k (eV (if ok then n4 #[v,.bool o]else v)) (eV (if ok then n4 #[v',.bool o]else v')):=by
    intro k v v' o w;cases ok with
    |true=>exact .ak (VR.b (AV.h (AV.c w) (.fY o)))
    |false=>exact .ak w
   refine bK (KX B d.1 H (b.a.b s) ((g.a q).a s)) λk r r' K l=>?_;cases r with
   |none=>cases r' with
    |none=>
     refine bK (vr C elem) λS z Q L⟨e,I⟩=>?_;subst e;exact fin _ z z _ (I _)
    |some _=>trivial
   |some r=>cases r' with
    |none=>trivial
    |some r'=>
     have⟨i,v⟩:=r;have⟨M,v'⟩:=r';exact fin _ v _ _ l.2
  cases m with
  | @kM r r' l=>cases r with
   |none=>cases r' with
    |none=>exact rest _ _ _ (bF.b _) ⟨rfl,by grind⟩
    |some _=>trivial
   |some r=>cases r' with
    |none=>trivial
    |some r'=>
     refine .jF l λ o N G=>?_;cases G with
     |mw c b=>exact rest _ _ _ (bF.b _) b
     |_=>exact aN
  |_=>exact aN
 |_=>trivial
theorem OG(T:aW.n=P.globals.size){n t}(g:nq (lp P fs) P n t=true){x O y p z Q}(G:VR β x O)(j:VR β y p)(I:VR β z Q):RS F (lp P fs) P cW β (u1 t x y z) (u1 t O p Q):=by refine bK (kW t) λai u ah B⟨e,V⟩=>?_;subst e;unfold nq at g;rw[V]at g;cases u with
 |map key elem=>
  simp[eg]at g;have ab:∃f,P.underlying key=some (.struct f):=by cases m:P.underlying key with|none=>rw[m]at g;simp at g|some d=>rw[m]at g;cases d<;>simp at g;exact⟨_,rfl⟩
  have G:=G.a B;have j:=j.a B;have I:=I.a B;cases G with
  | @kM r r' L=>cases r with|none=>grind[E7]|some r=>cases r' with|none=>trivial|some r'=>refine .jF L λ o ag Y=>?_;cases Y with
     | @mw es S c W=>refine bc (s:=j1 false 10000 key y) (s':=j1 false 10000 key p) (zx 10000 _ key j) λad _ h=>?_;have aa:ad r r':=h _ _ L;have K:=W.c h;refine bK (KX T g.1 ab K.a (j.a h)) λR q q' l E=>?_;have M:R r r':=l _ _ aa;have D:=K.c l;have H:=(j.a h).a l;have N:=(I.a h).a l;cases q with
      |none=>cases q' with|none=>exact .mD M (.mw _ (D.g ⟨H,N,rfl⟩)) (.ak rfl)|some _=>exact E.elim
      |some q=>cases q' with|none=>exact E.elim|some q'=>
        have⟨i,v⟩:=q;have⟨af,v'⟩:=q';have⟨J,ac⟩:=E;simp at J ac;subst J;have Z:VR R (((es[i]?).map (·.key)).getD y) (((S[i]?).map (·.key)).getD p):=by
         rcases D.f i with⟨w,A⟩| ⟨a,b,w,A,U⟩
         rw[w,A];exact H;rw[w,A];exact U.1
        refine bK (YZ Z H) λaj k k' C m=>?_;exact .mD (C _ _ M) (.mw _ ((D.c C).d i λ e ae X=> ⟨m,N.a C,X.2.2⟩)) (.ak rfl)
     |_=>exact aN
  |_=>exact aN
 |_=>exact aN
end
end
section
variable[aW][ck][Gl]
section
variable{F:Nat->Bool}{P:ef}{fs:Array k4}{α α' γ γ':Type}{β:ah}
variable {x x':b2}
theorem aiW(t){x x'}(f:VR β x x'):RS F (lp P fs) P VR β (zt t x) (zt t x'):=by
 refine bc (ig t) λl d n=>?_;have f:=f.a n;have i:∀j o g,OR j false o g->RS F (lp P fs) P VR j (do eV (nb (some ⟨<-I0 o,0,none⟩))) (do eV (nb (some ⟨<-I0 g,0,none⟩))):=λj o g h=> .oq h λ r r' q _ b _=> .ak (.dc (a:=some _) (a':=some _) ⟨b,rfl,rfl⟩);cases d with
 |string=>cases f with
  |eI s=>exact i l _ _ (.tY s 0)|_=>exact aN
 |map k e=>cases f with
  | @kM r r' b=>cases r with
   |none=>cases r' with|none=>exact i _ _ _ (.rn 0 _ 0 (m:=none) (m':=none) trivial)|some _=>exact b.elim
   |some r=>cases r' with|none=>exact b.elim|some r'=>refine .jF b λ o g h=>?_;cases h with|mw c p=>exact i l _ _ (.rn c #[] c (m:=some r) (m':=some r') b)|_=>exact aN
  |_=>exact aN
 |_=>cases f<;>exact aN
theorem EA.e{es d us f}(h:EA β es d)(e:EA β us f):EA β (es++us) (d++f):=by
 refine⟨by simp[h.1,e.1],λ i v v' a b=>?_⟩;rw[kp]at a b;by_cases c:i<es.size
 rw[if_pos c]at a;rw[if_pos (h.1▸c)]at b;exact h.2 i v _ a b;rw[if_neg c]at a;rw[if_neg (h.1▸c),<-h.1]at b;exact e.2 _ v _ a b
theorem PU{es a}(h:EA β es a)(pre)(hp:∀x∈pre,x=none)(i:Nat):(pre++es.map some).size=(pre++a.map some).size/\(((pre++es.map some)[i]?=none/\(pre++a.map some)[i]?=none)\/((pre++es.map some)[i]?=some none/\(pre++a.map some)[i]?=some none)\/∃e b,(pre++es.map some)[i]?=some (some e)/\(pre++a.map some)[i]?=some (some b)/\ER β e b):=by
 refine⟨by simp[h.1],?_⟩;rw[kp,kp];by_cases c:i<pre.size
 grind[fv,r4]
 rw[if_neg c,if_neg c,hJ,hJ];rcases h.f (i- pre.size)with⟨d,f⟩| ⟨e,b,d,f,g⟩
 all_goals grind
theorem acB(t)(f)(M:VR β x x'):RS F (lp P fs) P VR β (z1 x f t) (z1 x' f t):=by have O:∀C,RS F (lp P fs) P VR C (eV (n4 #[.bool false])) (eV (n4 #[.bool false])):=λC=> .ak (VR.b (AV.c (.fY false)));cases M with
 | @dc a a' D=>cases a with|none=>exact aN|some a=>cases a' with|none=>trivial|some a'=>have⟨r,off,R⟩:=a;have⟨r',Q,S⟩:=a';have⟨i,y,B⟩:=D;simp at i y B;subst y B;cases off with|succ _=>exact aN|zero=>refine .jF i λ o N L=>?_;cases L with
     |tY s pos=>cases f with|false=>exact aN|true=>
       show RS F _ P _ _ (if pos<s.size then _ else _) (if pos<s.size then _ else _);split
       exact .mD i (.tY s _) (.ak (VR.b (((AV.c (.fY _)).h (.cx _ _)).h (.cx _ _))));grind
     | @rn m m' c b last w=>cases f with|true=>cases m<;>exact aN|false=>
       cases m with
       |none=>cases m' with
        |none=>exact O _
        |some _=>trivial
       |some m=>cases m' with
        |none=>trivial
        |some m'=>
         refine .jF w λ o N J=>?_;cases J with
         | @mw es d clock n=>
          have H:es.isEmpty=d.isEmpty:=by simp[p5,n.1]
          have E:es.all (λ e=>lk (e.born>=last))=d.all (λ e=>lk (e.born>=last)):=n.h λ e g h=>by rw[h.2.2]
          have u:EA β (es.filter λ e=>!b.contains e.born) (d.filter λ e=>!b.contains e.born):=n.b λ e g h=>by rw[h.2.2]
          have z:EA β ((es.filter λ e=>!b.contains e.born).filter λ e=>lk (e.born<c)) ((d.filter λ e=>!b.contains e.born).filter λ e=>lk (e.born<c)):=u.b λ e g h=>by rw[h.2.2]
          have I:EA β ((es.filter λ e=>!b.contains e.born).filter λ e=>lk (e.born>=c)) ((d.filter λ e=>!b.contains e.born).filter λ e=>lk (e.born>=c)):=u.b λ e g h=>by rw[h.2.2]
          have q:=z.e I;have K:((es.filter λ e=>!b.contains e.born).filter λ e=>lk (e.born<c)).isEmpty=((d.filter λ e=>!b.contains e.born).filter λ e=>lk (e.born<c)).isEmpty:=by simp only[p5,z.1]
          simp only[fz];rw[<-H,<-E,<-K];split
          exact tV λ v=> ⟨_,v,rfl,rfl,λ h=>h⟩;have A:∀x∈(if((es.filter λ e=>!b.contains e.born).filter λ e=>lk (e.born<c)).isEmpty then #[none]else(#[]:Array (Option ez))),x=none:=by
           simp
          have G:=(PU q _ A 0).1;rw[<-G];refine JK λ k=>?_;rcases(PU q _ A k).2 with⟨j,l⟩| ⟨j,l⟩| ⟨e,g,j,l,p⟩
          grind[aN]
          grind
          simp only[j,l];rw[p.2.2];exact .mD i (.rn _ _ _ (m:=some m) (m':=some _) w) (.ak (VR.b (((AV.c (.fY _)).h p.1).h p.2.1)))
         |_=>exact aN
     |_=>cases f<;>exact aN
 |_=>exact aN
theorem Zb(B:VR β x x'):RS F (lp P fs) P VR β (zs x) (zs x'):=by cases B with
 | @dc a a' t=>cases a with|none=>exact aN|some a=>cases a' with|none=>trivial|some a'=>have⟨r,off,H⟩:=a;have⟨r',E,I⟩:=a';have⟨p,n,q⟩:=t;simp at p n q;subst n q;cases off with|succ _=>exact aN|zero=>refine .jF p λ o D A=>?_;cases A with
     | @rn m m' G g s y=>cases m with|none=>exact aN|some m=>cases m' with|none=>trivial|some m'=>show RS F (lp P fs) P VR β (match g.back? with|some c=>_|_=>_) (match g.back? with|some c=>_|_=>_);cases g.back? with|none=>exact aN|some c=>refine .jF y λ o D z=>?_;cases z with
         | @mw es j clock u=>
          show RS F _ P _ _ (if clock !=s then _ else _) (if clock !=s then _ else _);split
          exact tV λ v=> ⟨_,v,rfl,rfl,λ h=>h⟩;have w:(es.find? (λ e=>e.born==c)=none/\j.find? (λ e=>e.born==c)=none)\/∃e d,es.find? (λ e=>e.born==c)=some e/\j.find? (λ e=>e.born==c)=some d/\ER β e d:=by
           rw[<-r1,<-r1];have key:∀{l l':List ez},EL β l l'->(l.find? (λ e=>e.born==c)=none/\l'.find? (λ e=>e.born==c)=none)\/∃e d,l.find? (λ e=>e.born==c)=some e/\l'.find? (λ e=>e.born==c)=some d/\ER β e d:=by
            intro l
            induction l with
            |nil=>intro l' h;cases l' with
             |nil=>simp
             |cons _ _=>trivial
            |cons a l C=>
             intro l' h;cases l' with
             |nil=>trivial
             |cons b l'=>
              simp only[List.find?_cons];rw[<-h.1.2.2];cases a.born==c with
              |true=>exact .inr ⟨a,b,rfl,rfl,h.1⟩
              |false=>exact C h.2
           exact key u.a
          rcases w with⟨f,i⟩| ⟨e,d,f,i,k⟩;simp only[f];exact db;simp only[f,i];exact .ak (VR.b ((AV.c k.1).h k.2.1))|_=>exact aN
     |_=>exact aN
 |_=>exact aN
theorem US(op)(c:VR β x x'):RS F (lp P fs) P VR β (Op.unary op x) (Op.unary op x'):=by cases c with
 |dc d=>rename_i a a';cases op<;>cases a<;>first|exact aN|exact db
 |fY b=>cases op<;>first|exact aN|exact .ak (.fY _)
 |cx k n=>cases op<;>first|exact aN|exact .ak (.cx _ _)
 |_=>cases op<;>exact aN
end
end
section
variable[aW][ck][Gl]
def qh(Q P:ef)(n:Nat)(op:p8)(t:eb):=match op with| .eql| .neq=>ik Q P n t&&!P.eqGuardType P.depth t&&!Q.eqGuardType Q.depth t|_=>match P.underlying t with|some (.int _)|some .string=>true|_=>false
section
variable{F:Nat->Bool}{P:ef}{fs:Array k4}{α α' γ γ':Type}{β:ah}
theorem Hu(t)(v):(gl t).run (lp P fs) v=match P.underlying t with|some d=> .ok d v|none=> .halt (.stuck "no such type") v:=by show(match P.underlying t with|some d=>eV d|none=>iA "no such type").run _ v=_;cases P.underlying t<;>rfl
theorem JA(d)(t)(y):∀v,∃z v2,(mn (d+1) t hF y).run (lp P fs) v= .halt z v2/\BH v v2 z:=by intro v;show∃z v2,(fz _ _).run _ v= .halt z _/\BH v _ z;rw[ru,Hu];cases P.underlying t with|none=>exact⟨_,_,rfl,rfl,id⟩|some u=>cases u<;>cases y<;>exact⟨_,_,rfl,rfl,id⟩
theorem KM(d)(t)(x)(c:∃n,ik (lp P fs) P n t=true):∀v,∃z v2,(mn (d+1) t x hF).run (lp P fs) v= .halt z v2/\BH v v2 z:=by intro v;show∃z v2,(fz (gl t) _).run (lp P fs) v= .halt z v2/\BH v _ z;rw[ru,Hu];have⟨n,b⟩:=c;cases n with|zero=>trivial|succ n=>unfold ik at b;cases e:P.underlying t with|none=>exact⟨_,_,rfl,rfl,id⟩|some u=>rw[e]at b;cases u<;>first| (simp at b;done)|skip;all_goals(cases x<;>first|exact⟨_,_,rfl,rfl,id⟩| (rename_i a;cases a<;>exact⟨_,_,rfl,rfl,id⟩)| (rename_i a _ _;cases a<;>exact⟨_,_,rfl,rfl,id⟩))
theorem af0(t):RS F (lp P fs) P cW β (n5 o5 t .nilIface .nilIface) (n5 o5 t .nilIface .nilIface):=by show RS F _ P _ _ (gl t>>=λ d=>_) (gl t>>=λ d=>_);refine bc (ig t) λb d a=>?_;cases d<;>exact .ak rfl
theorem ag7(op)(t)(e f)(g:P.eqGuardType P.depth t=false/\(lp P fs).eqGuardType (lp P fs).depth t=false){x i y j}(l:VR β x i)(c:VR β y j)(nx:x≠hF)(d:y≠hF):RS F (lp P fs) P cW β (o4 op t e f x y) (o4 op t e f i j):=by unfold o4;cases op<;>first|exact RS.ak (A:=cW) (a:=()) (a':=()) rfl|skip;all_goals
  cases l with
  |fy h=>exact absurd rfl nx|mj=>cases c with
   |fy h=>exact absurd rfl d|mj=>cases e<;>cases f<;>first|exact RS.ak (A:=cW) (a:=()) (a':=()) rfl| (
      refine bc (s:=n5 o5 t .nilIface .nilIface) (s':=n5 o5 t .nilIface .nilIface) (af0 t) λr b q=>?_;cases b with|true=>exact db|false=>exact .ak rfl)
   |jL h=>obtain⟨_,_,_,rfl⟩:=pT h;exact RS.ak (A:=cW) (a:=()) (a':=()) rfl|gW _ hp=>rcases pr hp with⟨_,rfl⟩| ⟨_,rfl⟩<;>exact RS.ak (A:=cW) (a:=()) (a':=()) rfl|_=>exact RS.ak (A:=cW) (a:=()) (a':=()) rfl
  |gU m n=>cases c with|fy h=>exact absurd rfl d|gU o p=>refine mc (mc ?_);simp[g.1,g.2,x6,if_true];exact .ak rfl|jL h=>obtain⟨_,_,_,rfl⟩:=pT h;exact RS.ak (A:=cW) (a:=()) (a':=()) rfl|gW _ hp=>rcases pr hp with⟨_,rfl⟩| ⟨_,rfl⟩<;>exact RS.ak (A:=cW) (a:=()) (a':=()) rfl|_=>exact RS.ak (A:=cW) (a:=()) (a':=()) rfl
  |jL k=>obtain⟨_,_,_,rfl⟩:=pT k;cases c<;>first|exact absurd rfl d|exact RS.ak (A:=cW) (a:=()) (a':=()) rfl| (rename_i h;have⟨_,_,_,rfl⟩:=pT h;exact RS.pure (A:=cW) (a:=()) (a':=()) rfl)| (rename_i hp;rcases pr hp with⟨_,rfl⟩| ⟨_,rfl⟩<;>exact RS.pure (A:=cW) (a:=()) (a':=()) rfl)
  |gW _ hp=>rcases pr hp with⟨_,rfl⟩| ⟨_,rfl⟩<;>cases c<;>first|exact absurd rfl d|exact RS.ak (A:=cW) (a:=()) (a':=()) rfl| (rename_i h;have⟨_,_,_,rfl⟩:=pT h;exact RS.pure (A:=cW) (a:=()) (a':=()) rfl)| (rename_i hp;rcases pr hp with⟨_,rfl⟩| ⟨_,rfl⟩<;>exact RS.pure (A:=cW) (a:=()) (a':=()) rfl)
  |_=>cases c<;>first|exact absurd rfl d|exact RS.ak (A:=cW) (a:=()) (a':=()) rfl| (rename_i h;have⟨_,_,_,rfl⟩:=pT h;exact RS.pure (A:=cW) (a:=()) (a':=()) rfl)| (rename_i hp;rcases pr hp with⟨_,rfl⟩| ⟨_,rfl⟩<;>exact RS.pure (A:=cW) (a:=()) (a':=()) rfl)
theorem adg(r:aW.n=P.globals.size){n}(op)(p:op= .eql\/op= .neq)(t)(q:ik (lp P fs) P n t=true){x l y m}(o:VR β x l)(i:VR β y m):RS F (lp P fs) P VR β (n3 op t x y) (n3 op t l m):=by
 have e:RS F (lp P fs) P cW β (n9 t x y) (n9 t l m):=NU r _ n t q o i;have c:RS F (lp P fs) P VR β (do eV (.bool (<-n9 t x y))) (do eV (.bool (<-n9 t l m))):=bc e λ _ b _=> .ak (.fY b);have d:RS F (lp P fs) P VR β (do eV (.bool (!(<-n9 t x y)))) (do eV (.bool (!(<-n9 t l m)))):=bc e λ _ b _=> .ak (.fY _);by_cases j:y=hF
 subst j;have s:=KM (P:=P) (fs:=fs) 9999 t x ⟨n,q⟩;refine .gp λ v=>?_;obtain⟨z,v2,f,g⟩:=s v;refine⟨z,_,?_,g⟩;rcases p with rfl|rfl<;>cases x<;>exact ql (α:=Bool) _ _ f;obtain rfl|rfl:=p
 cases o with
 |cx k a=>cases i<;>first|exact absurd rfl j|exact HQ _ _ _ _ _ _|exact c| (rename_i h;obtain⟨_,_,_,rfl⟩:=pT h;exact c)| (rename_i hp;rcases pr hp with⟨_,rfl⟩| ⟨_,rfl⟩<;>exact c)
 |eI a=>cases i<;>first|exact absurd rfl j|exact G4 _ _ _ _|exact c| (rename_i h;obtain⟨_,_,_,rfl⟩:=pT h;exact c)| (rename_i hp;rcases pr hp with⟨_,rfl⟩| ⟨_,rfl⟩<;>exact c)
 |fy h=>exact .gp λ v=>(by
  obtain⟨z,v2,f,g⟩:=JA (P:=P) (fs:=fs) 9999 t y v;exact⟨z,_,ql (α:=Bool) _ _ f,g⟩)
 |jL h=>obtain⟨_,_,_,rfl⟩:=pT h;trivial
 |gW _ hp=>rcases pr hp with⟨_,rfl⟩| ⟨_,rfl⟩<;>exact c
 |_=>trivial
 cases o with
 |cx k a=>cases i<;>first|exact absurd rfl j|exact HQ _ _ _ _ _ _|exact d| (rename_i h;obtain⟨_,_,_,rfl⟩:=pT h;exact d)| (rename_i hp;rcases pr hp with⟨_,rfl⟩| ⟨_,rfl⟩<;>exact d)
 |eI a=>cases i<;>first|exact absurd rfl j|exact G4 _ _ _ _|exact d| (rename_i h;obtain⟨_,_,_,rfl⟩:=pT h;exact d)| (rename_i hp;rcases pr hp with⟨_,rfl⟩| ⟨_,rfl⟩<;>exact d)
 |fy h=>exact .gp λ v=>(by
  obtain⟨z,v2,f,g⟩:=JA (P:=P) (fs:=fs) 9999 t y v;exact⟨z,_,ql (α:=Bool) _ _ f,g⟩)
 |jL h=>obtain⟨_,_,_,rfl⟩:=pT h;trivial
 |gW _ hp=>rcases pr hp with⟨_,rfl⟩| ⟨_,rfl⟩<;>exact d
 |_=>trivial
theorem adn(D:aW.n=P.globals.size)(op)(B:op≠ .eql)(C:op≠ .neq)(t)(N:(∃k,P.underlying t=some (.int k))\/P.underlying t=some .string){x H y I}(O:VR β x H)(A:VR β y I):
 RS F (lp P fs) P VR β (n3 op t x y) (n3 op t H I):=by
 have E:∀{u o:b2}(k:lH)(n:Int),VR β u o->(∃a,u= .pointer a)->RS F (lp P fs) P VR β (ma t u (.int k n)) (ma t o (.int k n)):=λ k n r j=>Fx t r j k n;have K:∀{u o:b2}(k:lH)(n:Int),VR β u o->(∃a,u= .pointer a)->
  RS F (lp P fs) P VR β (do if(<-gl t) matches .unsafePointer then movedPointer t u (.int k n)else ma t u (.int k n)) (do if(<-gl t) matches .unsafePointer then movedPointer t o (.int k n)else ma t o (.int k n)):=by
  intro u o k n r j;refine bK (kW t) λg d Q i⟨e,w⟩=>?_;subst e;obtain⟨k0,h⟩|h:=N
  rw[h]at w;cases w;exact Fx t (r.a i) j k n;rw[h]at w;cases w;exact Fx t (r.a i) j k n
 cases O with
 |cx k a=>
  cases A with
  |cx k' b=>grind[HQ]
  | @dc b l m=>
   have hp:VR β (.pointer b) (.pointer l):= .dc m;cases op
   case add=>exact E k a hp ⟨b,rfl⟩
   case eql=>trivial
   case neq=>trivial
   case and=>
    cases b with
    |none=>exact db
    |some b=>cases l with
     |none=>trivial
     |some l=>
      refine bK (sn m) λg p q i⟨hp,_⟩=>?_
      grind[HT]
   all_goals exact db
  |_=>cases op<;>first|exact absurd rfl B|exact absurd rfl C|exact aN
 | @dc a a' j=>
  have hp:VR β (.pointer a) (.pointer a'):= .dc j;have G:∀{b l:hM}{c c':hM},AR β b l->AR β c c'->∀(f:hM->hM->hq b2),(∀g p q u v,AR g p q->AR g u v->RS F (lp P fs) P VR g (f p u) (f q v))->
   RS F (lp P fs) P VR β (do f (<-hZ b).1 (<-hZ c).1) (do f (<-hZ l).1 (<-hZ c').1):=by
   intro b l c c' m L f M;refine bK (sn m) λg p q i⟨hp,_⟩=>?_;refine bK (sn (L.a i)) λJ u v s⟨r,_⟩=>?_;exact M _ _ _ _ _ (hp.a s) r
  have sub:∀g p q u v,AR g p q->AR g u v->RS F (lp P fs) P VR g (K6 .u64 p u) (K6 .u64 q v):=λg p q u v i s=>
   bc (Ky D i s) λJ z _=> .ak (.cx _ _)
  have cmp:∀op g p q u v,AR g p q->AR g u v->RS F (lp P fs) P VR g (K5 op p u) (K5 op q v):=λ op g p q u v i s=>
   bc (Ky D i s) λJ z _=>by
    cases op<;>first|exact .ak (.fY _)|exact db
  cases A with
  |cx k b=>
   cases op
   case add=>exact K k b hp ⟨a,rfl⟩
   case sub=>exact E k _ hp ⟨a,rfl⟩
   case eql=>trivial
   case neq=>trivial
   case rem=>
    cases a with
    |none=>exact db
    |some a=>cases a' with
     |none=>trivial
     |some a'=>exact bK (sn j) λg p q i⟨hp,_⟩=>HT hp _ _
   case and=>
    cases a with
    |none=>exact db
    |some a=>cases a' with
     |none=>trivial
     |some a'=>exact bK (sn j) λg p q i⟨hp,_⟩=>HT hp _ _
   all_goals(cases a<;>first|exact db|exact aN)
  | @dc b l m=>
   cases op
   case eql=>trivial
   case neq=>trivial
   all_goals
    cases a with
    |none=>cases b<;>first|exact db|exact aN
    |some a=>cases a' with
     |none=>exact j.elim
     |some a'=>cases b with
      |none=>exact db
      |some b=>cases l with
       |none=>exact m.elim
       |some l=>first
        |exact db
        |exact G j m _ sub
        |exact G j m _ (cmp _)
  |_=>cases op<;>first|exact absurd rfl B|exact absurd rfl C|exact db| (cases a<;>exact db)
 |eI a=>
  cases A with
  |eI b=>grind[G4]
  |_=>cases op<;>first|exact absurd rfl B|exact absurd rfl C|exact aN|exact db
 |_=>cases A<;>cases op<;>first|exact absurd rfl B|exact absurd rfl C|exact aN|exact db
end
end
section
variable[aW][ck][Gl]
section
variable{F:Nat->Bool}{P:ef}{fs:Array k4}{α α' γ γ':Type}{β:ah}
theorem acC(op)(c:op≠ .eql)(d:op≠ .neq)(t)(a b)(x y):o4 op t a b x y=eV ():=by simp_all[o4,absurd]
theorem Vc(m:aW.n=P.globals.size){n}(op)(t)(k l)(o:qh (lp P fs) P n op t=true){x f y g}(h:VR β x f)(i:VR β y g):RS F (lp P fs) P VR β (do o4 op t k l x y;n3 op t x y) (do o4 op t k l f g;n3 op t f g):=by
 by_cases d:op= .eql\/op= .neq
 have e:ik (lp P fs) P n t=true/\P.eqGuardType P.depth t=false/\(lp P fs).eqGuardType (lp P fs).depth t=false:=by
  grind[qh]
 by_cases nx:x=hF;subst nx;have c:=JA (P:=P) (fs:=fs) 9999 t y;refine .gp λ v=>?_;obtain⟨z,v2,a,b⟩:=c v;refine⟨z,_,?_,b⟩;rcases d with rfl|rfl<;>exact ql (α:=Bool) _ _ a
 by_cases j:y=hF;subst j;have c:=KM (P:=P) (fs:=fs) 9999 t x ⟨n,e.1⟩;refine .gp λ v=>?_;obtain⟨z,v2,a,b⟩:=c v;refine⟨z,_,?_,b⟩;rcases d with rfl|rfl<;>cases x<;>exact ql (α:=Bool) _ _ a
 exact bc (ag7 _ t _ _ e.2 h i nx j) λp _ a=>adg m _ d t e.1 (h.a a) (i.a a);grind[acC,adn,absurd,qh]
def yH(P:ef)(s d:eb):Bool:=match P.underlying s,P.underlying d with
 |some (.int _),some (.int _)=>true|some .string,some (.slice e)=>match P.underlying e with|some (.int .u8)=>true|_=>false
 |some (.slice e),some .string=>match P.underlying e with|some (.int .u8)=>true|_=>false
 |_,_=>false
theorem YJ(e)(s):RS F (lp P fs) P VR β (r8 e s) (r8 e s):=by refine JK λ cap=>?_;refine bK (yW e (AV.b (AV.j _ λ b _=> .cx _ _) (AV.f _ (.cx _ _)))) λh a a' g⟨c,f⟩=>?_;refine bc (s:=K7 a) (s':=K7 _) ?_ λi _ d=> .ak (.dz (a:=some a) (a':=some _) (c.a d) _ _);refine .nt c.1 λ q=>?_;cases q with|none=>exact .ak rfl|some q=>exact .vH ⟨c.1,rfl,rfl⟩ f (.ak rfl)
theorem Th{d A f f'}:∀{l l':List b2}(β:ah),LV β l l'->(∀c x b s s',bF β c->VR c x b->A c s s'->RS F (lp P fs) P (Ni A) c (f x s) (f' b s'))->∀(s s':d),A β s s'->RS F (lp P fs) P A β (F0 l s f) (F0 l' s' f')
 | [],[],β,_,_,s,s',h=>by exact .ak h|x::l,b::l',β,hl,hf,s,s',h=>by simp[o0];refine bK (hf β x b s s' (bF.b _) hl.1 h) λc a a' g e=>?_;cases a<;>cases a'<;>first|exact e.elim|exact .ak e|exact Th c (hl.2.b g) (λj x b s s' i=>hf j x b s s' (g.a i)) _ _ e
 | [],_::_,_,h,_,_,_,_=>h.elim|_::_,[],_,h,_,_,_,_=>h.elim
theorem agF{x b}(h:VR β x b):RS F (lp P fs) P VR β (lb x) (lb b):=by cases h with
 | @dz a a' d n c=>cases a with
  |none=>cases a' with|none=>exact .ak (.eI _)|some _=>trivial
  |some a=>cases a' with|none=>trivial|some a'=>
    refine bK (J5 n d) λp cs cs' j f=>?_;simp;rw[<-hD,<-hD];refine bK (Th (A:=cW) _ f.g ?_ _ _ rfl) λi s s' l e=>by cases e;exact .ak (.eI _)
    intro i u o s s' _ g e;cases e;cases g with
    |cx k m=>cases k<;>first|exact aN|exact .ak rfl
    |_=>exact aN
 |_=>exact aN
theorem ags(s d)(f:yH P s d=true){x j}(g:VR β x j):RS F (lp P fs) P VR β (convert s d x) (convert s d j):=by refine bK (kW s) λD u C o⟨e,t⟩=>?_;subst e;refine bK (kW d) λA w w' p⟨e,y⟩=>?_;subst e;unfold yH at f;rw[t,y]at f;have g:=(g.a o).a p;cases u with
 |int k0=>cases w with
  |int k1=>cases g with
   |cx k m=>exact .ak (.cx _ _)| @dc a a' r=>cases a<;>first|exact db|exact aN
   |_=>first|exact db|exact aN
  |_=>trivial
 |string=>cases w with
  |slice e=>cases g with
   |eI b=>
    refine bK (kW e) λB q q' l⟨eq,i⟩=>?_
    grind[YJ]
   | @dz a a' r n c=>cases a<;>first|exact db|exact aN
   |_=>first|exact db|exact aN
  |_=>trivial
 |slice e=>cases w with
  |string=>
   have body:RS F (lp P fs) P VR A (do match<-gl e with
    | .int .u8=>lb x
    | .int .i32=>r5 x
    |_=>iA "Convert: a slice of what to string?") (do match<-gl e with
    | .int .u8=>lb j
    | .int .i32=>r5 j
    |_=>iA "Convert: a slice of what to string?"):=by
    refine bK (kW e) λB q q' l⟨eq,i⟩=>?_;subst eq;simp[i]at f;cases q with
    |int k=>cases k<;>first| (simp at f;done)|exact agF (g.a l)
    |_=>trivial
   cases g with
   |cx k m=>exact .ak (.eI _)
   |eI b=>exact .ak (.eI _)
   |fy h=>
    refine .gp λ v=>?_;show∃z v2,(fz _ _).run _ v= .halt z _/\BH v v2 z;rw[ru,Hu];simp at f;cases i:P.underlying e with
    |none=>exact⟨_,_,rfl,rfl,id⟩
    |some q=>
     rw[i]at f;cases q with
     |int k=>cases k<;>first| (simp at f;done)|exact⟨_,_,rfl,rfl,id⟩
     |_=>simp at f
   |jL h=>obtain⟨_,_,_,rfl⟩:=pT h;exact body
   |gW _ hp=>rcases pr hp with⟨_,rfl⟩| ⟨_,rfl⟩<;>exact body
   |_=>exact body
  |_=>simp at f
 |_=>simp at f
end
end
section
variable[aW][ck][Gl]
variable {l l':Nat} {xs ys:Array b2}
def pq(P:ef)(fs:Array k4)(nx:hy->Bool)(f:hy):=∃a fn,fs[f]?=some a/\a.body.isNone=false/\P.funcs[f]?=some fn/\fn.body.isNone=false/\(nx f=true\/fn=a)
def XR(E:hy->Prop)(β:ah):s5->s5->Prop| .value v,.value v'=>VR β v v'| .skip,.skip=>True| .enter f args,.enter f' c=>f=f'/\AV β args c/\E f/\(ck.a f=true->args.size=ck.b)| .round l f t a b,.round l' f' t' a' d=>β l l'/\f=f'/\AV β t t'/\a=a'/\b=d/\aW.c a=true/\aW.c b=true|_,_=>False
def wa(P:ef)(fs:Array k4)(f:hy):=∀F E β xs ys,AV β xs ys->RS F (lp P fs) P (XR E) β (q4 f xs) (q4 f ys)
def sO(P:ef)(fs:Array k4)(nx:hy->Bool):=∀f a,fs[f]?=some a->(a.name== "runtime.NumGoroutine")=false/\((a.body.isNone=true/\((∀args v,∃x v2,(q4 f args).run (lp P fs) v= .halt x v2/\BH v v2 x)\/wa P fs f))\/(a.body.isNone=false/\∃fn,P.funcs[f]?=some fn/\(fn.name== "runtime.NumGoroutine")=false/\fn.body.isNone=false/\(nx f=true\/fn=a)))
section
variable{F:Nat->Bool}{P:ef}{fs:Array k4}{α α' γ γ':Type}{β:ah}
theorem R4{nx}(m:sO P fs nx)(f)(h:AV β xs ys)(n:ck.a f=true->xs.size=ck.b):RS F (lp P fs) P (XR (pq P fs nx)) β (q4 f xs) (q4 f ys):=by cases b:fs[f]? with
 |none=>refine .gp λ v=> ⟨.stuck "call: no such function",v,?_,rfl,λ h=>h⟩;show(match fs[f]? with|none=>_|some _=>_:hq _).run _ v=_;simp_all|some g=>
  have⟨k,l⟩:=m f g b;obtain⟨_,a|a⟩| ⟨e,fn,c,i,d,j⟩:=l
  exact .gp (a _);exact a _ _ _ _ _ h;refine mc ?_;show RS F _ P _ _ (match fs[f]? with|none=>_|some _=>_) (match P.funcs[f]? with|none=>_|some _=>_);rw[b,c];simp only[k,i,e,d,fl,if_false];exact .ak ⟨rfl,h,⟨_,_,b,e,c,d,j⟩,n⟩
theorem zX(h:β l l'):RS F (lp P fs) P (λβ x y=>LR β x y) β (nf l) (nf l'):=by refine .jF h λ o b a=>?_;cases a with|rh x=>exact .ak x|_=>exact aN
theorem U6{d:Array Tmp}{us vs}(h:AV β xs ys)(e:AV β us vs):AV β ((d.zip us).foldl (λ c(p:Tmp×b2)=>c.setIfInBounds p.1 p.2) xs) ((d.zip vs).foldl (λ c(p:Tmp×b2)=>c.setIfInBounds p.1 p.2) ys):=by
 rw[<-k6,<-k6,s6,s6];have b:=e.g;generalize us.toList=l at b;generalize vs.toList=m at b;generalize d.toList=t
 induction t generalizing l m xs ys with|nil=>trivial|cons a t f=>cases l with
  |nil=>cases m with|nil=>trivial|cons _ _=>trivial
  |cons x l=>cases m with|nil=>trivial|cons y m=>exact f (h.l a b.1) _ _ b.2
theorem aib{E}(h:β l l')(b:AV β xs ys):RS F (lp P fs) P (XR E) β (zY l xs) (zY l' ys):=by
 refine bK (zX h) λq r r' a k=>?_;have⟨m,o,d,e,f,g,i,p,j,c,n⟩:=k;rw[<-f,<-d,<-g,<-i,<-b.1];split
 exact tC;exact .ak ⟨a _ _ h,rfl,U6 e (b.a a),rfl,rfl,j,c⟩
theorem afa(fn){j k}(h:AV β j k)(ps)(a b){o g}(v:NO β o g)(p:aW.c a=true)(q:aW.c b=true):RS F (lp P fs) P (λβ x y=>β x.1 y.1/\DL β x.2 y.2/\∀d∈x.2,∃r,d.target= .collected r) β (eo fn j ps a b o) (eo fn k ps a b g):=by
 have fin:∀c d i m m',bF β c->c d i->DL c m m'->(∀d∈m,∃r,d.target= .collected r)->RS F (lp P fs) P (λβ x y=>β x.1 y.1/\DL β x.2 y.2/\∀d∈x.2,∃r,d.target= .collected r) c (do eV (<-I0 (.loop {state:= .ready,pending:=none,fn,tmps:=j,params:=ps,assign:=a,body:=b,defers:=d}),m)) (do eV (<-I0 (.loop {state:= .ready,pending:=none,fn,tmps:=k,params:=ps,assign:=a,body:=b,defers:=i}),m')):=by intro c d i m m' f t u s;exact .oq (.rh ⟨rfl,rfl,rfl,h.a f,rfl,rfl,rfl,t,p,q,by grind⟩) λ r r' w n e _=> .ak ⟨e,u.a n,s⟩
 cases o with
 |none=>cases g with|some _=>trivial|none=>refine .oq .xc λ r r' c f e _=>?_;exact fin _ r _ _ _ f e ⟨⟨e,AV.e _⟩,trivial⟩ (by simp)
 |some l=>cases g with|none=>trivial|some l'=>refine bK (zX v) λc r r' f e=>?_;exact fin _ _ _ _ _ f e.a trivial (by simp)
theorem XL(h:β l l'):RS F (lp P fs) P cW β (l1 l) (l1 l'):=by refine bK (zX h) λp r r' n o=>?_;have⟨a,d,e,f,g,i,j,k,m,b,c⟩:=o;refine .mD (n _ _ h) (.rh ⟨rfl,d,e,f,g,i,j,k,m,b,c⟩) ?_;rw[<-a];cases r.state<;>first|exact .ak rfl|exact .gp (λ v=>nE (P:=P) (fs:=fs) (.error _) v)
theorem agI(h:β l l')(j)(n:∀c,j=some c->aW.c c=true):RS F (lp P fs) P VR β (o6 l j) (o6 l' j):=by refine bK (zX h) λt r r' m o=>?_;have⟨p,s,b,d,e,f,g,i,k,a,q⟩:=o;exact .mD (m _ _ h) (.rh ⟨rfl,rfl,b,d,e,f,g,i,k,a,n⟩) (.ak (.fY _))
theorem afj(h:β l l'):RS F (lp P fs) P (λ _ x y=>x=y/\∀c,x=some c->aW.c c=true) β (x8 l) (x8 l'):=by
 refine bK (zX h) λq r r' o p=>?_;have⟨b,e,f,g,i,j,k,m,n,d,a⟩:=p;rw[<-b,<-e];split
 grind[yb]
 exact .mD (o _ _ h) (.rh ⟨rfl,rfl,f,g,i,j,k,m,n,d,a⟩) (.ak ⟨rfl,a⟩)
theorem adb(h:β l l'):RS F (lp P fs) P (λ _ x y=>x= []/\y= []) β (ih l) (ih l'):=by refine .jF h λ o b a=>?_;cases a with|xc=>exact .mD h .yE (.ak ⟨rfl,rfl⟩)|_=>exact aN
end
end
section
variable[aW][ck][Gl]
variable {ρ ρ':gw->b2} {E:hy->Prop}
def lX:Nat->b2->Bool|_,.bool _|_,.int _ _|_,.string _|_,.nilFunc|_,.nilIface|_,.pointer none|_,.slice none _ _|_,.map none|_,.chan none=>true|n+1,.agg cs=>cs.toList.all λ c=>lX n c|n+1,.tuple cs=>cs.toList.all λ c=>lX n c|_,_=>false
theorem adG:∀n v,lX n v=true->fB v:=by
 intro n
 induction n with
 |zero=>intro v h β;cases v with
  |bool b=>exact .fY b|int k a=>exact .cx k a|string s=>exact .eI s|nilFunc=>exact .nG|nilIface=>exact .mj|pointer a=>cases a<;>first|exact .dc (a:=none) (a':=none) trivial|simp[lX]at h
  |slice a l c=>cases a<;>first|exact .dz (a:=none) (a':=none) trivial _ _|simp[lX]at h
  |map a=>cases a<;>first|exact .kM (r:=none) (r':=none) trivial|simp[lX]at h
  |chan a=>cases a<;>first|exact .me|simp[lX]at h
  |_=>trivial
 |succ n d=>intro v h β;cases v with
  |bool b=>exact .fY b|int k a=>exact .cx k a|string s=>exact .eI s|nilFunc=>exact .nG|nilIface=>exact .mj|pointer a=>cases a<;>first|exact .dc (a:=none) (a':=none) trivial|simp[lX]at h
  |slice a l c=>cases a<;>first|exact .dz (a:=none) (a':=none) trivial _ _|simp[lX]at h
  |map a=>cases a<;>first|exact .kM (r:=none) (r':=none) trivial|simp[lX]at h
  |chan a=>cases a<;>first|exact .me|simp[lX]at h
  |agg cs=>simp only[lX,hU]at h;exact VR.d (AV.i λ c e=>d c (by grind) _)|tuple cs=>simp only[lX,hU]at h;exact VR.b (AV.i λ c e=>d c (by grind) _)|_=>trivial
def dq:gw->Bool| .tmp _=>true| .func f=>!ck.a f| .const v=>lX 8 v| .global g=>Gl.a g
def jj(β:ah)(ρ ρ':gw->b2):=∀o,dq o=true->VR β (ρ o) (ρ' o)
theorem jj.e{β a}(h:bF β a)(x:jj β ρ ρ'):jj a ρ ρ':=λ o b=>(x o b).a h
theorem jj.c{β}{fr fr':ei}(h:AV β fr.tmps fr'.tmps):jj β fr.eval fr'.eval:=by intro o b;cases o with|tmp t=>exact h.k t (VR.c _)|const v=>exact adG 8 v b _|global g=>exact .dc (a:=some _) (a':=some _) ⟨β.c g b,rfl,rfl⟩|func f=>exact VR.f ⟨rfl,by grind[dq]⟩ (AV.e _) (AV.e _)
section
variable{F:Nat->Bool}{P:ef}{fs:Array k4}{α α' γ γ':Type}{β:ah}
theorem jj.a(h:jj β ρ ρ'){xs:Array gw}(c:xs.all dq=true):AV β (xs.map ρ) (xs.map ρ'):=AV.j _ λ a b=>h a (by grind[gf])
theorem jj.d(h:jj β ρ ρ'){x:Option gw}(a:x.all dq=true):VO β (x.map ρ) (x.map ρ'):=by cases x with|none=>trivial|some o=>exact h o (by grind)
theorem jj.b(h:jj β ρ ρ'){ps:Array (Nat×gw)}(e:ps.all (λ p=>dq p.2)=true):PV β (ps.map λ(i,x)=>(i,ρ x)) (ps.map λ(i,x)=>(i,ρ' x)):=by refine⟨by simp,λ i x f c b=>?_⟩;rw[hJ]at c b;obtain⟨a,d,rfl⟩:=eH.1 c;rw[d]at b;simp at b;subst b;rw[gf]at e;exact⟨rfl,h _ (by grind)⟩
theorem fO{s s'}(h:RS F (lp P fs) P VR β s s'):RS F (lp P fs) P (XR E) β (do eV (.value (<-s))) (do eV (.value (<-s'))):=bK h λ _ _ _ _ a=> .ak a
theorem CL{s s'}(h:RS F (lp P fs) P cW β s s'):RS F (lp P fs) P (XR E) β (do s;eV .skip) (do s';eV .skip):=bc h λ _ _ _=> .ak trivial
theorem V8{E x j}(h:VR β x j)(o)(a)(r:o.op= .nilCheck a){ρ ρ'}(e:ρ a=x)(m:ρ' a=j):RS F (lp P fs) P (XR E) β (kH ρ o) (kH ρ' o):=by unfold kH;rw[r];simp[e,m];cases h with
 |dc i=>rename_i a a';cases a<;>cases a'<;>first|exact i.elim|exact .gp (nE .nilDeref)|exact .ak (.dc i)
 |mj=>exact .gp (nE _)|nG=>exact .gp (nE _)|jL w=>exact .gp (nE _)| @sg f f' xs ys us vs l d g p q=>cases f<;>cases f'<;>first|exact l.elim|exact .ak (.sg l d g p q)
 |fY b=>exact .ak (.fY b)|cx k n=>exact .ak (.cx k n)|eI s=>exact .ak (.eI s)|dz i n c=>exact .ak (.dz i n c)|kM u=>exact .ak (.kM u)|me=>exact .ak .me|gW h hp=>cases j with
  |pointer a=>cases a with|none=>simp[rq]at hp|some a=>exact .ak (.gW h hp)
  |chan a=>exact .ak (.gW h hp)|_=>simp[rq]at hp
 |qM t v=>exact .ak (.qM t v)|gU d g=>exact .ak (.gU d g)|nA d g=>exact .ak (.nA d g)|fy hp=>cases j with
  |pointer a=>cases a<;>first| (simp[od]at hp;done)|exact .ak (.fy rfl)
  |func f a b=>cases f<;>first| (simp[od,p9]at hp;done)|exact .ak (.fy rfl)
  |_=>first| (simp[od]at hp;done)|exact .ak (.fy rfl)
end
end
section
variable[aW][ck][Gl]
section
variable{F:Nat->Bool}{P:ef}{fs:Array k4}{α α' γ γ':Type}{β:ah}
variable {nx:hy->Bool} {ρ ρ':gw->b2}
theorem RU{nx}(n:sO P fs nx){x c}(q:VR β x c){xs ys}(h:AV β xs ys):RS F (lp P fs) P (XR (pq P fs nx)) β (do let d<-hP x xs;q5 d.target d.args) (do let d<-hP c ys;q5 d.target d.args):=by cases q with
 | @sg f f' us vs r s a i j k m=>have b:AV β us vs:= ⟨i,j⟩;have p:AV β r s:= ⟨k,m⟩;cases f with
  |func g=>cases f' with|func g'=>obtain⟨e,o⟩:g=g'/\ck.a g=false:=a;subst e;exact R4 n g ((b.b h).b p) λ h=>by rw[o]at h;cases h|_=>trivial
  |yield l=>cases f' with|yield l'=>exact aib a (b.b h)|_=>trivial
  |_=>trivial
 |nG=>exact .gp (nE .nilDeref)|jL h=>exact .gp (nE .nilDeref)|_=>exact tC
theorem Kb(c:sO P fs nx)(o)(f)(args)(a)(e:o.op= .call {callee:= .value f,args,argTypes:=a})(d:dq f=true)(b:args.all dq=true) (h:jj β ρ ρ'):RS F (lp P fs) P (XR (pq P fs nx)) β (kH ρ o) (kH ρ' o):=by unfold kH;rw[e];exact RU c (h f d) (h.a b)
theorem ahQ(c:sO P fs nx)(o)(f)(args)(a)(e:o.op= .call {callee:= .value (.func f),args,argTypes:=a})(g:args.size=ck.b)(b:args.all dq=true) (h:jj β ρ ρ') (h1:ρ (.func f)= .func (.func f) #[] #[]) (h2:ρ' (.func f)= .func (.func f) #[] #[]):RS F (lp P fs) P (XR (pq P fs nx)) β (kH ρ o) (kH ρ' o):=by unfold kH;rw[e];show RS F _ P _ _ (do let d<-hP _ (args.map _);q5 _ _) (do let d<-hP _ (args.map _);q5 _ _);rw[h1,h2];exact R4 c f (((AV.e _).b (h.a b)).b (AV.e _)) (by grind)
theorem adF{x d y e}(h:VR β x d)(c:VR β y e):RS F (lp P fs) P VR β (nv x y) (nv d e):=by cases h with
 |cx k a=>cases c with
  |cx k' b=>exact .ak (.cx _ _)|dc g=>rename_i b f;cases b<;>first|exact db|exact aN
  |_=>exact aN
 |eI a=>cases c with
  |eI b=>exact RS.ak (A:=VR) (.eI _)|dc g=>rename_i b f;cases b<;>first|exact db|exact aN
  |_=>exact aN
 |dc i=>rename_i a a';cases a<;>cases c<;>first|exact db|exact aN| (rename_i b _ _;cases b<;>first|exact db|exact aN)
 |_=>cases c<;>first|exact aN|exact db| (rename_i b _ _;cases b<;>first|exact db|exact aN)
theorem SD:∀{l m:List b2}{β:ah}{x d:b2},VR β x d->LV β l m->RS F (lp P fs) P VR β (l.foldlM nv x) (m.foldlM nv d)| [],[],_,_,_,c,_=>by exact .ak c|a::l,b::m,_,_,_,c,h=>by exact bK (adF c h.1) λi u g e f=>SD f (h.2.b e)| [],_::_,_,_,_,_,h=>h.elim|_::_,[],_,_,_,_,h=>h.elim
theorem ac6(d)(t){xs ys}(h:AV β xs ys):RS F (lp P fs) P VR β (p6 d t xs) (p6 d t ys):=by unfold p6;have c:=h.g;generalize xs.toList=l at c;generalize ys.toList=m at c;cases l with|nil=>grind[aN]|cons a l=>cases m with|nil=>trivial|cons b m=>exact SD c.1 c.2
def xv(P:ef)(b:Builtin)(a:Array eb):=match b with
 | .len| .cap| .copy| .min=>true| .append=>match a[1]? with
  |some u=>match P.underlying u with|some (.slice _)|some .string=>true|_=>false
  |none=>false
 |_=>false
theorem aiA{E}(d:nC P)(o)(b)(args)(c)(g:o.op= .call {callee:= .builtin b,args,argTypes:=c})(f:xv P b c=true)(e:args.all dq=true) (h:jj β ρ ρ'):RS F (lp P fs) P (XR E) β (kH ρ o) (kH ρ' o):=by
 unfold kH;rw[g];have a:=h.a e;cases b<;>first| (simp[xv]at f;done)|skip
 case append=>refine fO (VC d c _ ?_ a);grind[xv]
 case cap=>exact fO (afI _ _ a)
 case copy=>exact fO (adB _ _ a)
 case len=>exact fO (abc _ _ a)
 case min=>exact fO (ac6 _ _ a)
end
end
section
variable[aW][ck][Gl]
def dV(Q P:ef)(n:Nat):Op->Bool| .move x| .assign x| .box _ x| .load _ x| .nilCheck x| .unOp _ _ x| .makeInterface _ x| .fieldAddr _ x _| .field _ x _| .range _ x| .next x _| .entry x| .extract x _=>dq x| .pick c a b=>dq c&&dq a&&dq b| .alloc _=>true| .build _ ps| .buildSlice _ _ ps=>ps.all λ p=>dq p.2| .store _ a x| .makeSlice _ a x| .indexAddr _ a x| .index _ a x=>dq a&&dq x| .binOp op t x y _=>dq x&&dq y&&qh Q P n op t| .convert s d x=>dq x&&yH P s d| .makeFunc (.func g) first e=>!ck.a g&&first.all dq&&e.all dq| .makeMap _ none=>true| .slice _ x lo h j=>dq x&&lo.all dq&&h.all dq&&j.all dq| .lookup t x i _=>dq x&&dq i&&nq Q P n t| .mapUpdate t m k x| .insert t m k x=>dq m&&dq k&&dq x&&nq Q P n t| .call {callee:= .value (.func f),args,.. }=>(!ck.a f||Nat.beq args.size ck.b)&&args.all dq| .call {callee:= .value f,args,.. }=>dq f&&args.all dq| .call {callee:= .builtin b,args,argTypes}=>xv P b argTypes&&args.all dq|_=>false
section
variable{F:Nat->Bool}{P:ef}{fs:Array k4}{α α' γ γ':Type}{β:ah}
theorem Xg(l:nC P)(j:aW.n=P.globals.size){nx n}(w:sO P fs nx)(o)(e:dV (lp P fs) P n o.op=true){ρ ρ'}(h:jj β ρ ρ')(A:∀f,ρ (.func f)= .func (.func f) #[] #[])(B:∀f,ρ' (.func f)= .func (.func f) #[] #[]):RS F (lp P fs) P (XR (pq P fs nx)) β (kH ρ o) (kH ρ' o):=by
 generalize q:o.op=op at e;cases op;case nilCheck x=>exact V8 (h x e) o x q rfl rfl
 case call c=>
  have⟨callee,args,u⟩:=c;cases callee with
  |value f=>
   cases f with
   |func f=>
    grind[dV,ck.a,ahQ,Nat.eq_of_beq_eq_true,Kb,dq]
   |_=>
    grind[dV,Kb]
  |builtin b=>
   grind[dV,aiA]
  |invoke _ _=>trivial
 all_goals
  unfold kH;rw[q]
 case move x=>exact .ak (h x e)
 case assign x=>exact .ak (h x e)
 case pick c a b=>
  simp[dV,eg]at e;refine bc (abX (h c e.1.1)) λE t p=>?_;cases t with
  |true=>exact .ak ((h a e.1.2).a p)
  |false=>exact .ak ((h b e.2).a p)
 case alloc t=>grind[fO,acA]
 case box t x=>exact fO (ady t (h x e))
 case build t ps=>exact fO (afe l t (h.b e))
 case buildSlice t len ps=>exact fO (aiU l t _ (h.b e))
 case load t x=>exact fO (acs t (h x e))
 case store t a x=>
  simp[dV,eg]at e;exact CL (ad7 t (h a e.1) (h x e.2))
 case binOp op t x y D=>
  simp[dV,eg]at e;exact fO (Vc j _ t x y e.2 (h x e.1.1) (h y e.1.2))
 case unOp op t x=>exact fO (US _ (h x e))
 case convert s d x=>
  simp[dV,eg]at e;exact fO (ags s d e.2 (h x e.1))
 case makeInterface t x=>exact fO (ahg t (h x e))
 case makeFunc fn first v=>
  cases fn with
  |func g=>
   simp only[dV,eg]at e;exact fO (ahl (f:= .func g) (f':= .func g) ⟨rfl,by grind⟩ (h.a e.1.2) (h.a e.2))
  |_=>trivial
 case makeMap t r=>
  cases r with
  |none=>grind[fO,aea]
  |some _=>trivial
 case makeSlice t a x=>
  simp[dV,eg]at e;exact fO (WW l t (h a e.1) (h x e.2))
 case slice t x lo z C=>
  simp[dV,eg]at e;exact fO (XA t (h x e.1.1.1) (h.d e.1.1.2) (h.d e.1.2) (h.d e.2))
 case fieldAddr t x i=>exact fO (VN t (h x e) i)
 case field t x i=>exact fO (Vq t (h x e) i)
 case indexAddr t a x=>
  simp[dV,eg]at e;exact fO (ab9 t (h a e.1) (h x e.2))
 case index t a x=>
  simp[dV,eg]at e;exact fO (acY t (h a e.1) (h x e.2))
 case lookup t x i ok=>
  simp[dV,eg]at e;exact fO (ad0 l j e.2 (h x e.1.1) (h i e.1.2) _)
 case mapUpdate t m k x=>
  simp[dV,eg]at e;exact CL (OG j e.2 (h m e.1.1.1) (h k e.1.1.2) (h x e.1.2))
 case insert t m k x=>
  simp[dV,eg]at e;exact CL (OG j e.2 (h m e.1.1.1) (h k e.1.1.2) (h x e.1.2))
 case range t x=>exact fO (aiW t (h x e))
 case next x b=>exact fO (acB _ b (h x e))
 case entry x=>exact fO (Zb (h x e))
 case extract x i=>exact fO (aci (h x e) i)
 all_goals simp[dV]at e
end
end
section
variable[aW][ck][Gl]
variable {β:ah} {fr:ei} {cs:List ei} {kl kr:List ny} {β':ah}
def cK(Q P:ef)(n:Nat):qn->Bool| .skip| .exit _| .ret| .refuse _=>true| .region _ ops _=>ops.all λ o=>dV Q P n o.op| .seq a b=>cK Q P n a&&cK Q P n b| .cond c a b=>dq c&&cK Q P n a&&cK Q P n b| .block _ b| .loop b=>cK Q P n b| .rangeFunc f _ a b=>dq f&&cK Q P n a&&cK Q P n b| .scope _| .label _| .goto _=>false
structure dC where
 P:ef
 c:Array k4
 b:hy->Bool
 n:Nat
abbrev dC.Q(C:dC):=lp C.P C.c
structure dC.a(C:dC):Prop where
 c:nC C.P
 e:aW.n=C.P.globals.size
 d:sO C.P C.c C.b
 a:∀c,aW.c c=cK C.Q C.P C.n c
 b:∀f fn c,C.c[f]?=some fn->C.b f=false->fn.body=some c->cK C.Q C.P C.n c=true
structure cS where
 a:List ny
 d:List ny
 e:List hB
 f:List hB
 c:List ei
 g:List ei
def IR(C:dC)(β:ah):ny->ny->Prop| .code c,.code c'=>c=c'/\cK C.Q C.P C.n c=true| .inBlock i,.inBlock d=>i=d| .inLoop b,.inLoop a=>b=a/\cK C.Q C.P C.n b=true| .inRegion ops l,.inRegion e l'=>ops=e/\l=l'/\(ops.all λ o=>dV C.Q C.P C.n o.op)=true| .inRangeFunc l,.inRangeFunc l'=>β l l'| .endRangeFunc l,.endRangeFunc l'=>β l l'| .beginRound,.beginRound=>True|_,_=>False
theorem IR.a{C}(h:bF β β'){x y}(i:IR C β x y):IR C β' x y:=by cases x<;>cases y<;>first|exact i|exact h _ _ i|exact i.elim
def TL(C:dC)(β:ah)(kl kr:List ny):List ny->List ny->Prop|l,m=>∃a b,l=a++kl/\m=b++kr/\a.length=b.length/\∀(i:Nat) x y,a[i]?=some x->b[i]?=some y->IR C β x y
theorem TL.b{C}(h:bF β β'){l m}(x:TL C β kl kr l m):TL C β' kl kr l m:=
 let⟨a,b,c,d,e,f⟩:=x; ⟨a,b,c,d,e,λ i u v g j=>(f i u v g j).a h⟩
theorem TL.c{C}:TL C β kl kr kl kr:= ⟨[],_,rfl,rfl,rfl,by grind⟩
theorem TL.d{C l m}(h:TL C β kl kr l m):(l=kl/\m=kr)\/∃x l' y m',l=x::l'/\m=y::m'/\IR C β x y/\TL C β kl kr l' m':=by have⟨a,b,d,e,f,c⟩:=h;cases a with|nil=>grind|cons x a=>cases b with|nil=>trivial|cons y b=>exact .inr ⟨x,_,y,_,by trivial,by trivial,c 0 x y rfl rfl,a,b,rfl,rfl,by grind,λ i u v g j=>c (i+1) u v (by grind) (by grind)⟩
theorem TL.a{C l m x y}(h:TL C β kl kr l m)(k:IR C β x y):TL C β kl kr (x::l) (y::m):=by have⟨a,b,c,d,e,f⟩:=h;refine⟨x::a,y::b,by grind,by grind,by grind,λ i u v g j=>?_⟩;grind
def MR:p7->p7->Prop| .run,.run=>True| .returning,.returning=>True|_,_=>False
theorem MR.c{m m'}(h:MR m m')(e:m= .run):m'= .run:=by subst e;cases m'<;>first|rfl|exact h.elim
theorem MR.a{m m'}(h:MR m m')(e:m= .returning):m'= .returning:=by subst e;cases m'<;>first|rfl|exact h.elim
theorem MR.b{m m'}(h:MR m m'):(m= .run/\m'= .run)\/(m= .returning/\m'= .returning):=by cases m<;>cases m'<;>first|exact h.elim|exact .inl ⟨rfl,rfl⟩|exact .inr ⟨rfl,rfl⟩
structure GF(C:dC)(β:ah)(kl kr:List ny)(dl j:List hB)(fr fr':ei):Prop where
 h:fr.fn=fr'.fn
 b:AV β fr.tmps fr'.tmps
 g:TL C β kl kr fr.todo fr'.todo
 a:∃d i,fr.defers=d++dl/\fr'.defers=i++j/\DL β d i/\∀x∈d,∃r,x.target= .collected r
 f:MR fr.mode fr'.mode
 e:fr.kind=fr'.kind
 c:NO β fr.roundOf fr'.roundOf
theorem GF.j{C}(h:bF β β'){dl a fr'}(x:GF C β kl kr dl a fr fr'):GF C β' kl kr dl a fr fr':= ⟨x.h,x.b.a h,x.g.b h,let⟨d,_,b,c,e,f⟩:=x.a; ⟨d,_,b,c,e.a h,f⟩,x.f,x.e,x.c.a h⟩
theorem NO.b{a a'}(h:NO β a a'):a=none↔a'=none:=by cases a<;>cases a'<;>first|exact h.elim|simp
def na:List ny->Bool| .inRegion _ (_::_)::_| .inRangeFunc _::_| .beginRound::_=>true|_=>false
def JS(C:dC)(fr:ei):=fr.kind= .normal/\(fr.roundOf=none->∃fn,C.c[fr.fn]?=some fn/\C.P.funcs[fr.fn]?=some fn)/\(fr.roundOf≠none->fr.mode= .run)
inductive GS(C:dC)(X:cS)(β:ah):ei->List ei->ei->List ei->Prop|jE {fr fr':ei} (h:GF C β X.a X.d X.e X.f fr fr') (b:fr.roundOf=none):GS C X β fr X.c fr' X.g|up {fr fr' c c':ei} {cs cs':List ei} (h:GF C β [] [] [] [] fr fr') (d:JS C fr) (hp:na c.todo=true) (a:GS C X β c cs c' cs'):GS C X β fr (c::cs) fr' (c'::cs')
theorem GS.b{C X}(h:bF β β'){fr' cs'}(x:GS C X β fr cs fr' cs'):GS C X β' fr cs fr' cs':=by induction x with|jE g a=>exact .jE (g.j h) a|up g b hp _ c=>exact .up (g.j h) b hp c
theorem GS.c{C X fr' cs'}(x:GS C X β fr cs fr' cs'):X.c.length<=cs.length:=by induction x with|jE g a=>omega|up g b hp _ c=>grind
inductive DS(X:cS):ei->List ei->Prop|yS {fr:ei} (h:∀x∈fr.defers,∃r,hY x=hQ r):DS X fr X.c|up {fr c:ei} {cs:List ei} (h:∀x∈fr.defers,∃r,hY x=hQ r) (a:DS X c cs):DS X fr (c::cs)
theorem GS.e{C X fr' cs'}(h:X.e= [])(x:GS C X β fr cs fr' cs'):DS X fr cs:=by induction x with|jE g i=>have⟨d,b,c,_,_,a⟩:=g.a;exact .yS λ x e=>a x (by grind)|up g j hp _ f=>have⟨d,b,c,_,_,a⟩:=g.a;exact .up (λ x e=>a x (by grind)) f
theorem DS.b{X fr2}(h:DS X fr cs)(h2:∀x∈fr2.defers,∃r,hY x=hQ r):DS X fr2 cs:=by cases h with|yS _=>exact .yS h2|up _ a=>exact .up h2 a
theorem DS.a{X}(h:DS X fr cs):∀x∈fr.defers,∃r,hY x=hQ r:=by cases h with|yS h=>exact h|up h _=>exact h
def jU(X:cS)(fr:ei)(cs:List ei):=cs=X.c/\((fr.mode= .run/\fr.todo=X.a/\(X.a≠[]\/X.d≠[]))\/(fr.mode= .returning/\fr.defers=X.e))
def gd:Frame:={fn:=0,tmps:= #[],todo:= [],defers:= [{target:= .coroexit 0,args:= #[]}],mode:= .run,kind:= .normal}
structure cS.b(X:cS):Prop where
 b:X.e= []
 a:X.c= [gd]
 c:na X.a=false
 d:∀id,oL id X.a=none
 e:X.a= []->X.d= []
theorem GS.d{C X fr' cs'}(h:GS C X β fr cs fr' cs')(p:X.b)(n:¬jU X fr cs):∃k k' d l,GF C β k k' d l fr fr'/\(fr.roundOf=none\/(k= []/\k'= []))/\(fr.mode= .run->fr.todo=k->k= []/\k'= [])/\(∀id,oL id k=none)/\na k=false/\(fr.mode= .returning->fr.defers=d->d= []/\l= []/\JS C fr/\∃c b c' f,cs=c::b/\cs'=c'::f/\na c.todo=true/\GS C X β c b c' f)/\(fr.roundOf≠none->JS C fr/\∃c b c' f,cs=c::b/\cs'=c'::f/\na c.todo=true/\GS C X β c b c' f)/\∀i a j,GF C i k k' d l a j->a.roundOf=fr.roundOf->a.kind=fr.kind->a.fn=fr.fn->(fr.roundOf≠none->a.mode= .run)->bF β i->GS C X i a cs j cs':=by cases h with|jE g o=>refine⟨X.a,X.d,X.e,X.f,g,.inl o,λ q A=>?_,p.d,p.c,λ q v=>(n ⟨rfl,.inr ⟨q,v⟩⟩).elim,λ y=>absurd o y,λi a j g' m _ _ _ _=> .jE g' (m.trans o)⟩;refine⟨kV λ w=>n ⟨rfl,by grind⟩,kV λ w=>n ⟨rfl,by grind⟩⟩|up g r hp u=>refine⟨_,_,_,_,g,by grind,by grind,λ id=>rfl,rfl,by grind,by grind,λi a j g' m s t z x=> .up g' ⟨s.trans r.1,λ e=>t▸r.2.1 (m▸e),by grind⟩ hp (u.b x)⟩
end
section
variable[aW][ck][Gl]
variable {cs:List ei} {sL:ea->o7} {Q:ef} {s':o7} {E:hy->Prop}
abbrev G0(fr:ei)(cs:List ei):Goroutine:={frame:=fr,callers:=cs,status:= .running,dying:=none}
def yP(X:cS)(s:o7):=(∃o u es,s= .ended o u es)\/∃a b v2 es c,s= .go (G0 a b) v2 es/\a.mode= .panicking c/\Hd v2/\DS X a b
def uC(C:dC)(X:cS)(β:ah)(b:ei)(cs:List ei)(d:ei)(cs':List ei):=∃f xs ys c cs0 c' a,b=fx C.Q f xs .normal/\d=fx C.P f ys .normal/\cs=c::cs0/\cs'=c'::a/\C.b f=true/\(ck.a f=true->xs.size=ck.b)/\pq C.P C.c C.b f/\AV β xs ys/\na c.todo=true/\GS C X β c cs0 c' a
def oS(C:dC)(X:cS)(F:Nat->Bool)(β:ah)(v w:ea)(sL:ea->o7)(s':o7):=∃d t,(∀T D,gy d t T D->yP X (sL (v.tp T D)))\/∃f b v2 a g c w2 h,(∀T D,gy d t T D->∃es,sL (v.tp T D)= .go (G0 f b) (v2.tp T (D+d)) es)/\s'= .go (G0 g c) w2 h/\(GS C X a f b g c\/uC C X a f b g c)/\cw F a v2 w2/\Hd v2/\im F β v w a v2 w2/\∀e∈h,lQ F a e
section
variable{F:Nat->Bool}{C:dC}{X:cS}{β:ah}{v w:ea}
theorem RS.b{α f A}{s:hq α}{s':hq f}(h:RS F C.Q C.P A β s s')(i:cw F β v w)(g:Hd v):∃d t,(∀T D,gy d t T D->∃x v2 es,s.runT C.Q (v.tp T D) #[]=(.halt x v2,es)/\jX x=true/\Hd v2)\/∃a v2 a' w2 c b,s'.runT C.P w #[]=(.ok a' w2,c)/\A b a a'/\cw F b v2 w2/\Hd v2/\im F β v w b v2 w2/\(∀e∈c,lQ F b e)/\∀T D,gy d t T D->∃es,s.runT C.Q (v.tp T D) #[]=(.ok a (v2.tp T (D+d)),es):=by have⟨d,t,h⟩:=h.d v w i g #[];refine⟨d,t,?_⟩;have j:∀T D,s.runT C.Q (v.tp T D) #[]=(s.run C.Q (v.tp T D),(s.runT C.Q (v.tp T D) #[]).2):=λ T D=>Prod.ext (n1 C.Q s (v.tp T D) #[]) rfl;grind
theorem qv{f es}{p:hR->Prop}(h:∀e∈es,p e):∀e∈vi Q f es,p e:=by
 unfold vi;simp only;rw[<-k6];have c:∀e∈es.toList,p e:=λ e d=>h e (by grind);generalize es.toList=l at c;have key:∀(l:List hR) b,(∀e∈b.2,p e)->(∀e∈l,p e)->∀e∈(l.foldl (λ(q:Bool×Array hR)e=>match e.loc with| .mark (.extern f)=>((Q.funcs[f]?).any (·.norace),q.2)|_=>(q.1,if q.1&&!e.sync then q.2 else q.2.push e)) b).2,p e:=by
  intro l
  induction l with|nil=>simp|cons a l g=>grind
 exact key l _ (by simp) c
theorem ah0(fr:ei)(x):(fr.finish x).fn=fr.fn:=by grind[hz]
theorem Uw(fr:ei)(x):(fr.finish x).mode=fr.mode:=by grind[hz]
theorem afA(fr:ei)(x):(fr.finish x).kind=fr.kind:=by grind[hz]
theorem Gz(fr:ei)(x):(fr.finish x).roundOf=fr.roundOf:=by grind[hz]
theorem GF.i{k k' d n fr fr'}(g:GF C β k k' d n fr fr')(hp:na fr.todo=true)(u:na k=false){x y}(p:VR β x y):GF C β k k' d n (fr.finish x) (fr'.finish y):=by
 obtain⟨e,_⟩| ⟨a,l,b,m,f,h,c,j⟩:=g.g.d
 grind
 have s:(∃ops i rest,a= .inRegion ops (i::rest))\/(∃l,a= .inRangeFunc l)\/a= .beginRound:=by
  rw[f]at hp;cases a with
  |inRegion ops q=>cases q with
   |nil=>trivial
   |cons i r=>simp
  |inRangeFunc l=>simp
  |beginRound=>simp
  |_=>trivial
 rcases s with⟨ops,i,rest,rfl⟩| ⟨q,rfl⟩|rfl;cases b<;>first|exact c.elim|skip
 obtain⟨rfl,rfl,o⟩:=c;unfold hz;rw[f,h];refine⟨g.h,?_,j.a (x:= .inRegion _ _) (y:= .inRegion _ _) ⟨rfl,rfl,o⟩,g.a,g.f,g.e,g.c⟩;simp only;cases(ops[i]?).bind _ with
 |none=>exact g.b
 |some t=>exact g.b.l t p
 cases b<;>first|exact c.elim|skip
 unfold hz;rw[f,h];exact⟨g.h,g.b,j.a (x:= .endRangeFunc q) (y:= .endRangeFunc _) c,g.a,g.f,g.e,g.c⟩;cases b<;>first|exact c.elim|skip
 unfold hz;rw[f,h];exact⟨g.h,g.b,j,g.a,g.f,g.e,g.c⟩
theorem GS.a(d:X.b){c c' cs'}(h:GS C X β c cs c' cs')(hp:na c.todo=true){x y}(b:VR β x y):GS C X β (c.finish x) cs (c'.finish y) cs':=by cases h with|jE g j=>exact .jE (g.i hp d.c b) ((Gz _ _).trans j)|up g a i f=>exact .up (g.i hp rfl b) ⟨(afA _ _).trans a.1,λ e=>by rw[ah0];exact a.2.1 ((Gz _ _).symm.trans e),λ e=>by rw[Uw];exact a.2.2 (by grind[Gz])⟩ i f
theorem HB(g:cw F β v w)(f:Hd v){d e a b}(h:GS C X β d a e b) (h1:∀T D,sL (v.tp T D)= .go (G0 d a) (v.tp T D)) (h2:s'= .go (G0 e b) w):oS C X F β v w sL s':= ⟨0,λ _ _=>0,.inr ⟨_,_,v,_,_,_,w,_,by grind,h2,.inl h,g,f,.c _ _ _ _,by simp⟩⟩
theorem vh(h:∀T D,∃o u es,sL (v.tp T D)= .ended o u es):oS C X F β v w sL s':= ⟨0,λ _ _=>0,.inl λ T D _=> .inl (h T D)⟩
theorem vN(fr:ei)(vs):∃b,(fr.raise vs).mode= .panicking b:=by have⟨c,d,e,f,a,g,h⟩:=fr;cases a<;>exact⟨_,rfl⟩
theorem Dg(fr:ei)(vs):(fr.raise vs).defers=fr.defers:=by have⟨b,c,d,e,a,f,g⟩:=fr;cases a<;>rfl
theorem Xt{a s}(h:yP X s):yP X (ep a s):=by
 obtain⟨o,u,es,rfl⟩| ⟨d,c,v2,es,b,rfl,h⟩:=h
 exact .inl ⟨o,u,_,rfl⟩;exact .inr ⟨_,_,_,_,_,rfl,h⟩
theorem Lc{fr x v2}(h:jX x=true)(d:Hd v2)(a:DS X fr cs)(b){s u} (e:s.runT Q u #[]=(.halt x v2,b)):yP X (eL Q true fr cs none s u):=by simp only[eL,if_true,e];cases x with
 |panic p=>have⟨f,c⟩:=vN fr [{v:=p,recovered:=false}];exact .inr ⟨_,_,_,_,_,rfl,c,d,a.b (by rw[Dg];exact a.a)⟩|unsupported u=>cases u with|initOrder g=>trivial|_=>exact .inl ⟨_,_,_,rfl⟩
 |stuck m=>exact .inl ⟨_,_,_,rfl⟩|_=>trivial
theorem Oz{frL frR cs' s s' uw v2 w2}{uL:ea->ea}{esL:ea->Array hR}{a a' m c d t}
 (h1:∀T D,gy d t T D->∃es,s.runT C.Q (uL (v.tp T D)) #[]=(.ok a (v2.tp T (D+d)),es)) (h2:s'.runT C.P uw #[]=(.ok a' w2,m)) (h3:XR E c a a') (h4:cw F c v2 w2) (i:Hd v2) (h5:im F β v w c v2 w2) (h6:∀e∈m,lQ F c e)
 (n) (h7:∀e∈n,lQ F c e)
 (R:∀d r z k,frL.todo≠ .call d true r z::k) (S:∀d r z k,frR.todo≠ .call d true r z::k)
 (A:∀x y,VR c x y->GS C X c (frL.finish x) cs (frR.finish y) cs')
 (L:∀f xs ys,E f/\(ck.a f=true->xs.size=ck.b)->AV c xs ys->GS C X c (fx C.Q f xs .normal) (frL::cs) (fx C.P f ys .normal) (frR::cs')\/uC C X c (fx C.Q f xs .normal) (frL::cs) (fx C.P f ys .normal) (frR::cs'))
 (N:∀l l' f xs ys a b,c l l'->AV c xs ys->aW.c a=true->aW.c b=true->GS C X c (lB l f xs a b .normal) (frL::cs) (lB l' f ys a b .normal) (frR::cs'))
 {B} (P:∀T D,gy d t T D->sL (v.tp T D)=ep (esL (v.tp T D)) (eL C.Q true frL cs none s (uL (v.tp T D)))) (Q:B=ep n (eL C.P true frR cs' none s' uw)):
 oS C X F β v w sL B:=by
 have U:(match frL.todo with| .call _ true _ _::_=>rH|_=> .normal)= .normal:=by
  simp
 have V:(match frR.todo with| .call _ true _ _::_=>rH|_=> .normal)= .normal:=by
  simp
 have h:∀e∈n++ (vi C.P frR.fn (if(frR.kind== .early)=true then #[]else m)++ #[]),lQ F c e:=λ e g=>by
  rcases kq.1 g with g|g
  grind
  exact qv (p:=lQ F _) (λ e g=>by
   grind) e g
 cases a with
 |value x=>
  cases a'<;>first|exact h3.elim|skip
  refine⟨d,t,.inr ⟨_,_,v2,c,_,_,w2,_,λ T D o=>?_,by grind[eL,ep],.inl (A _ _ h3),h4,i,h5,h⟩⟩
  grind[eL,ep]
 |skip=>
  cases a'<;>first|exact h3.elim|skip
  refine⟨d,t,.inr ⟨_,_,v2,c,_,_,w2,_,λ T D o=>?_,by grind[eL,ep],.inl (A _ _ (VR.c _)),h4,i,h5,h⟩⟩
  grind[eL,ep]
 |enter f xs=>
  cases a'<;>first|exact h3.elim|skip
  rename_i f' ys;have⟨j,u,I,O⟩:=h3;subst j;refine⟨d,t,.inr ⟨_,_,v2,c,_,_,w2,_,λ T D o=>?_,by grind[eL,ep],L f xs ys ⟨I,O⟩ u,h4,i,h5,h⟩⟩
  grind[eL,ep]
 |round l f xs p q=>
  cases a'<;>first|exact h3.elim|skip
  rename_i l' f' ys p' q';have⟨M,j,u,G,H,J,K⟩:=h3;subst j G H;refine⟨d,t,.inr ⟨_,_,v2,c,_,_,w2,_,λ T D o=>?_,by grind[eL,ep],.inl (N l l' f xs ys p q M u J K),h4,i,h5,h⟩⟩
  grind[eL,ep]
 |_=>trivial
theorem RG(s):ep #[] s=s:=by cases s<;>simp[ep]
theorem PC{frL frR cs' s s'}(H:RS F C.Q C.P (XR E) β s s')(B:cw F β v w)(q:Hd v)(L:DS X frL cs) (z:∀d r g k,frL.todo≠ .call d true r g::k) (A:∀d r g k,frR.todo≠ .call d true r g::k) (I:∀c x y,bF β c->VR c x y->GS C X c (frL.finish x) cs (frR.finish y) cs') (u:∀c f xs ys,bF β c->E f/\(ck.a f=true->xs.size=ck.b)->AV c xs ys->GS C X c (fx C.Q f xs .normal) (frL::cs) (fx C.P f ys .normal) (frR::cs')\/uC C X c (fx C.Q f xs .normal) (frL::cs) (fx C.P f ys .normal) (frR::cs')) (G:∀c l l' f xs ys a b,bF β c->c l l'->AV c xs ys->aW.c a=true->aW.c b=true->GS C X c (lB l f xs a b .normal) (frL::cs) (lB l' f ys a b .normal) (frR::cs')):oS C X F β v w (eL C.Q true frL cs none s) (eL C.P true frR cs' none s' w):=by
 have⟨d,t,h⟩:=H.b B q;obtain h| ⟨a,v2,a',w2,J,c,i,j,m,n,e,o,p⟩:=h
 refine⟨d,t,.inl λ T D K=>?_⟩
 grind[Lc]
 exact Oz (X:=X) (uL:=id) (esL:=λ _=> #[]) p i j m n e o _ (by simp) z A (λ x y=>I _ x y e.b) (λ f xs ys=>u _ f _ _ e.b) (λ l l' f xs ys a b=>G _ l _ f _ _ a b e.b)
  (λ T D _=>(RG _).symm) (RG _).symm
end
end
section
variable[aW][ck][Gl]
variable {cs:List ei} {xs ys:Array b2} {β2:ah} {f:hy}
theorem aa3{α:Type}(P:ef)(s:hq α)(w:ea)(e0 es:Array hR):s.runT P w (e0++es)=((s.runT P w es).1,e0++ (s.runT P w es).2):=by
 induction s generalizing w es with
 |pure a=>rfl
 |load m a k b=>
  simp only[fV];cases w.cell? a with
  |some v=>grind
  |none=>
   simp only;cases w.farLoad P a _ with
   |ok r=>grind
   |error h=>rfl
 |store m a v k b=>
  cases v
  case agg=>rfl
  case tuple=>rfl
  all_goals
   simp only[fV];cases w.cell? a with
   |some _=>
    simp only;split
    rfl;rw[<-j2,b]
   |none=>
    simp only;split
    rw[Array.append_assoc,b];rfl
 |new o k b=>grind[fV]
 |shape r k b=>grind[fV]
 |freeze a n k b=>grind[fV]
 |frozen a k b=>grind[fV]
 |getObj r k b=>
  simp only[fV];cases w.heap[r]? with
  |none=>rfl
  |some o=>cases o<;>first|rfl| (simp only;rw[<-j2,b])
 |setObj r o k b=>
  simp only[fV];cases w.heap[r]? with
  |none=>rfl
  |some o=>cases o<;>first|rfl| (simp only;rw[<-j2,b])
 |choose q k b=>grind[fV]
 |sys c k b=>grind[fV,j2]
 |program k b=>grind[fV]
 |mark m k b=>grind[fV,j2]
 |halt h=>rfl
theorem agT{α c}(P)(s:hq α)(f:α->hq c)(w):(s.bind f).runT P w #[]=match s.runT P w #[]with| (.ok a w1,b)=>(((f a).runT P w1 #[]).1,b++ ((f a).runT P w1 #[]).2)| (.halt h w1,b)=>(.halt h w1,b):=by rw[Sem.runT_bind'];generalize s.runT P w #[]=q;have⟨r,b⟩:=q;cases r with
 |ok a w1=>simp only;have:=aa3 P (f a) w1 b #[];trivial|halt h w1=>rfl
section
variable{F:Nat->Bool}{C:dC}{X:cS}{β:ah}{v w:ea}
def OB:Option qn->Bool|none|some .ret=>true|_=>false
def xb(p:ef)(main:Bool)(fr:ei)(cs:List ei)(w:ea)(a:Option qn):GStep:=match fr.roundOf with
 |none=>if OB a=true then .go (G0 {fr with mode:= .returning} cs) w else .ended (.stuck "exit, goto: no such block or label" (fr.pos p)) w|some l=>let(r,es):=(o6 l a).runT p w #[]
  ep (vi p fr.fn es)<|match r with| .ok v w=>o8 p main fr cs none v w| .halt _ w=> .ended (.stuck "range over a function: no such loop" (fr.pos p)) w
theorem aam(z:C.a)(o:X.b){fr fr' cs cs' m1 m2}(s:cw F β v w)(p:Hd v)(h:GS C X β fr cs fr' cs')(B:¬jU X fr cs)(ac:fr.mode= .run) (i) (G:∀c,i=some c->cK C.Q C.P C.n c=true):oS C X F β v w (λ u=>xb C.Q m1 fr cs u i) (xb C.P m2 fr' cs' w i):=by have⟨k,k',d,S,g,V,W,Y,Z,aa,A,E⟩:=h.d o B;have b:=g.c;unfold xb;cases e:fr.roundOf with
 |none=>rw[e]at b;have f:fr'.roundOf=none:=(NO.b b).1 rfl;rw[f];cases ab:OB _ with|true=>exact HB s p (E _ {fr with mode:= .returning} {fr' with mode:= .returning} ⟨g.h,g.b,g.g,g.a,trivial,g.e,g.c⟩ rfl rfl rfl (by grind) (bF.b _)) (by grind) (by grind)|false=>exact vh λ T D=> ⟨_,_,_,rfl⟩
 |some l=>rw[e]at b;cases f:fr'.roundOf with|none=>rw[f]at b;exact b.elim|some l'=>
   rw[f]at b;obtain⟨I,c,Q,c',R,rfl,rfl,hp,m⟩:=A (by rw[e];simp);have r:fr.kind= .normal:=I.1;have H:fr'.kind= .normal:=g.e▸r;have⟨d,t,q⟩:=(agI (F:=F) (P:=C.P) (fs:=C.c) b i λ c m=>(z.a c).trans (G c m)).b s p;refine⟨d,t,?_⟩;obtain q| ⟨a,v2,a',w2,U,β2,J,K,L,M,y,N,O⟩:=q
   refine .inl λ T D j=>?_;obtain⟨x,v2,es,n,_,_⟩:=q T D j;exact .inl ⟨_,_,_,by simp only[n,ep];rfl⟩;refine .inr ⟨_,_,v2,β2,_,_,w2,_,λ T D j=>?_,by simp only[J,o8,H,ep];rfl,.inl ((m.b y.b).a o hp K),L,M,y,?_⟩;obtain⟨es,n⟩:=O T D j;exact⟨_,by simp only[n,o8,r,ep];rfl⟩;rw[gE];exact qv N
theorem TL.e{k k' l m}(h:TL C β k k' l m)(f:∀id,oL id k=none)(id):(∃l',oL id l=some l'/\∃m',oL id m=some m'/\TL C β k k' l' m')\/(oL id l=none/\(k'= []->oL id m=none)):=by
 obtain⟨a,b,rfl,rfl,p,c⟩:=h
 induction a generalizing b with
 |nil=>cases b with|cons _ _=>trivial|nil=>exact .inr ⟨f _,λ e=>by subst e;rfl⟩
 |cons x a o=>cases b with|nil=>trivial|cons y b=>
   have d:=c 0 x y rfl rfl;have rest:=o b (by grind) λ i u v g j=>c (i+1) u v (by trivial) (by trivial);have q:TL C β k k' (a++k) (b++k'):= ⟨a,b,rfl,rfl,by grind,λ i u v g j=>c (i+1) u v (by trivial) (by trivial)⟩;cases x<;>cases y<;>first|exact d.elim|skip
   case inBlock.inBlock i n=>
    have e:i=n:=d;grind[oL]
   all_goals
    simp[oh,oL];exact rest
theorem Ff(k:C.a){β2 frL frR cs cs'}(j:GS C X β2 frL cs frR cs')(hp:na frL.todo=true){f xs ys}(d:pq C.P C.c C.b f/\(ck.a f=true->xs.size=ck.b))(h:AV β2 xs ys):GS C X β2 (fx C.Q f xs .normal) (frL::cs) (fx C.P f ys .normal) (frR::cs')\/uC C X β2 (fx C.Q f xs .normal) (frL::cs) (fx C.P f ys .normal) (frR::cs'):=by cases g:C.b f with|true=>exact .inr ⟨f,_,_,frL,cs,frR,cs',rfl,rfl,rfl,rfl,g,d.2,d.1,h,hp,j⟩|false=>left;have⟨l,fn,a,i,b,n,m⟩:=d.1;obtain rfl:fn=l:=m.resolve_left (by rw[g];simp);cases e:fn.body with|none=>rw[e]at i;cases i|some c=>
   refine .up ⟨rfl,?_,?_,⟨[],[],rfl,rfl,trivial,by simp⟩,trivial,rfl,trivial⟩ ⟨rfl,λ _=> ⟨fn,a,b⟩,λ x=>absurd rfl x⟩ hp j
   simp only[fx,a,b,Option.map_some,sc,h.1];exact h.b (AV.f _ (VR.c _));simp only[fx,a,b,r9,e,sc];exact TL.c.a (x:= .code c) (y:= .code c) ⟨rfl,k.b f fn c a g e⟩
theorem G2(e:C.a){frL frR cs'}(g:GS C X β2 frL cs frR cs')(hp:na frL.todo=true){l l' a b}(i:β2 l l')(h:AV β2 xs ys) (c:aW.c a=true) (d:aW.c b=true):GS C X β2 (lB l f xs a b .normal) (frL::cs) (lB l' f ys a b .normal) (frR::cs'):=by rw[e.a]at c d;refine .up ⟨rfl,h,?_,⟨[],[],rfl,rfl,trivial,by simp⟩,trivial,rfl,i⟩ ⟨rfl,λ x=>by trivial,λ _=>rfl⟩ hp g;exact((TL.c.a (x:= .code b) (y:= .code b) ⟨rfl,d⟩).a (x:= .beginRound) (y:= .beginRound) trivial).a (x:= .code a) (y:= .code a) ⟨rfl,c⟩
theorem aeq(h:AV β xs ys)(ops):qW ops xs=qW ops ys:=by funext j;unfold qW;cases(ops[j]?).bind _ with|none=>rfl|some t=>
  simp[r9];rcases h.d t with⟨a,b⟩| ⟨x,y,a,b,c⟩
  grind
  rw[a,b];cases c with
  |fy hp=>cases y<;>first|rfl| (simp[od]at hp)
  |jL hp=>grind[p9]
  |gW _ hp=>grind[rq]
  |_=>rfl
theorem TF(Q){fr o u}(b:fr.oper?=some o)(a:∀c,o.op≠ .defer c):k7 Q true fr cs none u=eL Q true fr cs none (kH fr.eval o) u:=by grind[k7,absurd]
theorem MI{Q P n op}(h:dV Q P n op=true)(c):op≠ .defer c:=by grind[dV]
end
end
section
variable[aW][ck][Gl]
variable {z:b2} {i:vj}
theorem OU{α β:Type}{I:β->Prop}{f}(i:∀a b r,I b->f a b=some r->I r.value):∀(l:List α) b c,I b->F0 l b f=some c->I c
 | [],b,c,h,e=>by grind|a::l,b,c,h,e=>by rw[o0]at e;cases d:f a b with|none=>rw[d]at e;cases e|some r=>rw[d]at e;have g:=i a b r h d;cases r with|done x=>cases e;exact g|yield x=>exact OU i l x c g e
def xw:Nat->b2->Bool|0,_=>false|n+1,v=>match v with| .bool _| .int _ _| .string _| .pointer none| .slice none _ _| .map none| .chan none| .nilFunc| .nilIface=>true| .agg cs=>cs.toList.all (xw n)| .tuple cs=>cs.toList.all (xw n)|_=>false
theorem zT{cs}:fB (.agg cs)↔∀v∈cs.toList,fB v:=by
 constructor
 intro h v d β;obtain⟨i,c⟩:=List.getElem?_of_mem d;have c:cs[i]?=some v:=by grind
 have:=h β;cases this with
 |gU b a=>grind
 intro h β;exact .gU rfl λ i v v' b a=>by
  rw[b]at a;cases a;exact h v (by grind) _
theorem Il:∀n v,xw n v=true->fB v
 |0,_,h=>by cases h|n+1,v,h=>by cases v with
  |bool b=>exact λβ=> .fY b|int k m=>exact λβ=> .cx k m|string s=>exact λβ=> .eI s|nilFunc=>exact λβ=> .nG|nilIface=>exact λβ=> .mj|pointer a=>cases a with|none=>exact λβ=> .dc (a:=none) (a':=none) trivial|some _=>cases h
  |slice a m c=>cases a with
   |none=>exact λβ=> .dz (a:=none) (a':=none) trivial m c|some _=>cases h
  |map a=>cases a with
   |none=>exact λβ=> .kM (r:=none) (r':=none) trivial|some _=>cases h
  |chan a=>cases a with
   |none=>exact λβ=> .me|some _=>cases h
  |agg cs=>simp only[xw,hU]at h;exact zT.2 λ v f=>Il n v (h v f)|tuple cs=>
   simp only[xw,hU]at h;intro β;exact .nA rfl λ i v v' e d=>by rw[e]at d;cases d;exact Il n v (h v (by grind)) _|_=>cases h
theorem PX(h:fB z):∀v∈z.cells.toList,fB v:=by cases z with|agg cs=>exact zT.1 h|_=>grind[Value.cells]
theorem acg{info}(p:∀t i z,info t=some i->i.zero=some z->fB z){fs i z}(h:s7 info fs=some i)(n:i.zero=some z):fB z:=by
 unfold s7 at h;simp[<-hD]at h;have⟨r,l,g⟩:=ee.1 h;have m:∀arr,r.2.2.2.2.2.2.2.1=some arr->∀v∈arr.toList,fB v:=by
  refine OU (I:=λ r=>∀arr,r.2.2.2.2.2.2.2.1=some arr->∀v∈arr.toList,fB v) ?_ _ _ _ ?_ l
  intro f b r o e;obtain⟨j,q,e⟩:=ee.1 e;have fin:∀c arr,(if c>Made.mostCells then none else do
   let x<-b.2.2.2.2.2.2.2.1
   let y<-j.zero
   eV (x++y.cells))=some arr->∀v∈arr.toList,fB v:=by
   intro c arr a v k;split at a;trivial;obtain⟨x,s,a⟩:=ee.1 a
   grind[ee,Array.toList_append,PX]
  repeat' first
   | (exact λ arr a=>fin _ arr (by cases e;exact a))
   | (replace e:=ee.1 e;obtain⟨_,d,e⟩:=e;first| (cases d;done)|clear d)
   | (cases e;done)
   |split at e
  intro arr a v k;cases a;simp at k
 split at g<;>(cases g;obtain⟨arr,a,rfl⟩:=eH.1 n;exact zT.2 (m arr a))
theorem ad3{info}(m:∀t i z,info t=some i->i.zero=some z->fB z){d}(h:z7 info d=some i)(b:i.zero=some z):fB z:=by have g:fB (.pointer none):=λβ=> .dc (a:=none) (a':=none) trivial;have c2:fB (.slice none 0 0):=λβ=> .dz (a:=none) (a':=none) trivial 0 0;have c3:fB (.map none):=λβ=> .kM (r:=none) (r':=none) trivial;have c4:fB (.chan none):=λβ=> .me;have l:fB .nilFunc:=λβ=> .nG;unfold z7 at h;cases d with
 |pointer e=>
  have⟨j,f,h⟩:=ee.1 h;split at h
  cases h;split at h;cases h;obtain⟨s,c,h⟩:=ee.1 h;cases h;cases b;exact g;obtain⟨s,c,h⟩:=ee.1 h;cases h;cases b;exact g|slice e=>have⟨j,f,h⟩:=ee.1 h;have⟨s,c,h⟩:=ee.1 h;cases h;cases b;exact c2|map k e=>have⟨j,f,h⟩:=ee.1 h;have⟨s,c,h⟩:=ee.1 h;have⟨j,f,h⟩:=ee.1 h;have⟨s,c,h⟩:=ee.1 h;cases h;cases b;exact c3|chan dir e=>have⟨j,f,h⟩:=ee.1 h;have⟨s,c,h⟩:=ee.1 h;cases h;cases b;omega|func ps p v=>have⟨s,c,h⟩:=ee.1 h;cases h;cases b;omega|array n e=>
  have⟨j,f,h⟩:=ee.1 h;have⟨s,c,h⟩:=ee.1 h;cases h;simp only at b;split at b
  trivial;split at b
  grind[zT]
  obtain⟨y,o,rfl⟩:=eH.1 b
  grind[zT,Array.toList_flatten,Array.toList_replicate,List.map_replicate,List.mem_flatten,PX]|struct fs=>grind[acg]|_=>cases h
theorem Li(T)(a:∀(t:eb)i z,T.types[t]?=some i->i.zero=some z->fB z):∀n(t:eb)i z,z6 T n t=some i->i.zero=some z->fB z
 |0,t,i,z,h,_=>by cases h|n+1,t,i,z,h,b=>by
  unfold z6 at h;split at h
  grind
  obtain⟨d,_,h⟩:=ee.1 h;exact ad3 (Li T a n) h b
theorem ahU{P n}(h:(P.types.toList.all λ i=>match i.zero with|some z=>xw n z|none=>true)=true):nC P:=by
 have c:∀(t:eb)i z,P.types[t]?=some i->i.zero=some z->fB z:=λ t i z a b=>by grind[hU,List.mem_of_getElem?,Il]
 intro t i z a b;grind[Tables.info?,Li]
end
section
variable[aW][ck][Gl]
section
variable{F:Nat->Bool}{C:dC}{X:cS}{β:ah}{v w:ea}
variable {f:gw} {ps:Array Tmp} {α:Type}
def j8(ρ:gw->b2)(f:gw)(l:Nat):=do
 let d<-resolve ρ {callee:= .value f,args:= #[.const (.func (.yield l) #[] #[])],argTypes:= #[]} 0
 q5 d.target d.args
theorem UQ(a:C.a){ρ ρ'}(h:jj β ρ ρ')(c:dq f=true){l l'}(g:β l l') (i:∀v,ρ (.const v)=v) (j:∀v,ρ' (.const v)=v):RS F C.Q C.P (XR (pq C.P C.c C.b)) β (j8 ρ f l) (j8 ρ' f l'):=by
 have e:j8 ρ f l=(do let d<-hP (ρ f) #[.func (.yield l) #[] #[]];q5 d.target d.args):=by grind[j8,resolve]
 have b:j8 ρ' f l'=(do let d<-hP (ρ' f) #[.func (.yield l') #[] #[]];q5 d.target d.args):=by grind[j8,resolve]
 rw[e,b];exact RU a.d (h f c) (AV.c (VR.f g (AV.e _) (AV.e _)))
theorem abE{Q fn d ps a b o u f p}(h:(eo fn d ps a b o).run Q u= .ok p f):∀x∈p.2,∃r,hY x=hQ r:=by cases o with|none=>have:(eo fn d ps a b none).run Q u= .ok (_,_) _:=rfl;rw[this]at h;cases h;intro x c;simp at c;subst c;exact⟨_,rfl⟩|some l=>unfold eo at h;change(fz (nf l) _).run Q u=_ at h;rw[Rs.ru]at h;cases e:(nf l).run Q u with|halt x v=>grind|ok r v=>rw[e]at h;cases h;simp
def Be(s:hq α)(f:α->hq s5):=s.bind λ a=>(f a).bind λ n=> .pure (a,n)
theorem J8(P)(s)(f:α->hq s5)(w):(Be s f).runT P w #[]=match s.runT P w #[]with| (.halt h w1,b)=>(.halt h w1,b)| (.ok a w1,b)=>match(f a).runT P w1 #[]with| (.ok n w2,c)=>(.ok (a,n) w2,b++c)| (.halt h w2,c)=>(.halt h w2,b++c):=by grind[Be,agT,runT,fV]
theorem abq(R:C.a)(ah:X.b){dP i A l m H I G L c o cs cs' m1 m2}(aG:cw F β v w)(ax:Hd v) {a b} (h:GS C X β ⟨dP,i,.code (.rangeFunc f ps a b)::l,H,.run,G,c⟩ cs ⟨dP,A,.code (.rangeFunc f ps a b)::m,I,.run,L,o⟩ cs') {k k'} {d ad} (g:GF C β k k' d ad ⟨dP,i,.code (.rangeFunc f ps a b)::l,H,.run,G,c⟩ ⟨dP,A,.code (.rangeFunc f ps a b)::m,I,.run,L,o⟩) (aH:TL C β k k' l m) (ay:∀Q J ag,GF C Q k k' d ad J ag->J.roundOf=c->J.kind=G->J.fn=dP->(c≠none->J.mode= .run)->bF β Q->GS C X Q J cs ag cs') (K:cK C.Q C.P C.n (.rangeFunc f ps a b)=true):oS C X F β v w (gb C.Q m1 (G0 ⟨dP,i,.code (.rangeFunc f ps a b)::l,H,.run,G,c⟩ cs)) (gb C.P m2 (G0 ⟨dP,A,.code (.rangeFunc f ps a b)::m,I,.run,L,o⟩ cs') w):=by
 simp[cK,eg]at K;let j:Nat×List hB->Frame:=λ p=> ⟨dP,i,.inRangeFunc p.1::l,p.2++H,.run,G,c⟩;let B:Nat×List hB->Frame:=λ p=> ⟨dP,A,.inRangeFunc p.1::m,p.2++I,.run,L,o⟩;have ao:∀u,gb C.Q m1 (G0 ⟨dP,i,.code (.rangeFunc f ps a b)::l,H,.run,G,c⟩ cs) u=ep (vi C.Q dP ((eo dP i ps a b c).runT C.Q u #[]).2) (match((eo dP i ps a b c).runT C.Q u #[]).1 with| .ok p u=>eL C.Q true (j p) cs none (j8 (j p).eval f p.1) u| .halt _ u=> .ended (.stuck "range over a function: no such loop" (B2 C.Q ⟨dP,i,.code (.rangeFunc f ps a b)::l,H,.run,G,c⟩)) u):=λ u=>by simp only[gb,fR];generalize (eo dP i ps a b c).runT C.Q u #[]=r;have⟨r,es⟩:=r;cases r with|ok p u=>rfl|halt x u=>rfl
 have aQ:∀u,gb C.P m2 (G0 ⟨dP,A,.code (.rangeFunc f ps a b)::m,I,.run,L,o⟩ cs') u=ep (vi C.P dP ((eo dP A ps a b o).runT C.P u #[]).2) (match((eo dP A ps a b o).runT C.P u #[]).1 with| .ok p u=>eL C.P true (B p) cs' none (j8 (B p).eval f p.1) u| .halt _ u=> .ended (.stuck "range over a function: no such loop" (B2 C.P ⟨dP,A,.code (.rangeFunc f ps a b)::m,I,.run,L,o⟩)) u):=λ u=>by simp only[gb,fR];generalize (eo dP A ps a b o).runT C.P u #[]=r;have⟨r,es⟩:=r;cases r with|ok p u=>rfl|halt x u=>rfl
 have ar:RS F C.Q C.P (λβ(x y:(Nat×List hB)×s5)=>(β x.1.1 y.1.1/\DL β x.1.2 y.1.2/\(∀z∈x.1.2,∃r,hY z=hQ r))/\XR (pq C.P C.c C.b) β x.2 y.2) β (Be (eo dP i ps a b c) λ p=>j8 (j p).eval f p.1) (Be (eo dP A ps a b o) λ p=>j8 (B p).eval f p.1):=by refine RS.c (afa dP g.b ps a b g.c ((R.a a).trans K.1.2) ((R.a b).trans K.2)) λa0 p p' az hp=>?_;have⟨al,aB,aC⟩:=hp;refine RS.c (UQ R (ρ:=(j p).eval) (ρ':=(B p').eval) (jj.c (fr:=j p) (fr':=B p') (g.b.a az)) K.1.1 al (λ _=>rfl) (λ _=>rfl)) λQ n aI aj aA=>?_;exact .ak ⟨⟨aj _ _ al,aB.a aj,aC⟩,aA⟩
 have ai:=h.e ah.b;have⟨dd,t,q⟩:=ar.b aG ax;obtain q| ⟨⟨p,n⟩,v2,⟨p',aI⟩,w2,aS,Q,N,⟨⟨aJ,aK,aX⟩,aL⟩,aM,aN,O,am,aW⟩:=q
 refine⟨dd,t,.inl λ T D U=>?_⟩;obtain⟨x,v2,es,M,av,aw⟩:=q T D U;show yP X (gb _ _ _ _);rw[ao];rw[J8]at M;have Y:=λ p aO(h:(eo dP i ps a b c).run C.Q (v.tp T D)= .ok p aO)=>abE h;rw[<-n1 C.Q _ _ #[]]at Y;generalize (eo dP i ps a b c).runT C.Q (v.tp T D) #[]=Z at M Y⊢;obtain⟨Z,ae⟩:=Z;cases Z with
 |halt x v1=>exact .inl ⟨_,_,_,rfl⟩
 |ok p v1=>
  simp only at M⊢;generalize aE:(j8 (j p).eval f p.1).runT C.Q v1 #[]=ab at M;obtain⟨ab,af⟩:=ab;cases ab with
  |ok n v2=>grind
  |halt aZ aY=>
   simp only[Prod.mk.injEq,Result.halt.injEq]at M;obtain⟨⟨rfl,rfl⟩,_⟩:=M;exact Xt (Lc av aw (ai.b (fr2:=j p) λ x E=>(vo.1 E).elim (Y p _ rfl x) (ai.a x)) _ aE)
 have V:GS C X Q (j p) cs (B p') cs':=by
  refine ay _ _ _ ⟨rfl,g.b.a O.b,(aH.b O.b).a (x:= .inRangeFunc _) (y:= .inRangeFunc _) aJ,?_,trivial,g.e,g.c.a O.b⟩ rfl rfl rfl (λ _=>rfl) O.b;obtain⟨dd,an,aP,c2,c3,c4⟩:=g.a;refine⟨p.2++dd,p'.2++an,?_,?_,aK.b (c3.a O.b),by grind⟩
  all_goals grind
 rw[J8]at N;generalize aT:(eo dP A ps a b o).runT C.P w #[]=aa at N;obtain⟨aa,ap⟩:=aa;cases aa with
 |halt x w1=>grind
 |ok S w1=>
  simp only at N;generalize aF:(j8 (B S).eval f S.1).runT C.P w1 #[]=ac at N;obtain⟨ac,aR⟩:=ac;cases ac with
  |halt x w3=>grind
  |ok n0 w3=>
   simp only[Prod.mk.injEq,Result.ok.injEq]at N;obtain⟨⟨⟨rfl,rfl⟩,rfl⟩,rfl⟩:=N;have dec:∀T D,gy dd t T D->∃P ae af,(eo dP i ps a b c).runT C.Q (v.tp T D) #[]=(.ok p P,ae)/\(j8 (j p).eval f p.1).runT C.Q P #[]=(.ok n (v2.tp T (D+dd)),af):=λ T D U=>by
    grind[J8,eo,runT,j8,Prod.mk.injEq,Result.ok.injEq]
   let uL:ea->World:=λ u=>match((eo dP i ps a b c).runT C.Q u #[]).1 with| .ok _ P=>P| .halt _ P=>P
   let esL:ea->Array Event:=λ u=>vi C.Q dP ((eo dP i ps a b c).runT C.Q u #[]).2
   refine Oz (X:=X) (d:=dd) (t:=t) (frL:=j p) (frR:=B S) (cs:=cs) (cs':=cs') (uw:=w1) (uL:=uL) (esL:=esL) (s:=j8 (j p).eval f p.1) (s':=j8 (B S).eval f S.1) (λ T D U=>?_) aF aL aM aN O (λ e W=>am e (kq.2 (.inr W))) (vi C.P dP ap) (qv λ e W=>am e (kq.2 (.inl W))) (by grind) (by grind)
    (λ x y E=>V.a ah rfl E) (λ f xs ys aq E=>Ff R V rfl aq E) (λ aU aV f xs ys a b aD E au K=>G2 R V rfl aD E au K) (λ T D U=>?_) ?_
   all_goals grind
theorem ado(M:C.a)(U:X.b){fr fr' cs cs' m1 m2}(R:cw F β v w)(Q:Hd v)(h:GS C X β fr cs fr' cs')(au:¬jU X fr cs)(ab:fr.mode= .run):oS C X F β v w (gb C.Q m1 (G0 fr cs)) (gb C.P m2 (G0 fr' cs') w):=by
 have ai:=aam (m1:=m1) (m2:=m2) M U R Q h au ab;have aa:=h.e U.b;have⟨k,k',d,aV,g,ar,aF,aG,aY,aZ,a0,ah⟩:=h.d U au;have ax:=g.f.c ab;have aw:=g.h;have⟨dP,j,a5,r,a2,A,B⟩:=fr;have⟨aX,n,a6,E,a3,G,H⟩:=fr';simp at ab ax aw;subst ab ax aw;obtain⟨J,N⟩| ⟨x,l,y,m,J,N,Y,z⟩:=g.g.d
 obtain⟨rfl,rfl⟩:=aF rfl J;simp only at J N;subst J N;exact ai none (by simp);simp only at J N;subst J N;have O:∀ad ae,TL C β k k' ad ae->∀{an:ea->o7}{s':o7},(∀T D,an (v.tp T D)= .go (G0 ⟨dP,j,ad,r,.run,A,B⟩ cs) (v.tp T D))->s'= .go (G0 ⟨dP,n,ae,E,.run,G,H⟩ cs') w->oS C X F β v w an s':=λ ad ae az an s' Z am=>
  HB R Q (ah β ⟨dP,j,ad,r,.run,A,B⟩ ⟨dP,n,ae,E,.run,G,H⟩ ⟨rfl,g.b,az,g.a,trivial,g.e,g.c⟩ rfl rfl rfl (λ _=>rfl) (bF.b _)) Z am
 have aq:jj β (o9 ⟨dP,j,x::l,r,.run,A,B⟩) (o9 ⟨dP,n,y::m,E,.run,G,H⟩):=jj.c g.b;cases x<;>cases y<;>first|exact Y.elim|skip
 case inBlock.inBlock i al=>exact O l m z (λ _ _=>rfl) rfl
 case inLoop.inLoop b aU=>
  obtain⟨rfl,e⟩:=Y;exact O _ _ ((z.a (x:= .inLoop b) (y:= .inLoop b) ⟨rfl,e⟩).a (x:= .code b) (y:= .code b) ⟨rfl,e⟩) (λ _ _=>rfl) rfl
 case inRangeFunc.inRangeFunc i al=>exact vh λ T D=> ⟨_,_,_,by simp only[gb,fR];rfl⟩
 case beginRound.beginRound=>
  have ay:=g.c;cases B with
  |none=>
   refine vh λ T D=>?_;simp only[gb,fR,eL,lL];have:∀(u:ea),((do iA "beginRound: no round";eV u2:hq s5)).runT C.Q u #[]=(.halt (.stuck "beginRound: no round") u,#[]):=λ u=>rfl;simp only[this,if_true,ep];exact⟨_,_,_,rfl⟩
  |some q=>
   cases H with
   |none=>exact ay.elim
   |some q'=>
    have aK:RS F C.Q C.P (XR (pq C.P C.c C.b)) β (do l1 q;eV u2) (do l1 q';eV u2):=CL (XL ay);exact PC (X:=X) (frL:= ⟨dP,j,.beginRound::l,r,.run,A,some q⟩) (frR:= ⟨dP,n,.beginRound::m,E,.run,G,some q'⟩) (cs:=cs) (cs':=cs') aK R Q aa (by simp) (by simp)
     (λI x y K L=>(h.b K).a U rfl L) (λI f xs ys K af L=>Ff M (h.b K) rfl af L) (λI aL aM f xs ys a b K ak L ag e=>G2 M (h.b K) rfl ak L ag e)
 case endRangeFunc.endRangeFunc i al=>
  obtain⟨dd,t,q⟩:=(afj (F:=F) (P:=C.P) (fs:=C.c) (β:=β) (l:=i) (l':=al) Y).b R Q;refine⟨dd,t,?_⟩;rcases q with q| ⟨a,v2,a',w2,aW,I,am,⟨rfl,aO⟩,aP,aQ,S,aR,aS⟩;refine .inl λ T D V=>?_;obtain⟨x,v2,es,Z,a1,aH⟩:=q T D V;simp only[gb,fR,Z];cases x with
  |panic p=>
   obtain⟨aC,W⟩:=vN ⟨dP,j,.endRangeFunc i::l,r,.run,A,B⟩ [{v:=p,recovered:=false}];exact .inr ⟨_,_,_,_,aC,rfl,W,aH,aa.b (by rw[Dg];exact aa.a)⟩
  |_=>exact .inl ⟨_,_,_,rfl⟩
  refine .inr ⟨_,_,v2,I,_,_,w2,_,λ T D V=>?_,by simp only[gb,fR,am,ep];rfl,
   .inl (ah I ⟨dP,j,(a.map K0).toList++l,r,.run,A,B⟩ ⟨dP,n,(a.map K0).toList++m,E,.run,G,H⟩ ⟨rfl,g.b.a S.b,?_,(g.j S.b).a,trivial,g.e,g.c.a S.b⟩ rfl rfl rfl (λ _=>rfl) S.b),aP,aQ,S,?_⟩
  obtain⟨es,Z⟩:=aS T D V;exact⟨_,by simp only[gb,fR,Z,ep];rfl⟩;cases a with
  |none=>exact z.b S.b
  |some c=>exact(z.b S.b).a (x:= .code c) (y:= .code c) ⟨rfl,(M.a c).symm.trans (aO c rfl)⟩
  rw[gE];exact qv aR
 case inRegion.inRegion ops q a4 q'=>
  obtain⟨rfl,rfl,e⟩:=Y;cases q with
  |nil=>exact O l m z (λ _ _=>rfl) rfl
  |cons i q=>
   have hp:na (Item.inRegion ops (i::q)::l)=true:=rfl;have av:∀I x y,bF β I->VR I x y->GS C X I (hz ⟨dP,j,.inRegion ops (i::q)::l,r,.run,A,B⟩ x) cs (hz ⟨dP,n,.inRegion ops (i::q)::m,E,.run,G,H⟩ y) cs':=
    λI x y K L=>(h.b K).a U hp L
   have aB:=aeq g.b ops;simp only at aB;have ao:∀u,gb C.Q m1 (G0 ⟨dP,j,.inRegion ops (i::q)::l,r,.run,A,B⟩ cs) u=if((ops[i]?).map (pz · (qW ops j))).getD false then k7 C.Q true ⟨dP,j,.inRegion ops (i::q)::l,r,.run,A,B⟩ cs none u else .go (G0 (hz ⟨dP,j,.inRegion ops (i::q)::l,r,.run,A,B⟩ hF) cs) u:=λ u=>rfl;have ap:∀u,gb C.P m2 (G0 ⟨dP,n,.inRegion ops (i::q)::m,E,.run,G,H⟩ cs') u=if((ops[i]?).map (pz · (qW ops n))).getD false then k7 C.P true ⟨dP,n,.inRegion ops (i::q)::m,E,.run,G,H⟩ cs' none u else .go (G0 (hz ⟨dP,n,.inRegion ops (i::q)::m,E,.run,G,H⟩ hF) cs') u:=λ u=>rfl;rw[funext ao,ap,aB];generalize ((ops[i]?).map (pz · (qW ops n))).getD false=aT;cases aT with
   |false=>
    simp only[fl,if_false];exact HB R Q (av β hF hF (bF.b _) (VR.c _)) (λ _ _=>rfl) rfl
   |true=>
    simp only[if_true];cases ac:ops[i]? with
    |none=>
     refine vh λ T D=>?_;unfold k7;simp only[q6,ac];exact⟨_,_,_,rfl⟩
    |some o=>
     have aj:dV C.Q C.P C.n o.op=true:=by
      rw[gf]at e;exact e o (Array.mem_of_getElem? ac)
     have J:∀u,k7 C.Q true ⟨dP,j,.inRegion ops (i::q)::l,r,.run,A,B⟩ cs none u=_:=λ u=>TF C.Q (o:=o) (by simp[q6,ac]) (MI aj);have N:∀u,k7 C.P true ⟨dP,n,.inRegion ops (i::q)::m,E,.run,G,H⟩ cs' none u=_:=λ u=>TF C.P (o:=o) (by simp[q6,ac]) (MI aj);simp only[J,N];exact PC (Xg M.c M.e M.d o aj aq (λ _=>rfl) (λ _=>rfl)) R Q aa (by simp) (by simp) av (λI f xs ys K af L=>Ff M (h.b K) hp af L) (λI aL aM f xs ys a b K ak L ag e=>G2 M (h.b K) hp ak L ag e)
 case code.code c c'=>
  obtain⟨rfl,e⟩:=Y;cases c with
  |skip=>exact O l m z (λ _ _=>rfl) rfl
  |ret=>exact ai (some .ret) (by simp[cK])
  |refuse s=>exact vh λ T D=> ⟨_,_,_,rfl⟩
  |scope b=>simp[cK]at e
  |label i=>simp[cK]at e
  |goto i=>simp[cK]at e
  |seq a b=>
   simp only[cK,eg]at e;exact O _ _ ((z.a (x:= .code b) (y:= .code b) ⟨rfl,e.2⟩).a (x:= .code a) (y:= .code a) ⟨rfl,e.1⟩) (λ _ _=>rfl) rfl
  |block i b=>
   simp only[cK]at e;exact O _ _ ((z.a (x:= .inBlock i) (y:= .inBlock i) rfl).a (x:= .code b) (y:= .code b) ⟨rfl,e⟩) (λ _ _=>rfl) rfl
  |loop b=>
   simp only[cK]at e;exact O _ _ ((z.a (x:= .inLoop b) (y:= .inLoop b) ⟨rfl,e⟩).a (x:= .code b) (y:= .code b) ⟨rfl,e⟩) (λ _ _=>rfl) rfl
  |cond c a b=>
   simp only[cK,eg]at e;have W:=aq c e.1.1;cases aA:o9 ⟨dP,j,.code (.cond c a b)::l,r,.run,A,B⟩ c with
   |bool t=>
    rw[aA]at W;cases aI:o9 ⟨dP,n,.code (.cond c a b)::m,E,.run,G,H⟩ c<;>rw[aI]at W<;>cases W
    cases t with
    |true=>exact O _ _ (z.a (x:= .code a) (y:= .code a) ⟨rfl,e.1.2⟩) (λ _ _=>by simp only[gb,fR,aA,if_true]) (by grind[gb,fR])
    |false=>exact O _ _ (z.a (x:= .code b) (y:= .code b) ⟨rfl,e.2⟩) (λ _ _=>by grind[gb,fR,fl]) (by grind[gb,fR,fl])
   |_=>grind[vh,gb,fR]
  |exit id=>
   rcases z.e aG id with⟨l',J,m',N,az⟩| ⟨J,N⟩
   grind[gb,fR]
   rcases ar with ar| ⟨_,aJ⟩;simp_all[vh,gb,fR,lL];have:=ai (some (.exit id)) (by grind);unfold xb at this;have ao:∀u,gb C.Q m1 (G0 ⟨dP,j,.code (.exit id)::l,r,.run,A,B⟩ cs) u=xb C.Q m1 ⟨dP,j,.code (.exit id)::l,r,.run,A,B⟩ cs u (some (.exit id)):=λ u=>by
    simp only[gb,fR,J,lL];rfl
   have ap:gb C.P m2 (G0 ⟨dP,n,.code (.exit id)::m,E,.run,G,H⟩ cs') w=xb C.P m2 ⟨dP,n,.code (.exit id)::m,E,.run,G,H⟩ cs' w (some (.exit id)):=by
    simp only[gb,fR,N aJ,lL];rfl
   grind
  |region id ops aD=>
   cases aD with
   |false=>exact O _ _ (z.a (x:= .inRegion _ _) (y:= .inRegion _ _) ⟨rfl,rfl,e⟩) (λ _ _=>rfl) rfl
   |true=>
    have aN:(Question.order dP id).forced=false:=rfl;refine⟨1,λ _=>w.tape w.drawn,.inr ⟨⟨dP,j,.inRegion ops (s8 (C.P.follows .mixedOrders) ops (w.tape w.drawn (.order dP id)))::l,r,.run,A,B⟩,cs,v,β,⟨dP,n,.inRegion ops (s8 (C.P.follows .mixedOrders) ops (w.tape w.drawn (.order dP id)))::m,E,.run,G,H⟩,cs',{w with drawn:=w.drawn+1},#[],λ T D V=>?_,?_,.inl (ah β _ _ ⟨rfl,g.b,z.a (x:= .inRegion ops _) (y:= .inRegion ops _) ⟨rfl,rfl,e⟩,g.a,trivial,g.e,g.c⟩ rfl rfl rfl (λ _=>rfl) (bF.b _)),R.g rfl rfl,Q,.i rfl rfl rfl rfl rfl,by simp⟩⟩;have aE:T D=w.tape w.drawn:=by simpa using V 0 (by omega)
    simp only[gb,fR,x9,fH,aN,Bool.not_true,fl,if_false,World.tp,aE];exact⟨_,rfl⟩;rfl
  |rangeFunc f ps a b=>exact abq M U R Q h g z (by omega) e
end
end
section
variable[aW][ck][Gl]
section
variable{F:Nat->Bool}{C:dC}{X:cS}{β:ah}{v w:ea}
variable {P:ef} {fs:Array k4}
theorem afW{x c}(h:VR β x c):RS F (lp P fs) P AR β (mH x) (mH c):=by cases h with
 |dc b=>rename_i a a';cases a<;>cases a'<;>first|exact b.elim|exact aN|exact .ak b|exact .gp (nE .nilDeref)
 |_=>exact aN
theorem Lz{b:Type}{f f'}:∀(l:List b){β:ah},(∀i a,bF β a->RS F (lp P fs) P VR a (f i) (f' i))->RS F (lp P fs) P LV β (l.mapM f) (l.mapM f')
 | [],β,_=>by exact .ak trivial|i::l,β,h=>by simp[pv];refine bK (h i _ (bF.b _)) λn x k c g=>bK (Lz l λ i a e=>h i _ (c.a e)) λo y m d j=> .ak ⟨g.a d,j⟩
theorem Vu(fn){xs ys}(h:AV β xs ys):RS F (lp P fs) P VR β (nz fn xs) (nz fn ys):=by
 unfold nz;rw[hS,hS];have key:∀(i:ResultVar) f,bF β f->RS F (lp P fs) P VR f (match i with| .tmp t=>eV (xs.getD t hF)| .cell a t=>do sv t (<-mH (xs.getD a hF))) (match i with| .tmp t=>eV (ys.getD t hF)| .cell a t=>do sv t (<-mH (ys.getD a hF))):=by intro i f c;cases i with|tmp t=>exact .ak ((h.a c).k t (VR.c _))|cell a t=>exact bK (afW ((h.a c).k a (VR.c _))) λg p p' _ hp=>QA t hp
 refine bK (bK (Lz fn.results.toList key) λg l l' j c=> .ak (A:=λβ(a b:Array b2)=>AV β a b) c.e) λg l l' j c=>?_;by_cases e:l.size=1
 have d:l'.size=1:=c.1▸e;rw[dif_pos e,dif_pos d];exact .ak (c.2 0 _ _ (by grind) (by grind));have d:¬l'.size=1:=c.1▸e;rw[dif_neg e,dif_neg d];exact .ak (VR.b c)
theorem Wr(am:C.a)(I:X.b){fr fr' cs cs'}{m1 m2:Bool}(Q:cw F β v w)(J:Hd v)(h:GS C X β fr cs fr' cs')(Y:¬jU X fr cs)(r:fr.mode= .returning):
 oS C X F β v w (gb C.Q m1 (G0 fr cs)) (gb C.P m2 (G0 fr' cs') w):=by
 have⟨k,k',d,S,g,ax,ay,az,aA,V,W,aa⟩:=h.d I Y;have N:=g.f.a r;have L:=g.h;have M:=g.e;have⟨dP,ah,aj,au,aD,y,R⟩:=fr;have⟨aw,ai,ak,av,aE,aC,af⟩:=fr';simp at r N L M;subst r N L M;show oS C X F _ v w (λ u=>nL _ _ _ _ _ u) (nL _ _ _ _ _ w);have⟨dd,e,i,c2,c3,c4⟩:=g.a;cases dd with
 |cons x dd=>
  cases e with
  |nil=>trivial
  |cons al e=>
   have⟨q,O⟩:=c4 x (by simp);have⟨aF,an⟩:=x;have⟨ag,ao⟩:=al;simp at O;subst O;have K:=c3.1.1;cases ag<;>first|exact K.elim|skip
   rename_i q';subst i c2;have⟨n,t,z⟩:=(adb (F:=F) (P:=C.P) (fs:=C.c) (β:=β) (l:=q) (l':=q') K).b Q J;refine⟨n,t,?_⟩;simp only[nL,oh];obtain z| ⟨a,v2,a',w2,U,p,o,⟨rfl,rfl⟩,A,B,b,E,ae⟩:=z
   refine .inl λ T D f=>?_;obtain⟨x,v2,es,m,_,_⟩:=z T D f;exact .inl ⟨_,_,_,by simp only[m,ep];rfl⟩;refine .inr ⟨⟨dP,ah,aj,dd++d,.returning,y,R⟩,cs,v2,p,⟨dP,ai,ak,e++S,.returning,y,af⟩,cs',w2,_,λ T D f=>?_,by simp only[o,ep,vE];rfl,
    .inl (aa p _ _ ⟨rfl,g.b.a b.b,g.g.b b.b,⟨dd,e,rfl,rfl,c3.2.a b.b,λ x aB=>c4 x (by grind)⟩,trivial,rfl,g.c.a b.b⟩ rfl rfl rfl (λ j=>?_) b.b),A,B,b,?_⟩
   simp_all[ep,vE];exact absurd ((W j).1.2.2 j) (by simp);exact qv E
 |nil=>
  cases e with
  |cons _ _=>trivial
  |nil=>
   obtain⟨rfl,rfl,s,c,ap,c',aq,rfl,rfl,hp,Z⟩:=V rfl i;simp[List.append_nil]at i c2;subst i c2;have ab:y= .normal:=s.1;subst ab;have ac:R=none:=kV λ j=>by
    have:=s.2.2 j;trivial
   have⟨fn,G,H⟩:=s.2.1 ac;simp at G H;have⟨n,t,z⟩:=(Vu (F:=F) (P:=C.P) (fs:=C.c) fn g.b).b Q J;refine⟨n,t,?_⟩;simp only[nL,G,H];obtain z| ⟨a,v2,a',w2,U,p,o,ad,A,B,b,E,ae⟩:=z
   refine .inl λ T D f=>?_;obtain⟨x,v2,es,m,_,_⟩:=z T D f;simp only at m;rw[m];cases x<;>exact .inl ⟨_,_,_,rfl⟩
   simp only at o;refine .inr ⟨_,_,v2,p,_,_,w2,_,λ T D f=>?_,by simp only[o,o8,ep];rfl,.inl ((Z.b b.b).a I hp ad),A,B,b,?_⟩;simp_all[o8,ep];exact qv E
theorem JY(b:C.a)(d:X.b){fr fr' cs cs'}(m1 m2)(i:cw F β v w)(f:Hd v)(h:GS C X β fr cs fr' cs')(c:¬jU X fr cs):oS C X F β v w (gb C.Q m1 (G0 fr cs)) (gb C.P m2 (G0 fr' cs') w):=by
 have a:MR fr.mode fr'.mode:=by cases h with|jE g _=>exact g.f|up g _ _ _=>exact g.f
 obtain⟨e,_⟩| ⟨e,_⟩:=a.b;all_goals simp_all[ado,Wr]
end
end
section
variable {P:ef} {fs:Array k4} {n:Nat} {G G':Gl}
theorem abD(t):(lp P fs).info? t=P.info? t:=rfl
theorem xC(t):(lp P fs).underlying t=P.underlying t:=rfl
theorem ae6(t):(lp P fs).underlyingId t=P.underlyingId t:=rfl
theorem IL:(lp P fs).depth=P.depth:=rfl
theorem Mf:∀n t u,(lp P fs).alikeButTags n t u=P.alikeButTags n t u|0,t,u=>by rfl|n+1,t,u=>by have e:∀t u,(lp P fs).alikeButTags n t u=P.alikeButTags n t u:=Mf n;simp_all[Program.alikeButTags,abD,xC]
theorem ahY(t):(lp P fs).stoodInAs t=P.stoodInAs t:=by grind[Program.stoodInAs,Mf,ae6,xC,IL]
theorem Rp(t):(lp P fs).stoodInHeld t=P.stoodInHeld t:=by grind[Program.stoodInHeld,ahY]
theorem Jf:∀n t,(lp P fs).eqGuardType n t=P.eqGuardType n t|0,t=>by rfl|n+1,t=>by have e:∀t,(lp P fs).eqGuardType n t=P.eqGuardType n t:=Jf n;grind[Program.eqGuardType,xC]
theorem FB:∀n t,ik (lp P fs) P n t=ik P P n t|0,t=>rfl|n+1,t=>by have e:∀t,ik (lp P fs) P n t=ik P P n t:=FB n;grind[ik,Rp]
theorem agv(op)(t):qh (lp P fs) P n op t=qh P P n op t:=by simp_all[qh,FB,Jf,IL]
theorem afK(t):nq (lp P fs) P n t=nq P P n t:=by grind[nq,FB]
theorem GV[ck][Gl](o):dV (lp P fs) P n o=dV P P n o:=by simp_all[dV,agv,afK]
theorem jG[ck][Gl]:∀c,cK (lp P fs) P n c=cK P P n c| .skip| .exit _| .ret| .refuse _=>by rfl| .region _ ops _=>by grind[cK,GV]| .seq a b=>by simp[cK,jG a,jG b]| .cond c a b=>by simp[cK,jG a,jG b]| .block _ b| .loop b=>by simp[cK,jG b]| .rangeFunc f _ a b=>by simp[cK,jG a,jG b]| .scope _| .label _| .goto _=>by rfl
theorem Gj:∀n t,ik (lp P fs) (lp P fs) n t=ik P P n t|0,t=>rfl|n+1,t=>by have e:∀t,ik (lp P fs) (lp P fs) n t=ik P P n t:=Gj n;grind[ik,Rp,xC]
theorem aeL(op)(t):qh (lp P fs) (lp P fs) n op t=qh P P n op t:=by simp_all[qh,Gj,Jf,IL,xC]
theorem ait(t):nq (lp P fs) (lp P fs) n t=nq P P n t:=by grind[nq,Gj,xC]
theorem Vd(s d):yH (lp P fs) s d=yH P s d:=by rfl
theorem ajk(b)(l):xv (lp P fs) b l=xv P b l:=by rfl
theorem M8[ck][Gl](o):dV (lp P fs) (lp P fs) n o=dV P P n o:=by simp_all[dV,aeL,ait,Vd,ajk]
theorem oY[ck][Gl]:∀c,cK (lp P fs) (lp P fs) n c=cK P P n c| .skip| .exit _| .ret| .refuse _=>by rfl| .region _ ops _=>by grind[cK,M8]| .seq a b=>by simp[cK,oY a,oY b]| .cond c a b=>by simp[cK,oY a,oY b]| .block _ b| .loop b=>by simp[cK,oY b]| .rangeFunc f _ a b=>by simp[cK,oY a,oY b]| .scope _| .label _| .goto _=>by rfl
theorem HF[ck](h:∀g,G.a g=true->G'.a g=true)(o)(a: @dq _ G o=true): @dq _ G' o=true:=by cases o<;>first|exact a|exact h _ a
theorem aay[ck](h:∀g,G.a g=true->G'.a g=true){Q}(o)(d: @dV _ G Q P n o=true): @dV _ G' Q P n o=true:=by
 have m:=HF h;have e:∀xs:Array gw,xs.all (@dq _ G)=true->xs.all (@dq _ G')=true:=λ xs i=>by grind
 have q:∀x:Option gw,x.all (@dq _ G)=true->x.all (@dq _ G')=true:=λ x i=>by cases x with|none=>rfl|some a=>grind
 have mp:∀xs:Array (Nat×gw),(xs.all λ p=> @dq _ G p.2)=true->(xs.all λ p=> @dq _ G' p.2)=true:=λ xs i=>by grind
 cases o;case call c=>have⟨callee,args,j⟩:=c;cases callee with|value f=>cases f<;>(simp only[dV,eg]at d⊢;first|exact⟨d.1,e _ d.2⟩|exact⟨m _ d.1,e _ d.2⟩)|builtin b=>grind[dV]|invoke _ _=>trivial
 case makeFunc fn first k=>cases fn<;>first|exact d| (simp only[dV,eg]at d⊢;exact⟨⟨d.1.1,e _ d.1.2⟩,e _ d.2⟩)
 case slice t x lo l s=>grind[dV]
 case makeMap t r=>cases r<;>exact d
 all_goals first|exact d|exact m _ d|exact mp _ d| (
   simp[dV,eg]at d⊢;first|exact⟨m _ d.1,m _ d.2⟩|exact⟨⟨m _ d.1.1,m _ d.1.2⟩,m _ d.2⟩|exact⟨⟨m _ d.1.1,m _ d.1.2⟩,d.2⟩|exact⟨m _ d.1,d.2⟩|exact⟨⟨⟨m _ d.1.1.1,m _ d.1.1.2⟩,m _ d.1.2⟩,d.2⟩)
theorem sU[ck](h:∀g,G.a g=true->G'.a g=true){Q}:∀c,@cK _ G Q P n c=true-> @cK _ G' Q P n c=true| .skip,_| .exit _,_| .ret,_| .refuse _,_=>rfl| .region _ ops _,d=>by grind[cK,gf,aay]| .seq a b,d=>by simp[cK,eg]at d⊢;exact⟨sU h a d.1,sU h b d.2⟩| .cond c a b,d=>by simp[cK,eg]at d⊢;exact⟨⟨HF h c d.1.1,sU h a d.1.2⟩,sU h b d.2⟩| .block _ b,d| .loop b,d=>by exact sU h b d| .rangeFunc f _ a b,d=>by simp[cK,eg]at d⊢;exact⟨⟨HF h f d.1.1,sU h a d.1.2⟩,sU h b d.2⟩| .scope _,d| .label _,d| .goto _,d=>by trivial
end
section
variable[aW][ck][Gl]
section
variable{F:Nat->Bool}{P:ef}{fs:Array k4}{β:ah}
variable {xs ys:Array b2} {e:Array b2->hq b2}
theorem IQ{f fn}(h:fs[f]?=some fn)(a:P.funcs[f]?=some fn)(d:(fn.name== "runtime.NumGoroutine")=false)(b:fn.body.isNone=true) (h1:Extern.findNext fn=none) (h2:Extern.find fn=some e) (c:∀F β xs ys,AV β xs ys->RS F (lp P fs) P VR β (e xs) (e ys)):wa P fs f:=by intro F E β xs ys g;refine mc ?_;show RS F (lp P fs) P (XR E) β (match fs[f]? with|none=>_|some fn=>_) (match P.funcs[f]? with|none=>_|some fn=>_);rw[h,a];simp[d,b,h1,h2,fl,if_false,if_true];exact .vc (by grind) (fO (c F _ _ _ g))
theorem Kc:∀n{β:ah}{a a':hM}(b:ByteArray),AR β a a'->RS F (lp P fs) P cW β (lf a n b) (lf a' n b)
 |0,β,a,a',b,h=> .ak rfl|n+1,β,a,a',b,h=>by unfold lf;refine .ti h λ x d c=>?_;cases c with
  |cx k m=>cases k<;>first|exact aN|exact Kc n _ ⟨h.1,by show a.off+1=a'.off+1;rw[h.2.1],rfl⟩
  |_=>exact aN
theorem Cd{x b}(h:VR β x b):RS F (lp P fs) P cW β (o1 x) (o1 b):=by cases h with
 |eI s=>exact .ak rfl| @dz a a' d n c=>cases a with
  |none=>cases a' with|none=>exact .ak rfl|some _=>trivial
  |some a=>cases a' with|none=>trivial|some a'=>exact Kc n _ d
 |_=>exact aN
theorem O9{x a}(h:VR β x a):RS F (lp P fs) P cW β (pc x) (pc a):=by cases h with
 |cx k m=>cases k<;>first|exact aN|exact .ak rfl
 |_=>exact aN
theorem Jl(h:AV β xs ys):(∃a b a' d,xs= #[a,b]/\ys= #[a',d]/\VR β a a'/\VR β b d)\/(xs.toList.length≠2):=by
 have c:=h.g;have⟨l⟩:=xs;have⟨m⟩:=ys
 match l,m,c with
 | [a,b],[a',d],c=>exact .inl ⟨a,b,_,_,rfl,rfl,c.1,c.2.1⟩| [],_,_=>simp| [_],_,_=>simp|_::_::_::_,_,_=>simp
theorem JG(h3:∀a b c,∃why,∀l,e ⟨a::b::c::l⟩=iA why)(h1:∀a,∃why,e #[a]=iA why)(h0:∃why,e #[]=iA why)(d:xs.toList.length≠2):∃why,e xs=iA why:=by
 have⟨l⟩:=xs
 match l,d with
 | [],_=>omega| [a],_=>simp_all| [_,_],h=>trivial|a::b::c::l,_=>have⟨why,e⟩:=h3 a b c;grind
theorem YV(h:AV β xs ys):RS F (lp P fs) P VR β (j3 xs) (j3 ys):=by
 rcases Jl h with⟨a,b,a',j,rfl,rfl,d,f⟩|i
 refine bc (Cd d) λl s g=>?_;refine bc (O9 (f.a g)) λm c k=>?_;exact .ak (.cx _ _);obtain⟨why,e⟩:=JG (e:=j3) (λ _ _ _=> ⟨_,λ _=>rfl⟩) (λ _=> ⟨_,rfl⟩) ⟨_,rfl⟩ i
 grind[aN]
theorem aan(h:AV β xs ys):RS F (lp P fs) P VR β (hL xs) (hL ys):=by
 rcases Jl h with⟨a,b,a',k,rfl,rfl,d,f⟩|j
 refine bc (Cd d) λm s g=>?_;refine bc (O9 (f.a g)) λn c l=>?_;cases Dd (λ i=>s[i]! ==c) (D1 s.size)<;>exact .ak (.cx _ _)
 obtain⟨why,e⟩:=JG (e:=hL) (λ _ _ _=> ⟨_,λ _=>rfl⟩) (λ _=> ⟨_,rfl⟩) ⟨_,rfl⟩ j
 grind[aN]
theorem aex(c:∀g,g<P.globals.size->Gl.a g=true):RS F (lp P fs) P cW β mb Extern.BytealgIndex.maxLen:=by
 unfold mb;refine bK (A:=λβ a a'=>AR β a a') ?_ λi a a' f b=>?_
 refine mc ?_;show RS F (lp P fs) P (λβ a a'=>AR β a a') β (match P.globals.findIdx? (·.name== "internal/bytealg.MaxLen")with|some g=>eV (⟨g,0,none⟩:hM)|none=>iA ("the program has no variable " ++ "internal/bytealg.MaxLen")) (match P.globals.findIdx? (·.name== "internal/bytealg.MaxLen")with|some g=>eV (⟨g,0,none⟩:hM)|none=>iA ("the program has no variable " ++ "internal/bytealg.MaxLen"));cases d:P.globals.findIdx? _ with
 |none=>exact aN
 |some g=>exact .ak ⟨β.c g (c g (Array.findIdx?_eq_some_iff_getElem.1 d).1),rfl,rfl⟩
 refine .ti b λ x h e=>?_;cases e with
 |cx k m=>exact .ak rfl
 | @dc a a' b=>cases a<;>cases a'<;>first|exact b.elim|exact db|exact aN
 |_=>first|exact aN|exact db
theorem aby(l:∀g,g<P.globals.size->Gl.a g=true)(h:AV β xs ys):RS F (lp P fs) P VR β (kg xs) (kg ys):=by
 rcases Jl h with⟨a,b,a',o,rfl,rfl,f,j⟩|n
 refine bc (Cd f) λr s m=>?_;refine bc (Cd (j.a m)) λt c p=>?_;refine bc (aex l) λu k q=>?_;by_cases hp:(lk (c.size<2)||decide ((c.size:Int)>k))=true;simp only[hp,if_true];exact db;simp only[hp];by_cases d:s.size>=2^32- 15;simp only[d,if_true];exact db;simp only[d,if_false];cases Dd (λ i=>s.extract i (i+c.size)==c) (D1 (s.size+1- c.size))<;>exact .ak (.cx _ _)
 obtain⟨why,e⟩:=JG (e:=kg) (λ _ _ _=> ⟨_,λ _=>rfl⟩) (λ _=> ⟨_,rfl⟩) ⟨_,rfl⟩ n
 grind[aN]
end
end
section
variable {g:ej}
structure ai where
 a:Nat->Prop
 b:Nat->Prop
structure bO(p:ai)(w w':ea):Prop where
 b:w.heap.size<=w'.heap.size
 e:∀a,p.a a->w'.heap[a]?=w.heap[a]?
 i:w'.os=w.os
 f:w'.output=w.output
 h:w'.tape=w.tape
theorem bO.c(p)(w):bO p w w:= ⟨fu _,λ _ _=>rfl,rfl,rfl,rfl⟩
theorem bO.d{p a b c}(h:bO p a b)(k:bO p b c):bO p a c:= ⟨eQ h.b k.b,λ x d=>(k.e x d).trans (h.e x d),k.i.trans h.i,k.f.trans h.f,k.h.trans h.h⟩
def iF(p:ai)(e:hR):Prop:=match e.loc with| .cell a=>p.a a.block/\(e.write=true->p.b a.block)/\e.sync=false| .obj n=>p.a n/\(e.write=true->p.b n)/\e.sync=false| .mark m=>m= .noRoom\/∃f,m= .extern f|_=>False
structure ey(p p':ai)(w w':ea)(es:Array hR):Prop where
 b:w.heap.size<=w'.heap.size
 f:∀a,a<w.heap.size->¬p.b a->w'.heap[a]?=w.heap[a]?
 i:∀a,p'.a a->p.a a\/(w.heap.size<=a/\a<w'.heap.size)
 k:∀a,p'.b a->p.b a\/(w.heap.size<=a/\a<w'.heap.size)
 j:∀a,p.a a->p'.a a
 o:∀a,p.b a->p'.b a
 n:∀a,¬p.b a->p'.b a->p'.a a
 d:∀e∈es,iF p' e
 m:w'.os=w.os
 c:w'.output=w.output
 h:w'.tape=w.tape
inductive dI:Type where|eM|mk (f:ea->dI)
inductive dI.a:dI->dI->Prop|mk (f:ea->dI) (w:ea):dI.a (f w) (.mk f)
theorem dI.b:WellFounded dI.a:=by
 constructor;intro r
 induction r with|eM=>exact⟨_,λ y h=>by cases h⟩|mk f a=>exact⟨_,λ y h=>by cases h with|mk _ w=>grind⟩
def du(P:ef)(main:Bool)(Stop:ai->ej->ea->Prop):dI->ai->ej->ea->Prop| .eM,p,g,w=>∀w1,bO p w w1->Stop p g w1| .mk f,p,g,w=>(∀w1,bO p w w1->Stop p g w1)\/(g.status= .running/\∀w1,bO p w w1->∃g' w' es p',gb P main g w1= .go g' w' es/\g'.status= .running/\ey p p' w1 w' es/\du P main Stop (f w1) p' g' w')
section
variable{P:ef}{main:Bool}{Stop Stop':ai->ej->ea->Prop}
theorem du.i{r p w}(h:∀w1,bO p w w1->Stop p g w1):du P main Stop r p g w:=by cases r with|eM=>exact h|mk f=>exact .inl h
theorem du.c{r p w w1}(h:du P main Stop r p g w)(b:bO p w w1):du P main Stop r p g w1:=by cases r with|eM=>exact λ w2 a=>h _ (b.d a)|mk f=>
  obtain h| ⟨c,h⟩:=h
  exact .inl λ w2 a=>h _ (b.d a);exact .inr ⟨c,λ w2 a=>h _ (b.d a)⟩
theorem du.a(i:∀p g w,Stop p g w->Stop' p g w):∀{r:dI}{p:ai}{g:ej}{w:ea},du P main Stop r p g w->du P main Stop' r p g w| .eM,_,_,_,h=>λ w1 e=>i _ _ _ (h w1 e)| .mk f,_,_,_,h=>h.imp (λ h w1 e=>i _ _ _ (h w1 e)) λ⟨j,h⟩=> ⟨j,λ w1 e=>let⟨g',w',es,p',a,b,c,d⟩:=h w1 e; ⟨g',w',es,p',a,b,c,du.a i d⟩⟩
theorem du.b{p g w}(b:g.status= .running) (h:∀w1,bO p w w1->∃g' w' es p' r,gb P main g w1= .go g' w' es/\g'.status= .running/\ey p p' w1 w' es/\du P main Stop r p' g' w'):∃r,du P main Stop r p g w:=by classical
 let f:ea->dI:=λ w1=>if a:bO p w w1 then(h w1 a).choose_spec.choose_spec.choose_spec.choose_spec.choose else .eM;refine⟨.mk f,.inr ⟨b,λ w1 a=>?_⟩⟩;grind
theorem du.f:∀{r:dI}{p:ai}{g:ej}{w:ea},du P main Stop r p g w->(∀p g w,Stop p g w->∃r,du P main Stop' r p g w)->(∀p g w,Stop p g w->g.status= .running)->∃r,du P main Stop' r p g w:=by
 intro r;have one:∀{p:ai}{g:ej}{w:ea},(∀w1,bO p w w1->Stop p g w1)->(∀p g w,Stop p g w->∃r,du P main Stop' r p g w)->∃r,du P main Stop' r p g w:=λ h k=>k _ _ _ (h _ (bO.c _ _))
 induction r with|eM=>exact λ h k _=>one h k|mk f m=>
  intro p g w h k i;obtain h| ⟨l,h⟩:=h
  simp_all;refine du.b l λ w1 e=>?_;obtain⟨g',w',es,p',a,b,c,d⟩:=h w1 e;obtain⟨r,j⟩:=m w1 d k i;exact⟨g',w',es,p',r,a,b,c,j⟩
end
end
section
variable[aW][ck][Gl]
variable {Q:ef} {gr:ei} {cs:List ei} {v:ea} {X:cS}
def E9(X:cS)(gr:ei)(cs:List ei)(v:ea):=(∃a,gr.mode= .panicking a)/\Hd v/\(DS X gr cs\/(gr.defers= [{target:= .coroexit 0,args:= #[]}]/\cs= []))
theorem gG{s}(c:gb Q true (G0 gr cs) v=s):(∀o u es,s= .ended o u es->∃o u,qq Q (hN gr cs v)= .ended o u)/\(∀b a v2 es,s= .go (G0 b a) v2 es->qq Q (hN gr cs v)= .next (hN b a v2)):=by refine⟨λ o u es e=> ⟨o,u,step_lone_ended (by simp_all)⟩,λ b a v2 es e=>step_lone_go (by simp_all)⟩
theorem acm(C:X.b)(h:E9 X gr cs v):(∃o u,qq Q (hN gr cs v)= .ended o u)\/∃m b v2,qq Q (hN gr cs v)= .next (hN m b v2)/\E9 X m b v2:=by
 have⟨⟨d,y⟩,s,f⟩:=h;have⟨fn,i,j,p,H,kind,g⟩:=gr;simp at y;subst y;obtain f| ⟨f,rfl⟩:=f
 cases p with
 |cons x p=>
  obtain⟨r,z⟩:=f.a x (by simp);obtain⟨I,t⟩:=x;simp only at z;subst z;have e:gb Q true (G0 ⟨fn,i,j,{target:= .collected r,args:=t}::p,.panicking d,kind,g⟩ cs) v=nL Q true ⟨fn,i,j,{target:= .collected r,args:=t}::p,.panicking d,kind,g⟩ cs none v:=rfl;simp only[nL]at e;generalize E:(ih r).runT Q v #[]=q at e;obtain⟨q,es⟩:=q;cases q with
  |halt x u=>exact .inl ((gG e).1 _ _ _ rfl)
  |ok A u=>
   refine .inr ⟨_,_,_,(gG e).2 _ _ _ _ rfl,⟨_,rfl⟩,?_,.inl (f.b ?_)⟩
   all_goals
    have a:(ih r).run Q v= .ok A u:=by rw[<-n1 Q _ v #[],E]
    unfold ih at a;change(sE r _).run Q v=_ at a;simp only[fH]at a;cases k:v.heap[r]? with
    |none=>rw[k]at a;cases a
    |some o=>
     rw[k]at a;cases o<;>first| (cases a;done)|skip
     rename_i l;cases l with
     |none=>cases a
     |some l=>
      have D:=(s r _ k).1 l rfl;subst D;change(Sem.setObj r _ _).run Q v=_ at a;simp only[fH,k]at a;cases a
      first
       |exact s.d ⟨λ l e=>(by cases e),rfl⟩
       |exact λ x F=>f.a x (List.mem_cons_of_mem _ (by simpa using F))
 |nil=>
  have e:gb Q true (G0 ⟨fn,i,j,[],.panicking d,kind,g⟩ cs) v=nL Q true ⟨fn,i,j,[],.panicking d,kind,g⟩ cs none v:=rfl;simp only[nL]at e;split at e;exact .inl ((gG e).1 _ _ _ rfl);have up:∀c b,(DS X c b\/(c.defers= [{target:= .coroexit 0,args:= #[]}]/\b= []))->cs=c::b->(∃o u,qq Q (hN ⟨fn,i,j,[],.panicking d,kind,g⟩ cs v)= .ended o u)\/∃m b v2,qq Q (hN ⟨fn,i,j,[],.panicking d,kind,g⟩ cs v)= .next (hN m b v2)/\E9 X m b v2:=by
   intro c b n B;subst B;obtain⟨G,w⟩:=vN c d;refine .inr ⟨_,_,_,(gG e).2 _ _ _ _ rfl,⟨_,w⟩,s,n.imp (λ n=>n.b (by rw[Dg];exact n.a)) λ n=>by grind[Dg]⟩
  cases f with
  |yS _=>exact up _ _ (.inr ⟨rfl,rfl⟩) C.a
  |up _ w=>grind
 
 simp only at f;subst f;have e:gb Q true (G0 ⟨fn,i,j,[{target:= .coroexit 0,args:= #[]}],.panicking d,kind,g⟩ []) v= .coroswitch (G0 ⟨fn,i,j,[],.panicking d,kind,g⟩ []) 0 true v (vi Q fn #[]++ #[]):=rfl;left;rw[qq,stepT,move_lone];cases k:v.heap[0]? with
 |none=>simp_all[runT,hN,ng]
 |some o=>
  have:=(s 0 o k).2;cases o<;>first| (simp[runT,hN,ng,e,k];done)| (exfalso;cases this;done)
theorem J6(f:X.b):∀n{gr:ei}{cs:List ei}{v:ea},E9 X gr cs v->∀{a:ei}{b:List ei}{c:ea},ml Q n (hN gr cs v)= .next (hN a b c)->∃d,a.mode= .panicking d:=by
 intro n
 induction n with|zero=>
  intro gr cs v h a b c e;simp[ml,Stepped.next.injEq]at e;have:gr=a:=by grind[hN]
  subst this;exact h.1|succ n k=>intro gr cs v h a b c e;simp[ml]at e;rcases acm (Q:=Q) f h with⟨o,u,q⟩| ⟨i,g,v2,q,j⟩;all_goals grind
end
section
variable[aW][ck][Gl]
variable {Q:ef}
theorem agL{α:Type}{r x}(h:¬Acc r x):∃f:Nat->α,f 0=x/\∀n,r (f (n+1)) (f n):=by classical
 have step:∀y:{y:α//¬Acc r y},∃z:{y:α//¬Acc r y},r z.1 y.1:=by intro y;apply k3;intro a;exact y.2 ⟨_,λ z b=>k3 λ c=>a (by simp_all)⟩
 let g:Nat->{y:α//¬Acc r y}:=λ n=>Nat.rec ⟨x,h⟩ (λ _ y=>(step y).choose) n;exact⟨λ n=>(g n).1,rfl,by grind⟩
structure ajL where
 a:ei
 b:List ei
 v:ea
 f:ah
 c:ei
 d:List ei
 w:ea
 D:Nat
 h:Nat->hh->Nat
def iJ(Q:ef)(X:cS)(R:ei->ea->Prop)(D:Nat)(h:Nat->hh->Nat)(fr:ei)(cs:List ei)(v:ea):=∀T,gy D h T 0->∃n a b,ml Q n (hN fr cs (v.tp T D))= .next (hN a X.c b)/\jU X a X.c/\R a b
structure tQ(C:dC)(X:cS)(F:Nat->Bool)(R:ei->ea->Prop)(k:ajL):Prop where
 d:GS C X k.f k.a k.b k.c k.d
 b:cw F k.f k.v k.w
 c:Hd k.v
 a:iJ C.Q X R k.D k.h k.a k.b k.v
structure ajM where
 b:ei
 a:List ei
 v:ea
 D:Nat
 h:Nat->hh->Nat
def ajL.e(k:ajL):ajM:= ⟨k.a,k.b,k.v,k.D,k.h⟩
def iu(D:Nat)(h t:Nat->hh->Nat):=λ j=>if j<D then h j else t (j- D)
theorem rP{D d h t T}(a:gy (D+d) (iu D h t) T 0):gy D h T 0/\gy d t T D:=by
 refine⟨λ j b=>?_,λ j b=>?_⟩
 rw[a j (by omega)];simp[iu,b];have:=a (D+j) (by omega);rw[q7]at this;rw[this];show(if D+j<D then h _ else t _)=t j
 grind
def lM(Q:ef)(X:cS)(R:ei->ea->Prop)(k' k:ajM):=iJ Q X R k'.D k'.h k'.b k'.a k'.v/\¬jU X k.b k.a/\∃d t,(∀T D,gy d t T D->∃es,gb Q true (G0 k.b k.a) (k.v.tp T D)= .go (G0 k'.b k'.a) (k'.v.tp T (D+d)) es)/\k'.D=k.D+d/\k'.h=iu k.D k.h t
inductive kY(Q:ef)(X:cS)(R:ei->ea->Prop):ajM->ajM->Prop|ni (a:ajM):kY Q X R a a|mf {a b c:ajM} (h:lM Q X R a b) (k:kY Q X R b c):kY Q X R a c
theorem kY.a{X R a b c}(h:kY Q X R a b)(k:kY Q X R b c):kY Q X R a c:=by induction h with|ni a=>exact k|mf h _ d=>exact .mf h (d k)
def mI(Q:ef)(X:cS)(R:ei->ea->Prop)(a c:ajM):=∃b,kY Q X R a b/\lM Q X R b c
theorem Up{X R x y c}(a:lM Q X R x y)(f:kY Q X R y c):mI Q X R x c:=by induction f generalizing x with|ni _=>exact⟨x,.ni _,a⟩|mf e h g=>have⟨n,b,d⟩:=g e;exact⟨n,(kY.mf a (.ni _)).a b,d⟩
theorem mI.a{X R a b c}(h:mI Q X R a b)(k:kY Q X R b c):mI Q X R a c:=by have⟨m,f,g⟩:=h;have⟨n,d,e⟩:=Up g k;exact⟨n,f.a d,e⟩
section
variable{C:dC}{X:cS}{F:Nat->Bool}{R:ei->ea->Prop}
theorem kt{fr b cs a v u}(h:hN fr cs v=hN b a u):fr=b/\cs=a/\v=u:=by grind[hN]
theorem HV(C:X.b){k}(F:iJ Q X R k.D k.h k.b k.a k.v):Acc (lM Q X R) k:=by classical
 apply k3;intro q;have⟨f,w,c⟩:=agL q;have y:∀n,(f n).D<=(f (n+1)).D:=λ n=>by
  have⟨_,_,d,t,_,a,_⟩:=c n;omega
 have z:∀m n,m<=n->(f m).D<=(f n).D:=λ m n e=>by
  induction e with
  |refl=>omega
  |step _ g=>grind
 have A:∀n j,j< (f n).D->(f (n+1)).h j=(f n).h j:=λ n j b=>by
  have⟨_,_,d,t,_,_,a⟩:=c n;simp_all[iu]
 have B:∀m n,m<=n->∀j,j< (f m).D->(f n).h j=(f m).h j:=λ m n e=>by
  induction e with
  |refl=>simp
  | @step n e g=>grind
 let T:Nat->hh->Nat:=λ j=>if b:∃m,j< (f m).D then(f b.choose).h j else λ _=>0;have i:∀n,gy (f n).D (f n).h T 0:=λ n j b=>by
  show(if b:∃m,0+j< (f m).D then(f _).h _ else λ _=>0)=_;rw[q7];have E:∃m,j< (f m).D:= ⟨n,b⟩
  grind
 have r:∀n,ml Q n (hN (f 0).b (f 0).a ((f 0).v.tp T (f 0).D))= .next (hN (f n).b (f n).a ((f n).v.tp T (f n).D)):=by
  intro n
  induction n with
  |zero=>rfl
  |succ n g=>
   rw[runN_add,g];have⟨_,_,d,t,s,a,h⟩:=c n;have l:=i (n+1);rw[a,h]at l;have⟨es,o⟩:=s T (f n).D (rP l).2;simp[ml];rw[step_lone_go (by rw[o];rfl),a]
 have p:iJ Q X R (f 0).D (f 0).h (f 0).b (f 0).a (f 0).v:=by grind
 have⟨n,x,G,a,h,_⟩:=p T (i 0);rw[r n]at a;have⟨u,v,_⟩:=kt (D3 a);have⟨_,D,_⟩:=c n
 grind
def j7(F:Nat->Bool)(β:ah):ai:= ⟨λ a=>∃r,β r a,λ a=>∃r,β r a/\F r=false⟩
theorem ID{β v w w1}(h:cw F β v w)(b:bO (j7 F β) w w1):cw F β v w1:=h.k rfl (λ r a x=>b.e a ⟨r,x⟩) b.b
theorem ad5{β i v w v2 w2}(h:cw F β v w)(d:cw F i v2 w2)(c:im F β v w i v2 w2){es}(m:∀e∈es,lQ F i e):ey (j7 F β) (j7 F i) w w2 es:=by
 refine⟨c.e,λ a l o=>c.k a l λ r b=>?_,?_,?_,λ a⟨r,b⟩=> ⟨r,c.b _ _ b⟩,λ a⟨r,b,g⟩=> ⟨r,c.b _ _ b,g⟩,λ a _⟨r,b,_⟩=> ⟨r,b⟩,λ e n=>?_,c.o,c.g,c.h⟩
 cases g:F r with
 |true=>rfl
 |false=>exact absurd ⟨r,b,g⟩ o
 rintro a⟨r,b⟩;rcases c.d r a b with x| ⟨_,x⟩;exact .inl ⟨r,x⟩;exact .inr ⟨x,(d.f b).2⟩;rintro a⟨r,b,g⟩;rcases c.d r a b with x| ⟨_,x⟩;exact .inl ⟨r,x,g⟩;exact .inr ⟨x,(d.f b).2⟩;have:=m e n;obtain⟨p,s,q⟩:=e;cases p<;>simp only[lQ,iF]at this⊢
 obtain⟨⟨r,f,d⟩,j⟩:=this;exact⟨⟨r,f⟩,λ k=> ⟨r,f,d k⟩,j⟩;obtain⟨⟨r,f,d⟩,j⟩:=this;exact⟨⟨r,f⟩,λ k=> ⟨r,f,d k⟩,j⟩;omega
def ahu(C:dC)(X:cS)(F:Nat->Bool)(R:ei->ea->Prop)(l0:ajM)(β0:ah)(v0 w0:ea)(p:ai)(g:ej)(w:ea):=∃k:ajL,kY C.Q X R k.e l0/\p=j7 F k.f/\g=G0 k.c k.d/\k.w=w/\cw F k.f k.v k.w/\Hd k.v/\iJ C.Q X R k.D k.h k.a k.b k.v/\bF β0 k.f/\(∀r a,k.f r a->β0 r a\/(v0.heap.size<=r/\w0.heap.size<=a))/\v0.heap.size<=k.v.heap.size/\((GS C X k.f k.a k.b k.c k.d/\jU X k.a k.b)\/uC C X k.f k.a k.b k.c k.d)
theorem td{fr d b cs c a v v2 wE n}(h:ml Q n (hN fr cs v)= .next (hN b a wE))(e:qq Q (hN fr cs v)= .next (hN d c v2)):(b=fr/\a=cs)\/∃m,ml Q m (hN d c v2)= .next (hN b a wE):=by cases n with|zero=>grind[ml,Stepped.next.injEq,kt]|succ n=>grind[ml]
theorem Qn(aa:C.a)(K:X.b)(m2){l0 β0 v0 w0 k}(b:tQ C X F R k)(h0:kY C.Q X R k.e l0)(h1:bF β0 k.f)(h2:∀r a,k.f r a->β0 r a\/(v0.heap.size<=r/\w0.heap.size<=a))(h3:v0.heap.size<=k.v.heap.size)(h4:w0.heap.size<=k.w.heap.size):∃r,du C.P m2 (ahu C X F R l0 β0 v0 w0) r (j7 F k.f) (G0 k.c k.d) k.w:=by
 have S:=HV (k:=k.e) K b.a;generalize al:k.e=l at S
 induction S generalizing k with|intro l _ an=>
  subst al;by_cases h:jU X k.a k.b
  exact⟨.eM,λ w1 p=> ⟨{k with w:=w1},h0,rfl,rfl,rfl,ID b.b p,b.c,b.a,h1,h2,h3,.inl ⟨b.d,h⟩⟩⟩;refine du.b rfl λ w1 p=>?_;have V:=ID b.b p;obtain⟨d,t,J⟩:=JY aa K true m2 V b.c b.d h;rcases J with J| ⟨A,z,v2,N,ag,ac,w2,ae,s,E,g,M,Y,v,ao⟩
  
  exfalso;have aj:gy (k.D+d) (iu k.D k.h t) (iu k.D k.h t) 0:=λ j _=>by rw[q7]
  obtain⟨G,H⟩:=rP aj;obtain⟨n,I,Z,f,i,_⟩:=b.a _ G;have W:I=k.a->k.b=X.c->False:=λ e c2=>h (by rw[<-e,c2];exact i);rcases J _ _ H with⟨o,u,es,q⟩| ⟨A,z,v2,es,ab,q,s,E,g⟩;obtain⟨o,u,q⟩:=(gG (cs:=k.b) q).1 _ _ _ rfl;cases n with
  |zero=>
   simp only[ml,Stepped.next.injEq]at f;obtain⟨e,c2,_⟩:=kt f;exact W e.symm c2
  |succ n=>simp only[ml,q]at f;cases f
  have q:=(gG (cs:=k.b) q).2 _ _ _ _ rfl;rcases td f q with⟨e,c2⟩| ⟨m,c⟩
  exact W e c2.symm;obtain⟨ap,c2⟩:=J6 K m ⟨⟨ab,s⟩,E,.inl g⟩ c;rcases i.2 with⟨x,_⟩| ⟨x,_⟩<;>rw[x]at c2<;>cases c2
  
  have B:iJ C.Q X R (k.D+d) (iu k.D k.h t) A z v2:=by
   intro T ai;obtain⟨G,H⟩:=rP ai;obtain⟨n,I,Z,f,i,ad⟩:=b.a T G;obtain⟨es,q⟩:=s T k.D H;have q:=(gG (cs:=k.b) q).2 _ _ _ _ rfl;rcases td f q with⟨e,c2⟩| ⟨m,c⟩
   exact absurd (by rw[<-e,<-c2];exact i) h;exact⟨m,I,Z,c,i,ad⟩
  have O:bF β0 N:=h1.a v.b;have P:∀r a,N r a->β0 r a\/(v0.heap.size<=r/\w0.heap.size<=a):=λ r a L=>by
   rcases v.d r a L with x| ⟨x,y⟩;exact h2 r a x;have:=p.b;exact .inr ⟨by omega,by omega⟩
  have Q:v0.heap.size<=v2.heap.size:=eQ h3 v.f;have af:w0.heap.size<=w2.heap.size:=by have:=p.b;have:=v.e;omega
  have U:=ad5 V M v ao;rcases g with g|g
  let k':ajL:= ⟨A,z,v2,N,ag,ac,w2,k.D+d,iu k.D k.h t⟩
  have ak:tQ C X F R k':= ⟨g,M,Y,B⟩;have D:lM C.Q X R k'.e k.e:= ⟨B,h,d,t,s,rfl,rfl⟩;obtain⟨r,L⟩:=an k'.e D ak (.mf D h0) O P Q af rfl;exact⟨_,w2,ae,_,r,E,rfl,U,L⟩;have D:lM C.Q X R ⟨A,z,v2,k.D+d,iu k.D k.h t⟩ k.e:= ⟨B,h,d,t,s,rfl,rfl⟩;refine⟨_,_,_,_,.eM,E,rfl,U,λ w3 am=> ⟨⟨_,_,_,_,_,_,_,_,_⟩,.mf D h0,rfl,rfl,rfl,ID M am,Y,B,O,P,Q,.inr g⟩⟩
end
end
noncomputable def lT:World:={heap:= #[],tape:=λ _ _=>0,drawn:=0,os:=default,output:= #[]}
noncomputable def lO(P:ef)(main:Bool)(g:ej):Goroutine:=match gb P main g lT with| .go g' _ _=>g'|_=>g
noncomputable def dR(P:ef)(main:Bool):Nat->ej->ej|0,g=>g|k+1,g=>dR P main k (lO P main g)
section
open Go.ConcN (sumTo upd sumTo_upd upd_ne upd_same)
variable {p:ai} {e:hR} {B0:Nat} {es:Array hR} {q:ai}
theorem gz{g fn pos op}(h:op∈k8 g fn pos es):op.g=g:=by grind[hg]
def eG(S:Nat->Prop):Loc->Prop| .cell a=>S a.block|_=>False
theorem AB{S B}(q:∀b,S b->¬p.a b)(k:∀b,p.a b->b<B)(h:iF p e):EvL (eG S) B e:=by have⟨r,d,s⟩:=e;cases r with
 |cell a=>
  have⟨i,o,g⟩:=h;simp at g;subst g;refine⟨λ x c j=>?_,by simp,by simp,?_⟩
  simp only[K8,hA,Option.some.injEq]at c;subst c;exact absurd i (q _ j);exact k _ i|obj n=>
  have⟨i,o,g⟩:=h;simp at g;subst g;refine⟨λ x c j=>?_,by simp,by simp,?_⟩
  have:fb ⟨.obj n,d,false⟩= .access ⟨.obj n,d,false⟩:=by cases d<;>rfl
  rw[this]at c;simp only[hA,Option.some.injEq]at c;subst c;trivial;have:fb ⟨.obj n,d,false⟩= .access ⟨.obj n,d,false⟩:=by cases d<;>rfl
  rw[this];exact k _ i|mark m=>
  have l:m= .noRoom\/∃f,m= .extern f:=h;refine⟨λ x c j=>?_,?_,?_,?_⟩
  rcases l with rfl| ⟨f,rfl⟩<;>simp[fb,hA]at c
  grind
  grind
  rcases l with rfl| ⟨f,rfl⟩<;>exact trivial|output=>trivial|goroutines=>trivial
def iX:Loc->Option Nat| .cell a=>some a.block| .obj r=>some r|_=>none
theorem D9(h:iF q e){x}(c:(fb e).touch?=some x):∃b,iX x.loc=some b/\q.a b/\(x.write=true->q.b b)/\x.kind= .plain:=by have⟨l,j,o⟩:=e;cases l with
 |cell a=>have⟨g,i,d⟩:=h;simp at d;subst d;simp[K8,hA,Option.some.injEq]at c;subst c;exact⟨_,rfl,g,i,rfl⟩|obj n=>
  have⟨g,i,d⟩:=h;simp at d;subst d;have:fb ⟨.obj n,j,false⟩= .access ⟨.obj n,j,false⟩:=by cases j<;>rfl
  rw[this]at c;simp[hA,Option.some.injEq]at c;subst c;exact⟨n,rfl,g,i,rfl⟩|mark m=>have k:m= .noRoom\/∃f,m= .extern f:=h;rcases k with rfl| ⟨f,rfl⟩<;>simp[fb,hA]at c|output=>trivial|goroutines=>trivial
structure gI(B0:Nat)(p:ai)(t:jA):Prop where
 d:∀b,B0<=b->¬p.a b->∀k x,kk t k=some x->iX x.loc≠some b
 f:∀a,B0<=a.block->∀op∈t,op.act≠ .mark (.release a)
theorem gI.c{t}(h:∀op∈t,op.act.low B0)(p):gI B0 p t where
 f:=λ a s op o e=>by have:=h op o;rw[e]at this;have:a.block<B0:=this;omega
 d:=λ b u _ k x q e=>by
  have⟨op,n,c⟩:=q9 q;have i:=h op (pH n);have:b<B0:=by have⟨g,fn,pos,j⟩:=op;cases j with
   |access l=>have⟨r,w,v⟩:=l;simp[hA,Option.some.injEq]at c;subst c;cases r<;>simp[iX,Option.some.injEq]at e<;>first| (cases e;done)| (subst e;exact i)
   |mark m=>cases m<;>simp[hA,Option.some.injEq]at c<;>first| (cases c;done)| (subst c;simp[iX,Option.some.injEq]at e;subst e;exact i)
   |_=>trivial
  omega
theorem gI.g{p' t u}(h:gI B0 p t)(hp:∀b,p.a b->p'.a b)(r:∀op∈u,∀x,op.act.touch?=some x->∀b,iX x.loc=some b->p'.a b)(m:∀op∈u,∀a,op.act≠ .mark (.release a)):gI B0 p' (t++u) where
 f:=λ a i op l=>(kq.1 l).elim (h.f a i op) λ y=>m op y a
 d:=λ b j q k x n e=>by
  have⟨op,c,o⟩:=q9 n;rcases u4 c with⟨_,g⟩| ⟨_,g⟩
  exact h.d b j (by grind) k x (by grind[touchAt_of]) e;grind
theorem Jq(h:iF q e)(a):fb e≠ .mark (.release a):=by have⟨b,g,d⟩:=e;cases b with|mark m=>have i:m= .noRoom\/∃f,m= .extern f:=h;grind[fb]|obj c=>cases g<;>cases d<;>simp[fb]|_=>simp[fb]
theorem xd(h:A1 e=true)(a):fb e≠ .mark (.release a):=by have⟨b,d,c⟩:=e;cases b<;>simp_all [A1];grind[fb]
structure iG(p:ai)(w:ea)(p':ai)(w':ea):Prop where
 d:w.heap.size<=w'.heap.size
 h:∀a,a<w.heap.size->¬p.b a->w'.heap[a]?=w.heap[a]?
 l:∀a,p'.a a->p.a a\/w.heap.size<=a
 k:∀a,p'.b a->p.b a\/w.heap.size<=a
 i:w'.os=w.os
 f:w'.output=w.output
 g:w'.tape=w.tape
theorem iG.b(p)(w):iG p w p w:= ⟨fu _,λ _ _ _=>rfl,λ _ h=> .inl h,λ _ h=> .inl h,rfl,rfl,rfl⟩
theorem iG.c{p' c w w' d}(h:iG p w p' w')(k:iG p' w' c d):iG p w c d:=by
 refine⟨eQ h.d k.d,λ a b e=>?_,λ a b=>?_,λ a b=>?_,k.i.trans h.i,k.f.trans h.f,k.g.trans h.g⟩
 ·rw[k.h a (ev b h.d) λ f=>?_,h.h a b e];rcases h.k a f with x|x;all_goals grind
 ·rcases k.l a b with x|x
  exact h.l a x;exact .inr (eQ h.d x)
 ·rcases k.k a b with x|x
  exact h.k a x;exact .inr (eQ h.d x)
theorem ey.g{p' w w'}(h:ey p p' w w' es):iG p w p' w':= ⟨h.b,h.f,λ a b=>(h.i a b).imp id And.left,λ a b=>(h.k a b).imp id And.left,h.m,h.c,h.h⟩
theorem iG.j(w)(d):iG p w p (w.at d):= ⟨fu _,λ _ _ _=>rfl,λ _ h=> .inl h,λ _ h=> .inl h,rfl,rfl,rfl⟩
theorem jn(p)(w)(d):bO p w (w.at d):= ⟨fu _,λ _ _=>rfl,rfl,rfl,rfl⟩
section
variable{P:ef}{S:Nat->Prop}{Stop:ai->ej->ea->Prop}
theorem Kh:∀r M p h a w sl t q,vL h.size q<=M->h[0]?=some a->mA P t h q->tc (eG S) w.heap.size t->gI B0 p t->(∀b,S b->b<w.heap.size/\¬p.a b)->(∀b,p.a b->b<w.heap.size)->du P true Stop r p a w->∃N l a' w' s t' q' p',nV P N (oj h w sl) t=(.next (oj l w' s),t')/\l.size=h.size/\l[0]?=some a'/\Stop p' a' w'/\mA P t' l q'/\tc (eG S) w'.heap.size t'/\gI B0 p' t'/\(∀b,p.a b->p'.a b)/\(∀b,S b->b<w'.heap.size/\¬p'.a b)/\(∀b,p'.a b->b<w'.heap.size)/\iG p w p' w':=by
 intro r
 induction r using dI.b.induction with|_ r V=>
  intro M
  induction M with
  |zero=>intro p h a w sl t q R n m z v A u L;cases r with|eM=>exact⟨0,_,a,w,_,t,q,p,rfl,rfl,n,L w (.c _ _),m,z,v,λ _ x=>x,A,u,.b _ _⟩|mk f=>
    obtain al| ⟨G,K⟩:=L
    exact⟨0,_,a,w,_,t,q,p,rfl,rfl,n,al w (.c _ _),m,z,v,λ _ x=>x,A,u,.b _ _⟩;exact SK (M:=0) V (by omega) R n m z v A u G K
  |succ M aw=>intro p h a w sl t q R n m z v A u L;cases r with|eM=>exact⟨0,_,a,w,_,t,q,p,rfl,rfl,n,L w (.c _ _),m,z,v,λ _ x=>x,A,u,.b _ _⟩|mk f=>
    obtain al| ⟨G,K⟩:=L
    exact⟨0,_,a,w,_,t,q,p,rfl,rfl,n,al w (.c _ _),m,z,v,λ _ x=>x,A,u,.b _ _⟩;exact SK (M:=M+1) V (λ k aM=>by
     obtain rfl:k=M:=by omega
     omega) R n m z v A u G K
where
 SK {f:ea->dI} {M:Nat}
  (V:∀y,dI.a y (.mk f)->∀(M:Nat)(p:ai)(h:Array ej)(a:ej)(w:ea)(sl:Option (Nat×Nat))(t:jA)(q:Nat->Nat),vL h.size q<=M->h[0]?=some a->mA P t h q->tc (eG S) w.heap.size t->gI B0 p t->
   (∀b,S b->b<w.heap.size/\¬p.a b)->(∀b,p.a b->b<w.heap.size)->du P true Stop y p a w->
   ∃(N:Nat)(l:Array ej)(a':ej)(w':ea)(s:Option (Nat×Nat))(t':jA)(q':Nat->Nat)(p':ai),
    nV P N (oj h w sl) t=(.next (oj l w' s),t')/\l.size=h.size/\l[0]?=some a'/\Stop p' a' w'/\mA P t' l q'/\tc (eG S) w'.heap.size t'/\gI B0 p' t'/\(∀b,p.a b->p'.a b)/\(∀b,S b->b<w'.heap.size/\¬p'.a b)/\(∀b,p'.a b->b<w'.heap.size)/\iG p w p' w')
  (aw:∀k,k+1=M->∀(p:ai)(h:Array ej)(a:ej)(w:ea)(sl:Option (Nat×Nat))(t:jA)(q:Nat->Nat),vL h.size q<=k->h[0]?=some a->mA P t h q->tc (eG S) w.heap.size t->gI B0 p t->
   (∀b,S b->b<w.heap.size/\¬p.a b)->(∀b,p.a b->b<w.heap.size)->du P true Stop (.mk f) p a w->
   ∃(N:Nat)(l:Array ej)(a':ej)(w':ea)(s:Option (Nat×Nat))(t':jA)(q':Nat->Nat)(p':ai),
    nV P N (oj h w sl) t=(.next (oj l w' s),t')/\l.size=h.size/\l[0]?=some a'/\Stop p' a' w'/\mA P t' l q'/\tc (eG S) w'.heap.size t'/\gI B0 p' t'/\(∀b,p.a b->p'.a b)/\(∀b,S b->b<w'.heap.size/\¬p'.a b)/\(∀b,p'.a b->b<w'.heap.size)/\iG p w p' w')
  {p:ai} {h:Array ej} {a:ej} {w:ea} {sl:Option (Nat×Nat)} {t:jA} {q:Nat->Nat} (R:vL h.size q<=M) (n:h[0]?=some a) (m:mA P t h q) (z:tc (eG S) w.heap.size t) (v:gI B0 p t)
  (A:∀b,S b->b<w.heap.size/\¬p.a b) (u:∀b,p.a b->b<w.heap.size) (G:a.status= .running)
  (K:∀w1,bO p w w1->∃g' w' es p',gb P true a w1= .go g' w' es/\g'.status= .running/\ey p p' w1 w' es/\du P true Stop (f w1) p' g' w'):
  ∃(N:Nat)(l:Array ej)(a':ej)(w':ea)(s:Option (Nat×Nat))(t':jA)(q':Nat->Nat)(p':ai),
   nV P N (oj h w sl) t=(.next (oj l w' s),t')/\l.size=h.size/\l[0]?=some a'/\Stop p' a' w'/\mA P t' l q'/\tc (eG S) w'.heap.size t'/\gI B0 p' t'/\(∀b,p.a b->p'.a b)/\(∀b,S b->b<w'.heap.size/\¬p'.a b)/\(∀b,p'.a b->b<w'.heap.size)/\iG p w p' w':=by
  have aB:∀g∈h,awake g:=by
   intro g I;obtain⟨i,D,rfl⟩:=Array.mem_iff_getElem.1 I;rcases tg i with rfl|af
   ·have:h[0]=a:=by simpa[fv D]using n
    rw[this];exact awake_of (.inl G)
   ·exact awake_of ((m.old i _ af (fv D)).status.elim .inl λ x=> .inr (.inr x))
  obtain⟨i,g,d,s,D,I,aH⟩:=crowd_pick (P:=P) (w:=w) (sl:=sl) aB ⟨0,a,n,G⟩;rcases tg i with rfl|af
  ·
   obtain rfl:g=a:=by rw[n]at D;exact(q0 D).symm
   obtain⟨a',w',es,p',aD,_,C,aA⟩:=K (w.at d) (jn _ _ _);have av:=K9 (P:=P) (sl:=s) (i:=0) D (show gb P (0==0) g (w.at d)=_ from aD);have Q:((h.map (woken P g a' w')).setIfInBounds 0 a').size=h.size:=by simp
   have U:0<h.size:=(et.1 n).1;have ak:w.heap.size<=w'.heap.size:=C.b;have ar:∀b,S b->b<w'.heap.size/\¬p'.a b:=λ b E=>by
    obtain⟨aJ,aK⟩:=A b E;refine⟨ev aJ ak,λ J=>?_⟩;rcases C.i b J with y| ⟨y,_⟩
    ·exact aK y
    ·have y:w.heap.size<=b:=y;omega
   have aq:∀b,p'.a b->b<w'.heap.size:=λ b J=>by
    rcases C.i b J with y| ⟨_,y⟩
    ·exact ev (u b y) ak
    ·exact y
   obtain⟨N,l,ao,ay,an,t',q',ax,J,aj,W,ac,Y,aa,Z,ah,ab,X,ad⟩:=V (f (w.at d)) (.mk f _) (vL h.size q) p' ((h.map (woken P g a' w')).setIfInBounds 0 a') a' w' s (t++k8 0 g.frame.fn g.frame.place es) q (by rw[Q];exact fu _) (by simp[U])
    ⟨λ j x F B=>by
     have ae:0≠j:=by omega
     rw[kn ae,hJ]at B;obtain⟨y,am,rfl⟩:=eH.1 B;have H:=m.old j y F am;rw[woken_quitsD H,q8 t (by omega) _ (λ op o=>gz o)];exact H,λ j F=>by
     rw[q8 t (g':=0) (by simp at F;omega) _ (λ op o=>gz o)];exact m.above j (by simpa using F)⟩
    ((
     z.mono ak).own λ e O=>AB (λ b E=>(ar b E).2) aq (C.d e O)) (v.g C.j (λ op o x B b E=>by
     obtain⟨e,O,rfl⟩:=hg o;obtain⟨aL,ap,az,_⟩:=D9 (C.d e O) B;rw[E]at ap;cases ap;exact az) λ op o a=>by
     obtain⟨e,O,rfl⟩:=hg o;exact Jq (C.d e O) a) ar aq aA
   exact⟨N+1,l,ao,ay,an,t',q',ax,by simp only[nV,aH,av];exact J,aj.trans Q,W,ac,Y,aa,Z,λ b E=>ah b (C.j b E),ab,X,((iG.j w d).c C.g).c ad⟩
  ·
   have H:=m.old i g af D;have aE:(i==0)=false:=by simp;omega
   have U:i<h.size:=(et.1 D).1;cases ag:q i with
   |zero=>rw[ag]at H;rw[H.1]at I;cases I
   |succ k=>
    rw[ag]at H;rcases H with⟨aC,_⟩| ⟨_,g',es,aF,aI,aG⟩
    ·rw[aC]at I;cases I
    have av:=K9 (P:=P) (sl:=s) (i:=i) D (by rw[aE];exact aI (w.at d));have Q:((h.map (woken P g g' (w.at d))).setIfInBounds i g').size=h.size:=by simp
    have aN:vL h.size (qz q i k)+ (k+1)=vL h.size q+k:=by
     have:=sumTo_upd q k id U;simpa[ag]using this
    cases M with
    |zero=>omega
    |succ M=>
     obtain⟨N,l,ao,ay,an,t',q',ax,J,aj,W,ac,Y,aa,Z,ah,ab,X,ad⟩:=aw M rfl p ((h.map (woken P g g' (w.at d))).setIfInBounds i g') a (w.at d) s (t++k8 i g.frame.fn g.frame.place es) (qz q i k) (by rw[Q];omega)
      (by
       have ae:i≠0:=by omega
       rw[kn ae,hJ,n];simp[woken_run G])
      ⟨λ j x F B=>by
       by_cases T:i=j
       ·subst T;rw[Array.getElem?_setIfInBounds_self_of_lt (by simpa using U)]at B;obtain rfl:=q0 B;rw[vR,Deaf_own];exact aG
       ·rw[kn T,hJ]at B;obtain⟨y,am,rfl⟩:=eH.1 B;have au:=m.old j y F am;rw[woken_quitsD au,z8 q k (Ne.symm T),q8 t T _ (λ op o=>gz o)];exact au,λ j F=>by
       rw[q8 t (g':=i) (by simp at F;omega) _ (λ op o=>gz o)];exact m.above j (by omega)⟩
      (z.mute (by omega) aF) (v.g (λ _ y=>y) (λ op o x B b E=>by
       grind[hg,touch_mute]) λ op o a=>by
       grind[hg,xd]) A u (du.c (r:= .mk f) (.inr ⟨G,K⟩) (jn _ _ _))
     exact⟨N+1,_,_,_,an,_,_,_,by grind[nV],aj.trans Q,W,ac,Y,aa,Z,ah,ab,X,(iG.j w d).c ad⟩
end
end
section
variable[aW][ck][Gl]
theorem zA{P a b m m1 t c r}(h:nV P a m t=(.next m1,c))(k:nV P b m1 c=r):nV P (a+b) m t=r:=by induction a generalizing m t with|zero=>grind[nV,Prod.mk.injEq,Stepped.next.injEq]|succ a d=>grind[Nat.add_right_comm,nV,stepT]
structure xT(C:dC)(X:cS)(F:Nat->Bool)(R:ei->ea->Prop)(S:Nat->Prop)(k:ajL)(h:Array ej)(w:ea)(t:jA)(q:Nat->Nat):Prop where
 c:k.w=w
 e:h[0]?=some (G0 k.c k.d)
 i:mA C.P t h q
 a:tc (eG S) w.heap.size t
 j:∀b,S b->b<w.heap.size/\∀r,¬k.f r b
 f:cw F k.f k.v w
 g:Hd k.v
 d:iJ C.Q X R k.D k.h k.a k.b k.v
structure mq(w w':ea):Prop where
 b:w.heap.size<=w'.heap.size
 d:∀a,a<w.heap.size->w'.heap[a]?=w.heap[a]?
 f:w'.os=w.os
 c:w'.output=w.output
 e:w'.tape=w.tape
theorem mq.g(w):mq w w:= ⟨fu _,λ _ _=>rfl,rfl,rfl,rfl⟩
def TD(C:dC)(X:cS)(F:Nat->Bool)(R:ei->ea->Prop):=∀k S b w sl t q,xT C X F R S k b w t q->uC C X k.f k.a k.b k.c k.d->∃N c w' e t' q' k' d,nV C.P N (oj b w sl) t=(.next (oj c w' e),t')/\xT C X F R d k' c w' t' q'/\GS C X k'.f k'.a k'.b k'.c k'.d/\mI C.Q X R k'.e k.e/\mq w w'/\(∀r a,k'.f r a->F r=false->k.f r a\/w.heap.size<=a)
section
variable{C:dC}{X:cS}{F:Nat->Bool}{R:ei->ea->Prop}
theorem ZF(G:C.a)(ai:X.b)(I:TD C X F R){w0}:∀l,Acc (lM C.Q X R) l->∀k,kY C.Q X R k.e l->∀S n w sl t q,xT C X F R S k n w t q->GS C X k.f k.a k.b k.c k.d->mq w0 w->(∀r a,k.f r a->F r=false->w0.heap.size<=a)->∃N s w' ax t' q' k' J,nV C.P N (oj n w sl) t=(.next (oj s w' ax),t')/\xT C X F R J k' s w' t' q'/\GS C X k'.f k'.a k'.b k'.c k'.d/\jU X k'.a k'.b/\mq w0 w':=by
 intro l aj
 induction aj with|intro l _ ar=>
  intro k ao S n w sl t q d am e aK;have⟨ap,ab,ah,v,y,z,an,ak⟩:=d;subst ap;have⟨r,aq⟩:=Qn (l0:=k.e) (β0:=k.f) (v0:=k.v) (w0:=k.w) G ai true ⟨am,z,an,ak⟩ (.ni _) (bF.b _) (λ _ _ h=> .inl h) (fu _) (fu _);obtain⟨N,u,aG,w1,ay,D,B,aN,T,aH,U,⟨k1,d1,rfl,rfl,d2,aw,al,L,aM,Y,aR,stop⟩,E,H,_,_,p,aC,g⟩:=Kh (B0:=k.w.heap.size) (S:=S) r _ (j7 F k.f) n _ k.w sl t q (fu _) ab ah v (gI.c v.seen _) (λ b d=> ⟨(y b d).1,λ⟨r,c⟩=>(y b d).2 r c⟩) (λ b⟨r,c⟩=>(z.f c).2) aq;have f:mq w0 w1:=by
   refine⟨eQ e.b g.d,λ a i=>?_,g.i.trans e.f,g.f.trans e.c,g.g.trans e.e⟩;rw[g.h a (ev i e.b) λ⟨r,c,o⟩=>?_,e.d a i];grind
  have aT:∀r a,k1.f r a->F r=false->w0.heap.size<=a:=λ r a c o=>by
   rcases Y r a c with x| ⟨_,x⟩
   grind
   exact eQ e.b x
  have M:xT C X F R S k1 u w1 D B:= ⟨d2,U,E,H,λ b d=> ⟨(p b d).1,λ r c=>(p b d).2 ⟨r,c⟩⟩,d2▸aw,al,L⟩;obtain⟨aI,aP⟩|V:=stop
  grind
  obtain⟨aD,aa,w2,az,aA,av,A,K,W,O,Z,P,j,aB⟩:=I k1 S u w1 ay D B M V;have Q:mI C.Q X R A.e l:=P.a (d1.a ao);obtain⟨m,m1,m2⟩:=Q;have au:mq w0 w2:= ⟨eQ f.b j.b,λ a i=>(j.d a (ev i f.b)).trans (f.d a i),j.f.trans f.f,j.c.trans f.c,j.e.trans f.e⟩;obtain⟨aE,aJ,w3,aQ,aS,aO,aL,aF,ac,ad,ae,af,ag⟩:=ar m m2 A m1 K aa w2 az aA av O Z au λ r a c o=>by
   rcases aB r a c o with x|x
   grind
   exact eQ f.b x
  exact⟨_,_,_,_,_,_,_,_,zA (zA T W) ac,ad,ae,af,ag⟩
end
end
section
variable[aW][ck][Gl]
variable {Q:ef} {u:ea}
theorem H5(b:Hd u):∃o c,qq Q (hN {gd with mode:= .returning} [] u)= .ended o c:=by have e:gb Q true (G0 {gd with mode:= .returning} []) u= .coroswitch (G0 {gd with mode:= .returning,defers:= []} []) 0 true u (vi Q gd.fn #[]++ #[]):=rfl;rw[qq,stepT,move_lone];cases a:u.heap[0]? with|none=>simp_all[runT,hN,ng]|some o=>have:=(b 0 o a).2;cases o<;>first| (simp[runT,hN,ng,e,a];done)| (exfalso;cases this;done)
theorem GM:qq Q (hN gd [] u)= .next (hN {gd with mode:= .returning} [] u):=rfl
theorem agD{Q fr u}(y:Hd u)(z:∀fn a b,Q.funcs[fr.fn]?=some fn->(nz fn fr.tmps).run Q u= .ok a b->Hd b)(s:fr.mode= .returning)(r:fr.defers= [])(t:fr.roundOf=none):∀{n:Nat}{d:ei}{i:ea},ml Q n (hN fr [gd] u)= .next (hN d [gd] i)->d=fr/\i=u:=by intro n d i h;cases n with
 |zero=>grind[ml,Stepped.next.injEq,kt]|succ n=>
  exfalso;have⟨fn,g,j,B,D,kind,E⟩:=fr;simp at s r t;subst s r t;have A:∀m b,Hd b->∀d i,ml Q m (hN gd [] b)≠ .next (hN d [gd] i):=λ m b l d i e=>by cases m with
   |zero=>
    grind[ml,Stepped.next.injEq,kt]|succ m=>
    simp[ml,GM]at e;cases m with
    |zero=>
     simp[ml,Stepped.next.injEq]at e;cases(kt e).2.1
    |succ m=>
     have⟨o,F,w⟩:=H5 (Q:=Q) l;simp only[ml,w]at e;cases e
  have key:(∃o b,qq Q (hN ⟨fn,g,j,[],.returning,kind,none⟩ [gd] u)= .ended o b)\/∃b,Hd b/\qq Q (hN ⟨fn,g,j,[],.returning,kind,none⟩ [gd] u)= .next (hN gd [] b):=by
   have ret:∀v b,o8 Q true ⟨fn,g,j,[],.returning,kind,none⟩ [gd] none v b= .go (G0 gd []) b:=λ v b=>by
    cases kind<;>rfl
   have c:gb Q true (G0 ⟨fn,g,j,[],.returning,kind,none⟩ [gd]) u=nL Q true ⟨fn,g,j,[],.returning,kind,none⟩ [gd] none u:=rfl;simp only[nL]at c;cases p:Q.funcs[fn]? with
   |none=>
    rw[p]at c;simp[ret]at c;exact .inr ⟨u,y,(gG c).2 _ _ _ _ rfl⟩|some f=>
    rw[p]at c;simp only at c;have k:=n1 Q (nz f g) u #[];generalize C:(nz f g).runT Q u #[]=q at c k;have⟨q,es⟩:=q;simp at k c;cases q with
    |ok a b=>
     simp[ret,ep]at c;exact .inr ⟨b,z f a b p k.symm,(gG c).2 _ _ _ _ rfl⟩
    |halt x b=>cases x<;>exact .inl ((gG c).1 _ _ _ rfl)
  obtain⟨o,b,e⟩| ⟨b,l,e⟩:=key
  simp only[ml,e]at h;cases h;simp only[ml,e]at h;exact A n b l d i h
end
section
variable[aW][ck][Gl]
variable {a:Act}
theorem Bt(y):∃x,∀β,VR β x y:=by match y with
 | .bool b=>exact⟨_,λ _=> .fY b⟩| .int k n=>exact⟨_,λ _=> .cx k n⟩| .float k n=>exact⟨_,λ _=> .fy rfl⟩| .complex k n m=>exact⟨_,λ _=> .fy rfl⟩| .string s=>exact⟨_,λ _=> .eI s⟩| .pointer none=>exact⟨.pointer none,λ _=> .dc trivial⟩| .pointer (some a)=>exact⟨hF,λ _=> .fy rfl⟩| .slice a n c=>exact⟨hF,λ _=> .fy rfl⟩| .map r=>exact⟨hF,λ _=> .fy rfl⟩| .chan r=>exact⟨hF,λ _=> .fy rfl⟩| .nilFunc=>exact⟨.nilFunc,λ _=> .nG⟩| .nilIface=>exact⟨.nilIface,λ _=> .mj⟩| .iface t v=>exact⟨hF,λ _=> .fy rfl⟩| .func f a b=>cases h:p9 (.func f a b)with|true=>exact⟨.nilFunc,λ _=> .jL h⟩|false=>exact⟨hF,λ _=> .fy (by simp[od,h])⟩
 | .agg cs=>
  have:∀i:Fin cs.size,∃x,∀β,VR β x cs[i]:=λ i=>Bt cs[i];have⟨f,o⟩:=o2 this;refine⟨.agg (rL f),λβ=> .gU (by simp) λ i v v' l d=>?_⟩;have e:=(et.1 d).1;have g:v=f ⟨i,e⟩:=by have:=(et.1 l).2;rw[<-this,r3]
  have j:v'=cs[i]:=(et.1 d).2.symm;rw[g,j];exact o ⟨i,e⟩ β| .tuple cs=>
  have:∀i:Fin cs.size,∃x,∀β,VR β x cs[i]:=λ i=>Bt cs[i];have⟨f,o⟩:=o2 this;refine⟨.tuple (rL f),λβ=> .nA (by simp) λ i v v' l d=>?_⟩;have e:=(et.1 d).1;have g:v=f ⟨i,e⟩:=by have:=(et.1 l).2;rw[<-this,r3]
  have j:v'=cs[i]:=(et.1 d).2.symm;rw[g,j];exact o ⟨i,e⟩ β
termination_by lv y
decreasing_by
 all_goals
  have h:=Array.sizeOf_get cs i.1 i.2;have h:lv cs[i.1]<lv cs:=h;simp only[Fin.getElem_fin];simp;omega
noncomputable def sK(y:b2):=(Bt y).choose
theorem vz(β)(y):VR β (sK y) y:=(Bt y).choose_spec _
def ai.d(p e:ai):ai:= ⟨λ a=>p.a a\/e.a a,λ a=>p.b a\/e.b a⟩
section
variable{P:ef}{main:Bool}
theorem bO.g{p e w w'}(h:bO (p.d e) w w'):bO p w w':= ⟨h.b,λ a b=>h.e a (.inl b),h.i,h.f,h.h⟩
theorem iF.b{p e v}(h:iF p v):iF (p.d e) v:=by
 have⟨a,c,b⟩:=v;cases a<;>simp[iF]at h⊢
 exact⟨.inl h.1,λ x=> .inl (h.2.1 x),h.2.2⟩;exact⟨.inl h.1,λ x=> .inl (h.2.1 x),h.2.2⟩;omega
theorem ey.s{p p' e w w' es}(h:ey p p' w w' es)(q:∀a,e.b a->e.a a):ey (p.d e) (p'.d e) w w' es:={
  b:=h.b
  f:=λ a g l=>h.f a g λ x=>l (.inl x)
  i:=λ a g=>g.elim (λ x=>(h.i a x).imp .inl id) λ x=> .inl (.inr x)
  k:=λ a g=>g.elim (λ x=>(h.k a x).imp .inl id) λ x=> .inl (.inr x)
  j:=λ a g=>g.imp (h.j a) id
  o:=λ a g=>g.imp (h.o a) id
  n:=λ a l g=>g.elim (λ x=> .inl (h.n a (λ y=>l (.inl y)) x)) λ x=> .inr (q a x)
  d:=λ v r=>(h.d v r).b
  m:=h.m
  c:=h.c
  h:=h.h}
structure uz(e q:ai)(w0 w:ea):Prop where
 b:∀a,e.a a->w.heap[a]?=w0.heap[a]?
 c:∀a,e.a a->a<w.heap.size
 d:∀a,e.a a->¬q.b a
theorem du.g{Stop e}(m:∀a,e.b a->e.a a){w0}:∀{r:dI}{p:ai}{g:ej}{w:ea},du P main Stop r p g w->uz e p w0 w->du P main (λ p' g w=>∃q,p'=q.d e/\Stop q g w/\uz e q w0 w) r (p.d e) g w:=by
 have rel:∀{p:ai}{w w1:ea},uz e p w0 w->bO (p.d e) w w1->uz e p w0 w1:=λ j i=> ⟨λ a x=>(i.e a (.inr x)).trans (j.b a x),λ a x=>ev (j.c a x) i.b,j.d⟩;have fin:∀{p:ai}{g:ej}{w:ea},(∀w1,bO p w w1->Stop p g w1)->uz e p w0 w->∀w1,bO (p.d e) w w1->∃q,p.d e=q.d e/\Stop q g w1/\uz e q w0 w1:=λ h j w1 l=> ⟨_,rfl,h w1 l.g,rel j l⟩;intro r
 induction r with|eM=>trivial|mk f s=>
  intro p g w h j;obtain h| ⟨n,h⟩:=h
  exact .inl (fin h j);refine .inr ⟨n,λ w1 l=>?_⟩;obtain⟨g',w',es,p',a,b,c,d⟩:=h w1 l.g;have i:=rel j l;refine⟨g',w',es,p'.d e,a,b,c.s m,s w1 d ⟨λ x k=>(c.f x (i.c x k) (i.d x k)).trans (i.b x k),λ x k=>ev (i.c x k) c.b,λ x k o=>?_⟩⟩;rcases c.k x o with y| ⟨y,_⟩
  exact i.d x k y;have:=i.c x k;omega
end
def RO(Q:ef){α:Type}(s:hq α):=∀w a u,s.run Q w= .ok a u->u=w
section
variable{P:ef}{fs:Array k4}{α γ:Type}
theorem RO.b(a):RO (lp P fs) (eV a:hq α):=λ w b u h=>by simp_all
theorem RO.oW{s}{f:α->hq γ}(h:RO (lp P fs) s)(k:∀a,RO (lp P fs) (f a)):RO (lp P fs) (s>>=f):=λ w b u e=>by rw[Sem.run_bind]at e;cases c:s.run (lp P fs) w with
 |ok a w1=>rw[c]at e;have:=h w a w1 c;subst this;exact k a _ _ _ e|halt x w1=>rw[c]at e;cases e
theorem RO.e{f:ef->hq α}(h:RO (lp P fs) (f (lp P fs))):RO (lp P fs) (mm>>=f):=λ w b u e=>h w b u e
theorem RO.f(why):RO (lp P fs) (iA why:hq α):=λ w b u e=>by cases e
theorem RO.i(a):RO (lp P fs) (load a):=λ w b u e=>by grind[Go.load,fH]
theorem RO.c(a):∀n i b,RO (lp P fs) (rV a i n b)|0,_,_=>RO.b _|n+1,i,b=>(RO.i _).oW λ v=>RO.c a n (i+1) _
theorem RO.g(t):RO (lp P fs) (nB t):=by refine RO.e ?_;grind[RO.b,RO.f]
theorem RO.l(t):RO (lp P fs) (isAgg t):=by refine RO.oW (RO.e ?_) λ d=>?_;all_goals grind[RO.b,RO.f]
theorem RO.h(t)(a):RO (lp P fs) (sv t a):=by
 refine(RO.l t).oW λ b=>?_;split
 exact RO.oW (RO.oW (RO.g t) λ _=>RO.b _) λ n=>(RO.c a n 0 _).oW λ _=>RO.b _;exact RO.i a
theorem RO.k(x):RO (lp P fs) (mH x):=by
 unfold mH;split
 exact RO.b _;intro w b u e;trivial;exact RO.f _
theorem RO.j{a:Type}{f:a->hq α}(h:∀i,RO (lp P fs) (f i)):∀l:List a,RO (lp P fs) (l.mapM f)
 | []=>by grind[RO.b]|i::l=>by simp[pv];exact(h i).oW λ _=>(RO.j h l).oW λ _=>RO.b _
theorem RO.d(fn)(a):RO (lp P fs) (nz fn a):=by unfold nz;rw[hS];refine RO.oW (RO.oW (RO.j (λ i=>?_) _) λ _=>RO.b _) λ _=>RO.b _;grind[RO.b,RO.k,oW,RO.h]
end
theorem ajG{Q}{b:ei}{why cs v}:∃o u,qq Q (hN (b.at a [.code (.refuse why)]) cs v)= .ended o u:=(gG (s:=_) rfl).1 _ _ _ rfl
section
variable{C:dC}{X:cS}{F:Nat->Bool}
structure Zd(C:dC)(X:cS)(F:Nat->Bool)(b:ei)(Post:Act->ea->Prop)(β:ah)(v w:ea)(p:ai)(g:ej)(w2:ea)(l:ah)(v2:ea)(a':Act)(fr2:ei):Prop where
 c:p=j7 F l
 h:g=G0 fr2 X.g
 e:cw F l v2 w2
 j:Hd v2
 i:bF β l
 f:∀r a,l r a->β r a\/(v.heap.size<=r/\w.heap.size<=a)
 k:GF C l X.a X.d X.e X.f (b.at a' X.a) fr2
 d:∃T D,Post a' (v2.tp T D)
theorem Xa(I:C.a)(y:X.b){why}(Z:X.a= [.code (.refuse why)])(ab:∀f,C.b f=false){b fr' c}(ax:b.roundOf=none){Post β v w} (ad:cw F β v w) (V:Hd v) (W:GF C β X.a X.d X.e X.f (b.at a (.code c::X.a)) fr') (ag:∀T,c.wp C.Q (λ e a' w'=>e= .normal/\Post a' w') a (v.tp T 0)) (m2):∃r,du C.P m2 (λ p g w2=>∃al v2 a' fr2,Zd C X F b Post β v w p g w2 al v2 a' fr2) r (j7 F β) (G0 fr' X.g) w:=by
 let R:ei->ea->Prop:=λ t B=>∃a',t=b.at a' X.a/\Post a' B;let k:ajL:= ⟨b.at a (.code c::X.a),X.c,v,β,fr',X.g,w,0,λ _ _=>0⟩;have Y:GS C X β k.a k.b k.c k.d:= .jE W rfl;have Q:iJ C.Q X R 0 (λ _ _=>0) k.a k.b v:=λ T _=>by obtain⟨e,a',w',⟨rfl,ac⟩,n,aa⟩:=ag T b X.a X.c;exact⟨n,_,_,aa,⟨rfl,.inl ⟨rfl,rfl,by grind⟩⟩,_,rfl,ac⟩
 have⟨r,af⟩:=Qn (l0:=k.e) (β0:=β) (v0:=v) (w0:=w) I y m2 (k:=k) ⟨Y,ad,V,Q⟩ (.ni _) (bF.b _) (λ _ _ h=> .inl h) (fu _) (fu _);refine⟨r,af.a ?_⟩;rintro p g w2⟨d,d1,rfl,rfl,rfl,aj,E,J,ai,N,aB,⟨i,ak⟩|M⟩
 
 let T:Nat->hh->Nat:=d.h
 have P:gy d.D d.h T 0:=λ j _=>by grind
 obtain⟨n,t,B,l,ap,a',s,L⟩:=J T P;obtain⟨D,ae⟩:=ak;have low:GF C d.f X.a X.d X.e X.f d.a d.c/\d.a.roundOf=none/\d.d=X.g:=by
  generalize ar:d.b=am at i D;generalize av:d.a=fr2 at i;generalize aw:d.c=aq at i;generalize au:d.d=an at i;cases i with
  |jE g H=>trivial
  |up g ay hp S=>
   have:=S.c
   grind
 obtain⟨O,o,U⟩:=low;rw[D]at l;have key:t=d.a/\B=d.v.tp T d.D:=by
  rcases ae with⟨m1,m2,_⟩| ⟨m1,m2⟩;have K:d.a=d.a.at ⟨d.a.tmps,d.a.defers⟩ X.a:=by
   generalize d.a=fr2 at m1 m2 o;obtain⟨fn,aC,aD,ao,az,kind,aA⟩:=fr2;simp only at m1 m2 o;subst m1 m2 o;rfl
  rw[K]at l;have stuck:∀(m:Nat)(u:ea)(fr2:ei)(A:ea),ml C.Q m (hN (d.a.at ⟨d.a.tmps,d.a.defers⟩ X.a) X.c u)= .next (hN fr2 X.c A)->fr2=d.a.at ⟨d.a.tmps,d.a.defers⟩ X.a/\A=u:=λ m u fr2 A h=>by
   cases m with
   |zero=>
    grind[ml,Stepped.next.injEq,kt]
   |succ m=>
    rw[Z]at h;trivial
  grind
  exfalso;rw[y.b]at m2;rw[y.a]at l;have G:Hd (d.v.tp T d.D):=E;obtain⟨q,_⟩:=agD G (λ fn x aE z H=>by
   rw[RO.d fn _ _ _ _ H];exact G) m1 m2 o l
  rw[q]at s;rw[s]at m1;cases m1
 obtain⟨q,c2⟩:=key;refine⟨d.f,d.v,a',d.c,⟨rfl,by rw[U],aj,E,ai,N,?_,T,d.D,by rw[<-c2];exact L⟩⟩;rw[<-s,q];exact O;obtain⟨f,_,_,_,_,_,_,_,_,_,_,z,_,_⟩:=M;rw[ab]at z;cases z
end
end
section
variable {x:pk} {k:Nat} {a:oV} {g:Nat}
def QY(Y:Nat->Prop)(l:Loc):=∃b,iX l=some b/\Y b
theorem ail{B b}(d:a.touch?=some x)(c:iX x.loc=some b)(f:a.low B):b<B:=by cases a with
 |access e=>have⟨g,i,h⟩:=e;simp[hA,Option.some.injEq]at d;subst d;cases g<;>simp[iX,Option.some.injEq]at c<;>first| (cases c;done)| (subst c;exact f)
 |mark m=>cases m<;>simp[hA,Option.some.injEq]at d<;>first| (cases d;done)| (subst d;simp[iX,Option.some.injEq]at c;subst c;exact f)
 |_=>trivial
structure bP(S Y:Nat->Prop)(n0:Nat)(A:Nat->Prop)(rp:oV->Prop)(p:Nat->ai)(t:jA)(w:ea):Prop where
 e:∀i b,(p i).b b->(p i).a b
 c:∀i b,(p i).a b->b<w.heap.size/\¬S b/\¬Y b
 f:∀i j b,i≠j->(p i).b b->¬(p j).a b
 s:∀i b,(p i).a b->A i
 l:∀said,¬Race said t
 D:∀i b,(p i).b b->∀k x,kk t k=some x->iX x.loc=some b->kL t i k
 B:∀i b,(p i).a b->∀k x,kk t k=some x->iX x.loc=some b->x.write=true->kL t i k
 h:∀k x,kk t k=some x->QY Y x.loc->x.kind≠ .plain
 q:∀k x,kk t k=some x->x.loc.isMemory=true->
  (eG S x.loc/\x.kind= .atomic/\(k<n0\/¬t.heard k))\/(∃i,A i/\kL t i k)\/∃r a,t.act? r=some a/\rp a/\t.heard r/\re t k r
 y:∀i g,i<n0->t.g? i=some g->g≠0->t.counts i->∃j,t.g? j=some 0/\ov t i j
 n:n0<=t.size
 o:∀op∈t,op.act.low w.heap.size
 d:∀b,S b\/Y b->b<w.heap.size
section
variable{S Y:Nat->Prop}{n0:Nat}{A:Nat->Prop}{rp:oV->Prop}{p:Nat->ai}{t u:jA}{w w':ea}
theorem aep(h:t.act? k=some a):k<t.size:=y5 h
theorem RV(g:k<t.size)(h:(eG S x.loc/\x.kind= .atomic/\(k<n0\/¬t.heard k))\/(∃i,A i/\kL t i k)\/∃r a,t.act? r=some a/\rp a/\t.heard r/\re t k r):(eG S x.loc/\x.kind= .atomic/\(k<n0\/¬(t++u).heard k))\/(∃i,A i/\kL (t++u) i k)\/∃r a,(t++u).act? r=some a/\rp a/\(t++u).heard r/\re (t++u) k r:=by
 obtain⟨b,c,d⟩| ⟨i,b,c⟩| ⟨r,a,b,c,d,e⟩:=h
 grind[id,mr]
 exact .inr (.inl ⟨i,b,c.app u⟩);have f:=aep b;exact .inr (.inr ⟨r,a,by grind[pn],c,(mr f).2 d,e.app u⟩)
theorem lx(h:kk (t++u) k=some x):(k<t.size/\kk t k=some x)\/(t.size<=k/\∃op∈u,(t++u)[k]?=some op/\op.act.touch?=some x):=by have⟨op,a,b⟩:=q9 h;grind[u4,touchAt_of]
theorem TG(h:∀i g,i<n0->t.g? i=some g->g≠0->t.counts i->∃j,t.g? j=some 0/\ov t i j)(f:n0<=t.size):∀i g,i<n0->(t++u).g? i=some g->g≠0->(t++u).counts i->∃j,(t++u).g? j=some 0/\ov (t++u) i j:=by
 intro i g a l b d;have e:i<t.size:=ev a f;have⟨j,k,c⟩:=h i g a (by grind[g?_old]) b ((counts_old e).1 d);have m:j<t.size:=by grind[pt,eH,lt_size_of_getElem?]
 exact⟨j,by grind[g?_old],K2 u c⟩
theorem bP.m(h:bP S Y n0 A rp p t w)(c:w.heap.size<=w'.heap.size):bP S Y n0 A rp p t w':= ⟨h.e,λ i b a=> ⟨ev (h.c i b a).1 c,(h.c i b a).2⟩,h.f,h.s,h.l,h.D,h.B,h.h,h.q,h.y,h.n,K1 (t:=t) (u:= #[]) (λ op d=>tl c (h.o _ d)) (by simp)|>λ x=>by trivial,λ b a=>ev (h.d b a) c⟩
theorem bP.C(h:bP S Y n0 A rp p t w)(B:∀op∈u,op.g=g)(l:∀op∈u,op.act.low w.heap.size) (q:∀op∈u,∀x,op.act.touch?=some x->QY Y x.loc/\x.kind≠ .plain/\(x.kind= .said->∀k y,kk t k=some y->y.loc=x.loc->y.kind= .said->kL t g k)/\(A g\/(x.kind= .atomic/\eG S x.loc))) (J:A g\/∀k op,t.size<=k->(t++u)[k]?=some op->op.act.touch?≠none->¬(t++u).heard k):bP S Y n0 A rp p (t++u) w:=by
 have E:∀i b,(p i).a b->∀op∈u,∀x,op.act.touch?=some x->iX x.loc≠some b:=λ i b j op o x f e=>by have⟨⟨F,d,c⟩,_⟩:=q op o x f;rw[e]at d;cases d;exact(h.c i b j).2.2 c
 refine⟨h.e,h.c,h.f,h.s,λ said=>Lk (h.l said) B λ k a s op o b j v=>?_,λ i b j k x f l=>?_,λ i b j k x f l C=>?_,λ k x f D=>?_,λ k x f z=>?_,TG h.y h.n,by simp;exact eQ h.n (by omega),K1 h.o l,h.d⟩
 ·have⟨d,c,n,_⟩:=q op o b j;have⟨r,G,H,m⟩:=v;obtain m|m| ⟨_,m,I⟩:=m
  exact absurd m (h.h k a s (r▸d));all_goals grind
 ·rcases lx f with⟨d,c⟩| ⟨_,op,c,_,n⟩
  exact(h.D i b j k x c l).app u;exact absurd l (E i b (h.e i b j) _ c x n)
 ·rcases lx f with⟨d,c⟩| ⟨_,op,c,_,n⟩
  exact(h.B i b j k x c l C).app u;grind
 ·rcases lx f with⟨d,c⟩| ⟨_,op,c,_,n⟩
  exact h.h k x c D;grind
 ·rcases lx f with⟨d,c⟩| ⟨K,op,c,o,n⟩
  exact RV d (h.q k x c z);grind[sf]
theorem bP.z(h:bP S Y n0 A rp p t w)(e:∀op∈u,op.g=g)(a:∀op∈u,op.act.low w.heap.size)(d:∀op∈u,op.act.touch?=none):bP S Y n0 A rp p (t++u) w:=h.C e a (λ op c x i=>by grind) (.inr λ k op f c b=>absurd (d _ (by grind)) b)
theorem aae{q B}(a:∀b,q.a b->b<B){e}(h:iF q e):(fb e).low B:=(AB (S:=λ _=>False) (by grind) a h).2.2.2
theorem bP.M(h:bP S Y n0 A rp p t w){i}(Z:A i){p' es}(g:ey (p i) p' w w' es)(fn)(pos):bP S Y n0 A rp (qz p i p') (t++k8 i fn pos es) w':=by
 have H:∀op∈k8 i fn pos es,∀x,op.act.touch?=some x->∃b,iX x.loc=some b/\p'.a b/\(x.write=true->p'.b b)/\x.kind= .plain:=λ op l x m=>by obtain⟨e,F,rfl⟩:=hg l;exact D9 (g.d e F) m
 have new:∀b,w.heap.size<=b->∀k x,kk t k=some x->iX x.loc≠some b:=λ b c k x m e=>by have⟨op,n,f⟩:=q9 m;have:=ail f e (h.o op (pH n));omega
 have O:∀b,p'.a b->b<w'.heap.size:=λ b c=>by
  rcases g.i b c with x| ⟨_,x⟩
  exact ev (h.c i b x).1 g.b;omega
 have o:∀j,j≠i->qz p i p' j=p j:=λ j d=>z8 p p' d;have v:qz p i p' i=p':=vR p i p';have U:∀j b,j≠i->(p j).a b->¬p'.b b:=λ j b d c D=>by
  rcases g.k b D with x| ⟨x,_⟩
  exact h.f i j b (Ne.symm d) x c;have:=(h.c j b c).1;omega
 refine⟨λ j b c=>?_,λ j b c=>?_,λ j k b M c C=>?_,λ j b c=>?_,λ said=>Lk (h.l said) (λ op l=>gz l) λ k a K op l x m R=>?_,λ j b c k x m s=>?_,λ j b c k x m s D=>?_,λ k x m N=>?_,λ k x m T=>?_,TG h.y h.n,by simp;exact eQ h.n (by omega),?_,λ b c=>ev (h.d b c) g.b⟩
 by_cases d:j=i;subst d;rw[v]at c⊢;by_cases x:(p j).b b;exact g.j b (h.e j b x);exact g.n b x c;rw[o j d]at c⊢;exact h.e j b c;by_cases d:j=i;subst d;rw[v]at c;refine⟨O b c,?_⟩;rcases g.i b c with x| ⟨x,_⟩
 exact(h.c j b x).2;exact⟨λ G=>by have:=h.d b (.inl G);omega,λ G=>by have:=h.d b (.inr G);omega⟩;rw[o j d]at c;exact⟨ev (h.c j b c).1 g.b,(h.c j b c).2⟩;by_cases d:j=i
 grind
 rw[o j d]at c;by_cases r:k=i;subst r;rw[v]at C;rcases g.i b C with x| ⟨x,_⟩
 exact h.f j k b M c x;have:=(h.c j b (h.e j b c)).1;omega;rw[o k r]at C;exact h.f j k b M c C;by_cases d:j=i
 grind
 rw[o j d]at c;exact h.s j b c;obtain⟨b,n,f,q,X⟩:=H op l x m;obtain⟨Q,V,u,W⟩:=R;have L:iX a.loc=some b:=Q▸n;rcases g.i b f with y| ⟨y,_⟩;rcases u with u|u;exact h.B i b y k a K L u;rcases g.k b (q u)with z| ⟨z,_⟩;exact h.D i b z k a K L
 grind
 grind
 rcases lx m with⟨n,f⟩| ⟨r,op,f,l,q⟩;by_cases d:j=i;subst d;rw[v]at c;rcases g.k b c with y| ⟨y,_⟩
 exact(h.D j b y k x f s).app _
 grind
 rw[o j d]at c;exact(h.D j b c k x f s).app _;by_cases d:j=i;subst d;have:=sf l
 grind[gz]
 rw[o j d]at c;obtain⟨P,B,E,_⟩:=H op f x q;rw[s]at B;cases B;rcases g.i b E with y| ⟨y,_⟩
 exact absurd y (h.f j i b d c);have:=(h.c j b (h.e j b c)).1;omega;rcases lx m with⟨n,f⟩| ⟨r,op,f,l,q⟩;by_cases d:j=i;subst d;rw[v]at c;rcases g.i b c with y| ⟨y,_⟩
 exact(h.B j b y k x f s D).app _
 grind
 rw[o j d]at c;exact(h.B j b c k x f s D).app _;by_cases d:j=i;subst d;have:=sf l
 grind[gz]
 grind
 rcases lx m with⟨n,f⟩| ⟨r,op,f,l,q⟩;exact h.h k x f N;obtain⟨b,B,E,_⟩:=H op f x q;obtain⟨P,I,J⟩:=N;rw[B]at I;cases I;rcases g.i b E with y| ⟨y,_⟩;exact absurd J (h.c i b y).2.2;have:=h.d b (.inr J);omega;rcases lx m with⟨n,f⟩| ⟨r,op,f,l,q⟩;exact RV n (h.q k x f T);have:=sf l
 grind[gz]
 refine K1 (λ op l=>tl g.b (h.o op l)) λ op l=>?_;obtain⟨e,F,rfl⟩:=hg l;exact aae O (g.d e F)
end
end
section
open Go.ConcN (upd upd_ne upd_same)
section
variable{S Y S' Y':Nat->Prop}{n0:Nat}{A A':Nat->Prop}{rp rp':oV->Prop}{p p':Nat->ai}{t u:jA}{w w':ea}
variable {y:qi} {k i:Nat}
theorem af8(t:jA)(x)(l):t++ (x::l).toArray=(t++ #[x])++l.toArray:=by simp
theorem bP.E:∀(l:List qi){t:jA},bP S Y n0 A rp p t w->(∀op∈l,op.act.low w.heap.size)->(∀op∈l,op.act.touch?=none)->bP S Y n0 A rp p (t++l.toArray) w
 | [],t,h,_,_=>by trivial|x::l,t,h,h1,h2=>by rw[af8];exact bP.E l (h.z (g:=x.g) (by grind) (λ op a=>by grind) (λ op a=>by grind)) (by grind) (by grind)
theorem bP.K(h:bP S Y n0 A rp p t w)(h1:∀i b,(p' i).a b->(p i).a b)(h2:∀i b,(p' i).b b->(p i).b b/\(p' i).a b):bP S Y n0 A rp p' t w:= ⟨by grind,λ i b a=>h.c i b (h1 i b a),λ i j b d a c=>h.f i j b d (h2 i b a).1 (h1 j b c),λ i b a=>h.s i b (h1 i b a),h.l,λ i b a=>h.D i b (h2 i b a).1,λ i b a=>h.B i b (h1 i b a),h.h,h.q,h.y,h.n,h.o,h.d⟩
theorem bP.H(h:bP S Y n0 A rp p t w)(v:∀op∈u,op.act.low w.heap.size)(D:∀op∈u,op.act.touch?=none)(q:∀i,A i->A' i){j}(E:A' j) (r:∀k,kL t i k->kL (t++u) j k) (l:∀a b,(p' a).a b->(p a).a b\/(a=j/\(p i).a b)) (o:∀a b,(p' a).b b->(p' a).a b/\((p a).b b\/(a=j/\(p i).b b))) (h3:∀a c b,a≠c->(p' a).b b->¬(p' c).a b):bP S Y n0 A' rp p' (t++u) w:=by
 have f:bP S Y n0 A rp p (t++u) w:=by have:=h.E u.toList (λ op C=>v op (by grind)) (λ op C=>D op (by grind));omega
 have old:∀k x,kk (t++u) k=some x->k<t.size/\kk t k=some x:=λ k x g=>by rcases lx g with⟨a,b⟩| ⟨_,op,b,_,c⟩;all_goals grind
 refine⟨λ a b d=>(o a b d).1,λ a b d=>?_,h3,λ a b d=>?_,f.l,λ a b d k x g m=>?_,λ a b d k x g m s=>?_,f.h,λ k x g B=>(f.q k x g B).imp id λ h=>h.imp (λ⟨i,l,o⟩=> ⟨i,q i l,o⟩) id,f.y,f.n,f.o,f.d⟩
 rcases l a b d with y| ⟨_,y⟩;exact h.c a b y;exact h.c i b y;rcases l a b d with y| ⟨e,_⟩;exact q a (h.s a b y)
 grind
 obtain⟨z,n⟩:=old k x g;rcases(o a b d).2 with y| ⟨e,y⟩;exact(h.D a b y k x n m).app u;exact e▸r k (h.D i b y k x n m);obtain⟨z,n⟩:=old k x g;rcases l a b d with y| ⟨e,y⟩;exact(h.B a b y k x n m s).app u;exact e▸r k (h.B i b y k x n m s)
theorem bP.F(h:bP S Y n0 A rp p t w)(f:∀j,A j->A' j\/j=i)(q:∀j,A' j->A j/\j≠i)(u:∀a,rp a->rp' a) (s:∀k,kL t i k->∃r a,t.act? r=some a/\rp' a/\t.heard r/\re t k r):bP S Y n0 A' rp' (qz p i ⟨λ _=>False,λ _=>False⟩) t w:=by
 have v:qz p i ⟨λ _=>False,λ _=>False⟩ i= ⟨λ _=>False,λ _=>False⟩:=vR p i _;have m:∀j,j≠i->qz p i ⟨λ _=>False,λ _=>False⟩ j=p j:=λ j e=>z8 p _ e;have d:=h.K (p':=qz p i ⟨λ _=>False,λ _=>False⟩) (λ j b c=>by grind) (λ j b c=>by
  by_cases e:j=i
  grind
  rw[m j e]at c⊢;exact⟨c,h.e j b c⟩);refine⟨d.e,d.c,d.f,λ j b c=>?_,d.l,d.D,d.B,d.h,λ k x l g=>?_,d.y,d.n,d.o,d.d⟩
 by_cases e:j=i
 grind
 exact(f j (d.s j b c)).resolve_right e;rcases h.q k x l g with y| ⟨j,n,o⟩| ⟨r,a,n,o,z⟩
 all_goals grind
theorem bP.G(h:bP S Y n0 A rp p t w)(b:A i)(d:∀r a,t.act? r=some a->rp a->t.heard r->kL t i r):bP S Y n0 A rp' p t w:= ⟨h.e,h.c,h.f,h.s,h.l,h.D,h.B,h.h,λ k x e c=>(h.q k x e c).imp id λ y=> .inl (y.elim id λ⟨r,a,f,g,j,l⟩=> ⟨i,b,Knows.of_before l (d r a f g j)⟩),h.y,h.n,h.o,h.d⟩
theorem bP.I(h:bP S Y n0 A rp p t w)(c:∀b,Y' b->Y b\/(b<w.heap.size/\(∀i,¬(p i).a b)/\∀k x,kk t k=some x->iX x.loc≠some b))(m:∀b,S b->S' b) (f:∀b,S' b->S b\/(b<w.heap.size/\∀i,¬(p i).a b)):bP S' Y' n0 A rp p t w:=by
 refine⟨h.e,λ i b a=> ⟨(h.c i b a).1,λ d=>?_,λ d=>?_⟩,h.f,h.s,h.l,h.D,h.B,λ k x e o=>?_,λ k x e n=>?_,h.y,h.n,h.o,λ b a=>?_⟩
 rcases f b d with y| ⟨_,y⟩;exact(h.c i b a).2.1 y
 grind
 rcases c b d with y| ⟨_,y,_⟩;exact(h.c i b a).2.2 y
 grind
 obtain⟨b,g,j⟩:=o;rcases c b j with y| ⟨_,_,y⟩;exact h.h k x e ⟨b,g,y⟩
 grind
 refine(h.q k x e n).imp (λ⟨y,z⟩=> ⟨?_,z⟩) id;generalize x.loc=l at y⊢;cases l<;>first|exact m _ y|exact y
 rcases a with a|a;rcases f b a with y| ⟨y,_⟩;exact h.d b (.inl y);omega;rcases c b a with y| ⟨y,_⟩;exact h.d b (.inr y);omega
theorem AF(a:wH t y.g=0):(t++ #[y]).heard t.size:=by refine⟨y.g,by simp[pt],?_⟩;rw[deaf_old (fu _)];trivial
theorem CZ(y):(t++ #[y])[t.size]?=some y:=by simp
theorem Iu{g}(a:kL t g k)(b:y.g=g):ov (t++ #[y]) k t.size:=a.hb_new (fu _) (CZ y) b
theorem C4{g r}(b:re (t++ #[y]) k r)(c:Notices (t++ #[y]) r t.size)(h1:(t++ #[y]).heard r)(a:wH t y.g=0)(d:y.g=g):kL (t++ #[y]) g k:= ⟨_,y,CZ y,d,.inr (b.hb (.single (.inr ⟨c,h1,AF a⟩)))⟩
theorem oZ(y):(t++ #[y]).act? t.size=some y.act:=act?_of (CZ y)
theorem agl{c x}(a:x.g=i)(e:x.act= .go c)(f:y.g=c)(l:y.act= .start)(b:wH t i=0)(h:wH t c=0)(d:kL t i k):kL ((t++ #[x])++ #[y]) c k:=by
 have g:(t++ #[x]).act? t.size=some (.go c):=by rw[oZ,e]
 have j:wH (t++ #[x]) c=0:=by grind[Deaf_push,deafStep]
 refine C4 (r:=t.size) (.inr (K2 _ (Iu d a))) (.spawn (child:=c) ?_ ?_ ?_) ((mr (by simp)).2 (AF (a▸b))) (by grind) f;all_goals grind[pn,oZ,CZ,pt]
theorem Wb{j c n x m}(a:x.g=i)(g:x.act= .send c n)(h:y.g=j)(p:y.act= .recvDone c n)(b:wH t i=0)(o:wH ((t++ #[x])++m) j=0)(d:kL t i k):kL (((t++ #[x])++m)++ #[y]) j k:=by
 have l:(t++ #[x]).act? t.size=some (.send c n):=by rw[oZ,g]
 have e:t.size< (t++ #[x]).size:=by simp
 have f:t.size< ((t++ #[x])++m).size:=by grind
 refine C4 (r:=t.size) (.inr (K2 _ (K2 m (Iu d a)))) (.handOver (c:=c) (k:=n) ?_ ?_) ((mr f).2 ((mr e).2 (AF (a▸b)))) (by grind) h;all_goals grind[pn,oZ]
theorem afM{g c r}(h:t.act? r=some (.close c))(d:t.heard r)(e:re t k r)(a:y.g=g)(i:y.act= .recvClosed c)(b:wH t g=0):kL (t++ #[y]) g k:=by have f:=y5 h;exact C4 (e.app _) (.closed (c:=c) (by grind[pn]) (by rw[oZ,i])) ((mr f).2 d) (a▸b) a
theorem VS{g r a}(j:t.act? r=some (.mark (.releaseMerge a)))(h:t.heard r)(i:re t k r)(c:y.g=g)(l:y.act= .mark (.acquire a))(f:wH t g=0) (p:∀op∈t,op.act≠ .mark (.release a)):kL (t++ #[y]) g k:=by have b:=y5 j;refine C4 (i.app _) (.marked (a:=a) b (.inr (by grind[pn])) (by rw[oZ,l]) λ q m d e=>?_) ((mr b).2 h) (c▸f) c;rw[pn d]at e;have⟨op,n,o⟩:=eH.1 e;grind
theorem bP.J{S}(h:tc (eG S) w.heap.size t)(e)(D:∀b,e.b b->e.a b)(r:∀b,e.a b->b<w.heap.size/\¬S b)(o:∀b,S b->b<w.heap.size):bP S (λ _=>False) t.size (λ i=>i=0) (λ _=>False) (λ i=>if i=0 then e else⟨λ _=>False,λ _=>False⟩) t w:=by
 have F:∀b,e.a b->∀k x,kk t k=some x->iX x.loc=some b->¬eG S x.loc->kL t 0 k:=λ b a k x d c s=>by
  have f:x.loc.isMemory=true:=by generalize x.loc=l at c;cases l<;>first|rfl|cases c
  exact(h.known k x d f).resolve_right λ y=>s y.1
 have G:∀b,e.a b->∀l,iX l=some b->¬eG S l:=λ b a l c m=>by cases l<;>simp[iX,Option.some.injEq]at c<;>first| (cases c;done)| (subst c;first|exact(r _ a).2 m|exact m)
 refine⟨λ i b a=>?_,λ i b a=>?_,λ i j b C a A=>?_,λ i b a=>?_,h.clean,λ i b a k x d c=>?_,λ i b a k x d c E=>?_,λ k x d u=>?_,λ k x d f=>?_,λ i g _ q n p=>h.over i g q n p,fu _,h.seen,λ b a=>a.elim (o b) False.elim⟩
 grind
 grind
 grind
 grind
 grind
 grind
 obtain⟨_,_,B⟩:=u;trivial;rcases h.known k x d f with y| ⟨y,z⟩
 grind
 refine .inl ⟨y,z,.inl ?_⟩;obtain⟨op,v,_⟩:=q9 d
 grind
theorem bP.L(h:bP S Y n0 A rp p t w)(s:∀i,A i->i=0)(v:∀a,¬rp a)(m:wH t 0=0):tc (eG S) w.heap.size t:=by
 have key:∀k x,kk t k=some x->x.loc.isMemory=true->kL t 0 k\/(eG S x.loc/\x.kind= .atomic/\(k<n0\/¬t.heard k)):=λ k x c b=>by rcases h.q k x c b with y| ⟨i,f,j⟩| ⟨r,a,_,y,_⟩;all_goals grind
 refine⟨h.l,λ k x c b=>(key k x c b).imp id λ y=> ⟨y.1,y.2.1⟩,λ i g n l e=>?_,m,h.o⟩;by_cases o:i<n0;exact h.y i g o n l e
 ·have⟨x,c,b,u⟩:=e;rcases key i x c b with⟨q,z,f,j,d⟩| ⟨_,f,j⟩
  ·refine⟨q,by grind[pt],?_⟩;obtain d|d:=d;all_goals grind[pt]
  grind
end
end
end Go.Rs
