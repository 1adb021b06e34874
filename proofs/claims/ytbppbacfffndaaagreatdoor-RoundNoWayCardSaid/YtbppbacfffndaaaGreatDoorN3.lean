/- Part of a proof that the statement holds. No conditions. -/
import Derived.Laws.StructEq
import Derived.Laws.CopyRow
import Derived.Laws.IdiomCopy
import Derived.Laws.IdiomStrings
import Derived.OrdersIn
import Derived.LoopNIn
import Derived.RangeFuncSeq
import Derived.RangeFuncIn
import Derived.RangeFuncRecord
import Derived.ChangeKeysEq
import Derived.Test.YtbppbacfffndaaaGreatDoorN2
set_option linter.all false
open Nat renaming le_refl->b2,beq->cr,le_trans->et,mul_le_mul_right->ew,succ_mul->fx,testBit->fz,lt_of_lt_of_le->hs,zero_add->hv,ble->hJ,add_mul->hR,add_le_add_left->hU,add_zero->kg,add_assoc->lf,le_of_ble_eq_true->n1,zero_mul->qc,blt->qF,le_mul_of_pos_right->q5,lt_or_gt_of_ne->so,zero_le->y3,mod_lt->y6
open Go renaming Value->df,execOp->ea,Program->eb,World->ee,Code->ef,Oper->eg,run_underlying->eo,yielded->eV,sizeOf->fl,Act->fu,grownCap->fv,leftOf->fR,typeInfo->gu,maxLen->gw,undef->gE,Exit->hg,wpIn_mono->hy,Operand->hS,Field->kq,results->lk,invoke->lv,heap_alloc_new->l7,setRow_heap->ma,zeroValue->mb,bytesRow->mm,resolve->ny,part->nz,callsIn_wide->pS,grownCap_ge->p5,callFunc->qi,builtin->qn,Calls->qq,Func->qz,callsIn_of_wp_marks->rm,grownCap_le_maxLen->rH,run_storeCells_at->r2,LoopState->yt,ResultVar->y0,TypeDesc->y5,wpOpsIn->y9
open Go.Sem renaming run_bind->dk,run_pure->k6
open Bool renaming and_eq_true->dr,not_eq_true'->hQ,false_eq_true->hY,not_true->p7,or_eq_true->vi,and_eq_true->b1
open Go.Result renaming andThen_ok->ei,andThen->hP,ok->y2
open List renaming mem_map->ej,length->ep,getElem?_eq_some_iff->eQ,mem_append->fb,mem_append_left->gb,length_take->gg,mem_cons_of_mem->hh,length_append->hq,all_eq_true->ht,mem_append_right->hA,mem_cons_self->hD,length_drop->hF,map_cons->hG,mem_singleton->hM,append_assoc->hN,append_nil->ih,replicate->jc,nodup_nil->jA,mem_cons->j2,drop_eq_getElem_cons->kH,getElem?_cons_zero->kL,getElem?_take->k3,ext_getElem?->k4,nodup_cons->k7,getElem?_eq_getElem->lB,getElem?_drop->l1,length_cons->l8,map_nil->ml,take_append_drop->mv,range'_succ->mZ,forIn_cons->ng,getElem?_append_left->nH,getElem?_set_self->nL,length_replicate->nV,getElem?_set_ne->n2,getElem?_append->n3,size_toArray->o2,nodup_append->pc,map_toArray->pt,length_nil->pv,length_map->pz,map_append->pH,drop_take->pX,drop_drop->p1,eq_nil_of_length_eq_zero->qO,getElem?_take_of_lt->q4,getElem?_cons_succ->q6,drop_of_length_le->q8,take_of_length_le->q9,getElem?_eraseIdx->re,length_singleton->rL,mem_of_mem_drop->r1,getElem?_of_mem->r3,length_eraseIdx->r4,range_eq_range'->r5,pairwise_cons->sv,mem_filterMap->sy,getElem?_map->s7,any_eq_false->tc,drop_append->tl,isEmpty_iff->tw,filter_cons->u0,drop_length->u1,range'_zero->u2,drop_zero->vL,mapM_cons->w6,forIn_nil->xM,map_map->x3,range'->y4
open Go.Value renaming int->en,pointer->hZ,func->np
open Go.Region renaming wanted->eH,binds->iA,ready->pN
open Array renaming getElem?_eq_some_iff->eL,length_toList->hB,range->kk,replicate->k8,ext'->mn,toList_map->mA,getElem?_append_left->nB,toArray_toList->oj,toList_filter->o1,getElem?_eq_getElem->qW,size_append->s4,toList_push->s5
open Go.Instr renaming checkKey->gf,sameBits->k5,mapUpdate->mx,findNow->nb,sameNow->nc,makeFunc->pk,keyThatStays->rV,buildSlice->sc,findAsking->sf,makeSlice->sr,sureAddr->s0,storeAt->tm,sliceAt->tv,yield->vR,fill->x0
open Option renaming bind_some->gk,map_some->l9,map_eq_some_iff->mr,map_none->nf,isSome_iff_exists->q3,bind_eq_some_iff->q7
open Go.Calls renaming mono->gl
open Go.ChangeMaps renaming setBlock->hz
open Go.Builtin renaming append_->hL,zeroCells->kV,lenOf->pn,firstCells->rr
open Go.Fence renaming wide->j1
open Go.Op renaming equalIn->j3,eqFields->p6,eqItems->p8
open Go.Act renaming eval->ko
open PUnit renaming unit->kp
open LawfulMonad renaming pure_bind->kR
open Go.IntKind renaming wrap->lb,signed->tg,bits->vE
open Go.World renaming putObj_heap_other->lA,putObj_heap_same->q0,putObj->vo
open Go.Ending renaming returned->l4
open BEq renaming comm->mo
open Go.Oper renaming wp->nv,upon->yl
open Go.Deferred renaming ofValue->o0
open ForInStep renaming yield->pV
open Function renaming comp_def->s8
open Go.Exit renaming inBlock->vj
open Go.Made renaming depth->x1
open Go.stepG renaming exec->x2
open Go.Frame renaming atR->ym
open Std.Legacy.Range renaming forIn_eq_forIn_range'->za,size->zh
open ByteArray renaming size->zj
open Go.Abs.Map renaming av->bn
open Go.Abs.RM renaming aI->bw,af->bV
open Iff renaming rfl->b0
namespace Go.Abs
section
variable[Dr]
variable{P:Program}{E:aq}{w0:bC}{w:World}{conc:bf}{st:au}{a:Act}
variable{W0:W}{w':World}{o:Oper}{v:Value}{d:Option Nat}{s:bQ}
def cz(P:eb)(w0:bC)(o:eg)(a:fu)(w:ee)(st':au):=∀next Q,(∀a' w',cT P w0 st' a' w'->next a' w')->o.wp P a w next Q
theorem cz.b{st'}(c:(ea a.eval o).run P w= .ok (.value v) w')(h:cT P w0 st' (a.put o.dst v) w'):cz P w0 o a w st':=by intro next Q b;unfold nv;rw[c];exact b _ _ h
theorem cz.c{st'}(c:(ea a.eval o).run P w= .ok .skip w')(h:cT P w0 st' (a.put o.dst undef) w'):cz P w0 o a w st':=by intro next Q b;unfold nv;rw[c];exact b _ _ h
theorem cz.e{st'}{f:Nat}{args}{R:df->ee->Prop}(d:(ea a.eval o).run P w= .ok (.enter f args) w')(c:qq P f args w' λ e b=>∃v,e= .returned v/\R v b)(h:∀v b,R v b->cT P w0 st' (a.put o.dst v) b):cz P w0 o a w st':=by intro next Q g;unfold nv;rw[d];refine gl c ?_;grind
theorem Q1{m d L g s W0 st'}(h:cD st m (.a d L g s W0)=some st'):(∃e,d=some e/\st.e e=true/\(∀q,m=some q->e≠q)/\st'={N:=st.N,d:=nT m st.d,a:=Map.jw st.a e ⟨L,g,s⟩,b:=eX st.b W0,c:=st.c})\/(d=none/\st'={N:=st.N,d:=nT m st.d,a:=st.a,b:=eX st.b W0,c:=st.c}):=by unfold cD er.a at h;grind[xY,gF]
theorem nM{w1 conc1 st'}(h1:aD P w0 conc1 {st with b:=eX st.b W0} a w1)(f:cD st none (.a d [] true s W0)=some st')(g:di P w1 conc1 (ae conc1) s v):cT P w0 st' (a.put d v) w1:=by refine⟨conc1,?_⟩;rcases Q1 f with⟨c,rfl,e,_,rfl⟩| ⟨rfl,rfl⟩;exact h1.K (d:=c) (sl:= ⟨_,_,s⟩) (v:=v) (ms:=st.d) e (λ _ h=>h) (by grind) ⟨by grind,absurd (cG _)⟩;trivial
theorem wG(h:aD P w0 conc st a w)(c:da P conc st w (aV W0) W0):∃conc1,conc1=bB conc (aV W0)/\aD P w0 conc1 {st with b:=eX st.b W0} a w/\fU conc conc1/\cM w (ae conc) (ae conc1):= ⟨_,rfl,h.A c,I1 _ _,sX w _ _⟩
theorem Nz{F}(c:da P conc st w F W0)(d):(bn (eX st.b W0) d).map (·.1)=(bn st.b d).map (·.1):=by rcases vy st.b W0 d with⟨a,_⟩| ⟨o,a,b⟩;rw[a];have⟨cv,o⟩:=o;have⟨⟨f,e⟩,_⟩:=c d cv o b;grind
theorem aD.R(h:aD P w0 conc st a w){id ver c o w'}(e:cm w w')(m:∀cv g i,conc id=some (cv,g,i)->cv<ver)(j:∀b,dB c b->w.heap.size<=b/\b<w'.heap.size)(k:∀d,fU conc d->cM w (ae conc) (ae d)->(∀b,w.heap.size<=b->¬dB c b->ae d b)->fS P w' d (ae d) c true o):∃d,aD P w0 d {st with b:=Map.jw st.b id (ver,o)} a w'/\d id=some (ver,c,true)/\fU conc d/\cM w (ae conc) (ae d):=by have⟨d,q,r,s,_,t⟩:=h.I (id:=id) (ver:=ver) (c:=c) (o:=o) (w':=w') (λ cv g i l=> .inl (m cv g i l)) e.m e.i e.g e.f (λ b f _=>e.e b f) (λ b f=> ⟨.inl (j b f).1,(j b f).2⟩) (λ d k1 _ _ n p=>k d k1 n p);grind
theorem wv(h:aD P w0 conc st a w){W0}(t:da P conc st w (aV W0) W0){d o f u st' c w'}(l:(iY d o f W0).af st=some u)(S:cD st none u=some st')(H:cm w w')(I:∀b,dB c b->w.heap.size<=b/\b<w'.heap.size)(F:∀e,fU conc e->cM w (ae (bB conc (aV W0))) (ae e)->(∀b,w.heap.size<=b->¬dB c b->ae e b)->fS P w' e (ae e) c true o)(G:∀e ver,e d=some (ver,c,true)->bN P w' e (ae e) (f ver) c):cT P w0 st' (a.put (some d) c) w':=by
 obtain⟨conc1,rfl,p,r,R⟩:=wG h t;have key:∀ver,(∀cv j m,bB conc (aV W0) d=some (cv,j,m)->cv<ver)->u= ⟨some (d,⟨[],true,.v (f ver)⟩),W0++ [(d,(ver,o))]⟩->cT P w0 st' (a.put (some d) c) w':=by
  intro ver L K;subst K;have⟨z,k1,M,T,U⟩:=p.R (id:=d) (ver:=ver) (c:=c) (o:=o) (w':=w') H L I λ e n D E=>F e ⟨n.1.trans r.1,λ id cv j m i=>by have⟨A,c',y,O,Y⟩:=r.2 id cv j m i;have⟨Q,c2,X,Z,aa⟩:=n.2 id A c' y O;grind⟩ D E;refine (nM (st:=st) (W0:=W0++ [(d,(ver,o))]) (d:=some d) (s:= .v (f ver)) (st':=st') (v:=c) (conc1:=z) (w1:=w') (a:=a) (w0:=w0) (P:=P)) ?_ ?_ (G _ _ M);rw[DM];trivial;trivial
 simp[iY,bV]at l;have g:=Nz t d;cases x:bn st.b d with
 |none=>rw[x]at l g;cases l;refine key 0 (λ cv j m i=>?_) rfl;have:bB conc (aV W0) d=none:=p.r d (by cases k:bn (eX st.b W0) d with|none=>rfl|some q=>rw[k]at g;cases g);rw[this]at i;cases i|some q=>have⟨B,V⟩:=q;rw[x]at l g;cases l;refine key (B+1) (λ cv j m i=>?_) rfl;cases k:bn (eX st.b W0) d with|none=>rw[k]at g;cases g|some q=>have⟨C,N⟩:=q;rw[k]at g;simp at g;have⟨c',y,n,_⟩:=p.q d C N k;rw[n]at i;cases i;omega
end
section
variable[Dr]
variable{P:Program}{E:aq}{w0:bC}{w:World}{conc:bf}{st:au}{a:Act}
variable{e:Ty}{ok:Nat->Prop}{d:Nat}{u:er}{cs:Array Value}{U:Nat}{w':World}{vs:List Value}{t:Ty}{W0:W}{b:Nat}{z:Array Value}{l:List e.b}
theorem da.c(P)(conc)(st)(w):da P conc st w (aV []) []:=da.b
theorem Bq(o):(w.alloc o).heap[w.heap.size]?=some o:=l7 w o
theorem MU{l st'}(h:aD P w0 conc st a w)(k:(iY d (.eu t l) (λ v=> .dx d v 0) []).af st=some u)(f:cD st none u=some st')(j:l.length=t.a)(h1:∀v∈cs.toList,eY v=true)(m:bU (bN P w conc (ae conc)) l cs.toList):cT P w0 st' (a.put (some d) (.pointer (some ⟨w.heap.size,0,none⟩))) (w.alloc (.cells cs U)):=by
 refine wv h (da.c P conc st w) k f (cm.d w _) (λ b g=>?_) (λ c e o p=>?_) (λ c ver i=>?_);cases g;simp;refine⟨rfl,_,cs,U,rfl,Bq _,j,h1,m.e λ x v n=>n.b (cm.j (cm.d w _) _) ?_ e⟩
 grind[aV,mT]
 exact⟨_,_,_,i,b2 _,rfl,by grind⟩
theorem KG{st'}(h:aD P w0 conc st a w)(o:da P conc st w (aV W0) W0)(B:(iY d (.c8 e l) (.dj d) W0).af st=some u)(p:cD st none u=some st'){cap}(y:l.length<=cap)(A:cap<=gw){off}(C:off+cap*e.a<=cs.size)(v:cm w w')(F:w.heap.size<=b)(q:w'.heap[b]?=some (.cells cs U (0,0)))(D:∀i x,l[i]?=some x->aw P e w' (λ f=>(ae (bB conc (aV W0)) f\/w.heap.size<=f)/\f≠b) (aS cs.toList (off+i*e.a) e.a) x):cT P w0 st' (a.put (some d) (.slice (some ⟨b,off,none⟩) l.length cap)) w':=by refine wv h o B p v (λ g r=>?_) (λ j E k m=>?_) (λ j ver s=>?_);cases r;grind;refine⟨rfl,.inr ⟨b,off,cap,cs,U,rfl,q,y,A,C,λ i x t=>(D i x t).b e ⟨b2 _,λ _ _ _=>rfl⟩ ?_⟩⟩;rintro g⟨c,n⟩_;by_cases z:g<w.heap.size;obtain c|c:=c;exact k _ c z;omega;exact m _ (by omega) (λ e=>n (by cases e;rfl));exact⟨_,_,_,s,b2 _,rfl,λ _=>rfl⟩
theorem Jn{d e l u st' W0 cs}{U:Nat}(h:aD P w0 conc st a w)(f:da P conc st w (aV W0) W0)(q:(iY d (.c8 e l) (.dj d) W0).af st=some u)(g:cD st none u=some st'){cap}(o:l.length<=cap)(p:cap<=gw)(r:cs.size=cap*e.a){w' b}(n:cm w w')(j:w.heap.size<=b)(k:w'.heap[b]?=some (.cells cs U (0,0)))(s:∀i x,l[i]?=some x->aw P e w' (λ c=>(ae (bB conc (aV W0)) c\/w.heap.size<=c)/\c≠b) (aS cs.toList (i*e.a) e.a) x):cT P w0 st' (a.put (some d) (.slice (some ⟨b,0,none⟩) l.length cap)) w':=KG h f q g o p (off:=0) (by rw[hv];exact Nat.le_of_eq r.symm) n j k λ i x m=>by rw[hv];exact s i x m
theorem abW{n a i}(e:z.size=a)(b:i<n):aS ((kk (n*a)).map (λ j=>z[j%z.size]!)).toList (i*a) a=z.toList:=by
 apply k4;intro j;unfold aS;rw[k3];split;rename_i c;have d:i*a+j<n*a:=by
  have:(i+1)*a<=n*a:=ew _ b
  grind
 grind[Nat.add_comm,Nat.add_mul_mod_self_right,Nat.mod_eq_of_lt,mA,Array.toList_range,List.getElem?_range,qW];grind
def gO(P:eb)(w:ee)(ok:Nat->Prop)(e:Ty)(l:List e.b)(vs:List df):=vs.length=l.length*e.a/\(∀v∈vs,eY v=true)/\∀i x,l[i]?=some x->aw P e w ok (aS vs (i*e.a) e.a) x
theorem gO.f(a:e.j=true)(n)(d:z.toList=dM e):gO P w ok e (jc n e.g) ((kk (n*e.a)).map (λ j=>z[j%z.size]!)).toList:=by
 have c:z.size=e.a:=by grind[Fi]
 refine⟨by simp,?_,λ i x b=>?_⟩;all_goals grind[mA,y6,Gs,eQ,nV,abW,Rb]
theorem ON{l m:List df}{o n}(b:o+n<=l.length)(a:m.length=n):aS (l.take o++m++l.drop (o+n)) o n=m:=by grind[aS,gg,hN,List.drop_left',List.take_left']
theorem T4{l m o n p q}(e:o+n<=l.length)(d:m.length=n)(a:p+q<=o\/o+n<=p):aS (l.take o++m++l.drop (o+n)) p q=aS l p q:=by
 unfold aS;have c:(l.take o).length=o:=by grind
 obtain a|a:=a
 grind[hN,hF,pX]
 have b:(l.take o++m).length=o+n:=by grind
 rw[tl,b,q8 (by omega),List.nil_append,p1]
 grind
theorem gO.g{us}(h:gO P w ok e l vs){i}(k:i<l.length){x}(m:aw P e w ok us x):gO P w ok e (l.set i x) (vs.take (i*e.a)++us++vs.drop (i*e.a+e.a)):=by
 have⟨g,n,o⟩:=h;have f:=m.d;have d:i*e.a+e.a<=vs.length:=by rw[g,<-fx];exact ew _ k
 refine⟨?_,?_,λ j y a=>?_⟩
 grind
 grind[List.mem_of_mem_take,aw.f,r1]
 by_cases b:i=j;subst b;rw[nL (by omega)]at a;cases a;rw[ON d f];omega;have:aS (vs.take (i*e.a)++us++vs.drop (i*e.a+e.a)) (j*e.a) e.a=aS vs (j*e.a) e.a:=by
  refine T4 d f ?_;rcases so b with c|c
  right;rw[<-fx];exact ew _ c;left;rw[<-fx];exact ew _ c
 grind
theorem Kw{d}(a:0<t.a)(h:aw P t w ok vs d):(t.d vs).cells.toList=vs:=Mm h
theorem Ql(hE:al P E)(h:aD P w0 conc st a w){L}(z:eO a.tmps L)(A:0<e.a){F}:{ps:List (Nat×hS)}->{l:List e.b}->{W0:W}->{r:List e.b×W}->{cs:Array df}->(rE E L e l W0 ps).af st=some r->(∀id∈aV r.2,id∈F)->((∀id∈aV W0,id∈F)->da P conc st w F W0)->gO P w (ae (bB conc F)) e l cs.toList->(∀id∈aV W0,id∈aV r.2)/\r.1.length=l.length/\da P conc st w F r.2/\∃cs',x0 (λ i=>some (i*e.a,e.a)) cs (ps.map λ p=>(p.1,a.eval p.2))=some cs'/\gO P w (ae (bB conc F)) e r.1 cs'.toList
 | [],l,W0,r,cs,b,f,k,j=>by cases b;exact⟨λ _ h=>h,rfl,k f,_,rfl,j⟩| (i,x)::ps,l,W0,r,cs,b,f,k,j=>by
  simp[rE]at b;have⟨s,G,m⟩:=bw b;have⟨d,H,q⟩:=bw m;have⟨K,t⟩:=dE q;have y:i<l.length:=by simp_all
  have⟨us,C,D⟩:=nO hE h H (jJ h z G);have sub:∀ps l W0 r,(rE E L e l W0 ps).af st=some r->∀id∈aV W0,id∈aV r.2:=by
   intro ps
   induction ps with|nil=>intro l W0 r b;cases b;simp|cons p ps N=>have⟨i,x⟩:=p;intro l W0 r b id c;have⟨s,k1,m⟩:=bw b;have⟨d,I,q⟩:=bw m;have⟨B,t⟩:=dE q;grind[id,jZ,gb]
  have u:∀id∈aV (W0++d.2),id∈F:=λ id c=>f id (sub _ _ _ _ t id c);have g:=D F λ id c=>u id (by grind[jZ,hA]);have M:=j.g y g.2;have v:=Kw A g.2;rw[<-C]at v;have:=Ql hE h z A (F:=F) (cs:=(cs.toList.take (i*e.a)++us++cs.toList.drop (i*e.a+e.a)).toArray) t f (λ _=>(k λ id c=>u id (by grind[jZ,gb])).e g.1) (by omega);have⟨k1,I,B,cs',O,J⟩:=this;refine⟨λ id c=>k1 _ (by grind[jZ,gb]),by grind,B,_,?_,J⟩;rw[hG,KT (o:=i*e.a) (n:=e.a) rfl v g.2.d];omega;have:=j.1;simp[hB]at this;rw[this,<-fx];exact ew _ y
variable{T:Nat}{o:Oper}{ps:Array (Nat×Operand)}{r:List e.b×W}
theorem JL(a:0<t.a):(t.d (dM t)).cells.toList=dM t:=by cases t<;>first|rfl| (simp[Ty.sz]at a;done)|simp[Ty.val,Ty.c,Value.cells]
theorem aif(hE:al P E)(h:aD P w0 conc st a w){o:eg}{T d:Nat}{t}(g:o.op= .alloc T)(f:o.dst=some d)(hT:E.b T=some t){u st'}(i:(iY d (.eu t (rF t)) (λ v=> .dx d v 0) []).af st=some u)(e:cD st none u=some st'):cz P w0 o a w st':=by obtain⟨b,rfl,c⟩:=hE.b hT;have j:=JL c.l;have:=MU (U:=T) (cs:=(b.a.d (dM b.a)).cells) h i e (by rw[acU _]) (by grind[Gs]) (by grind[LB]);refine cz.b (v:= .pointer (some ⟨w.heap.size,0,none⟩)) (w':=w.alloc (.cells (b.a.d (dM b.a)).cells T)) ?_ (by rw[f];exact this);simp only[ea,g,Instr.alloc];rw[dk,dk,Uu c];rfl
where
 acU (t:Ty):(rF t).length=t.a:=by induction t<;>simp_all [rF,Ty.a]
theorem ahn(hE:al P E)(h:aD P w0 conc st a w){x}(f:o.op= .box T x)(n:o.dst=some d){s l}(i:(rd [] x).af st=some s)(c:s.a.af st=some l)(e:l.length=t.a){st'}(g:(iY d (.eu t l) (λ v=> .dx d v 0) []).af st=some u)(b:cD st none u=some st'):cz P w0 o a w st':=have⟨vs,j,k,m⟩:=Cg c (jJ h (cG _) i);have:=MU (U:=T) (cs:=(a.eval x).cells) h g b e (by grind) (by grind);cz.b (v:= .pointer _) (w':=w.alloc _) (by simp[ea,f,Instr.box];rfl) (by grind)
theorem ah7(h:aD P w0 conc st a w)(p:o.op= .assign (.const (.slice none 0 0)))(i:o.dst=some d){st'}(j:(iY d (.c8 e []) (.dj d) []).af st=some u)(f:cD st none u=some st'):cz P w0 o a w st':=by refine cz.b (v:= .slice none 0 0) (w':=w) (by simp_all[ea,ko]) ?_;rw[i];exact wv h (da.c P _ _ w) j f (cm.h w) (λ b n=>by trivial) (λ c k l m=> ⟨rfl,by grind⟩) (λ c ver g=> ⟨_,_,_,g,b2 _,rfl,λ _=>rfl⟩)
theorem yo(hE:al P E)(hT:E.b T=some (.aH e)):∃a,P.underlying T=some (.slice a)/\jy P a e:=by have⟨d,c,b⟩:=hE.b hT;have:=b.g;grind
theorem ZZ(hE:al P E)(hT:E.c T=some e):∃a,P.underlying T=some (.slice a)/\jy P a e:=by grind[aq.c,yo]
theorem RB(hE:al P E)(h:aD P w0 conc st a w){L}(q:eO a.tmps L){n}(J:o.op= .buildSlice T n ps)(hT:∃b,P.underlying T=some (.slice b)/\jy P b e) (k:e.j=true) (I:n*e.a<=16777216) (l:(rE E L e (jc n e.g) [] ps.toList).af st=some r):da P conc st w (aV r.2) r.2/\r.1.length=n/\∃cs' b,cs'.size=n*e.a/\gO P w (ae (bB conc (aV r.2))) e r.1 cs'.toList/\(ea a.eval o).run P w= .ok (.value (.slice (some ⟨w.heap.size,0,none⟩) n n)) (w.alloc (.cells cs' b)):=by
 have⟨b,u,i,C,D,G,H,c⟩:=hT;have s:gO P w (ae (bB conc (aV r.2))) e (jc n e.g) ((kk (n*e.a)).map (λ j=>(e.d (dM e)).cells[j% (e.d (dM e)).cells.size]!)).toList:=gO.f k n (JL c);have⟨_,d,A,cs',N,f⟩:=Ql hE h q c (F:=aV r.2) l (λ _ h=>h) (λ _=>da.b) s;rw[nV]at d;have g:cs'.size=n*e.a:=by have:=f.1;grind
 refine⟨A,d,_,b,g,f,?_⟩;have K:(ps.map λ x=>(x.1,a.eval x.2)).toList=ps.toList.map λ p=>(p.1,a.eval p.2):=by simp
 have B:¬(n*i.size>2^24):=by grind
 have y:(mb b).run P w= .ok (e.d (dM e)) w:=by simp_all[mb,gu]
 have t:(fl b).run P w= .ok e.a w:=by simp_all[fl,gu]
 have key:∀z,(n*e.a=0\/z=(e.d (dM e)).cells)->x0 (λ i=>some (i*e.a,e.a)) ((kk (n*e.a)).map (λ j=>z[j%z.size]!)) (ps.map λ x=>(x.1,a.eval x.2)).toList=some cs':=by grind
 have M:(sc T n (ps.map λ x=>(x.1,a.eval x.2))).run P w= .ok (.slice (some ⟨w.heap.size,0,none⟩) n n) (w.alloc (.cells cs' b)):=by
  unfold sc;rw[dk,eo u];dsimp only[hP];rw[dk,t];dsimp only[hP];have m:¬(n*e.a>2^24):=by omega
  rw[if_neg m];by_cases h0:n*e.a=0;rw[if_pos h0];have:=key #[] (.inl h0);simp only[kR,this];rfl;rw[if_neg h0];have:=key _ (.inr rfl);simp only[kR];rw[dk,y];dsimp only[hP];simp only[this];rfl
 simp_all[ea,dk]
theorem VB(hE:al P E)(h:aD P w0 conc st a w){n}(s:o.op= .buildSlice T n ps)(z:o.dst=some d)(hT:∃c,P.underlying T=some (.slice c)/\jy P c e)(l:e.j=true)(q:n*e.a<=16777216)(m:(rE E [] e (jc n e.g) [] ps.toList).af st=some r){st'}(t:(iY d (.c8 e r.1) (.dj d) r.2).af st=some u)(g:cD st none u=some st'):cz P w0 o a w st':=by
 have⟨v,C,cs',c,k,y,B⟩:=RB hE h (cG _) s hT l q m;have f:0<e.a:=by have⟨_,_,_,_,_,_,_,f⟩:=hT;omega
 have i:=Jn (U:=c) (cs:=cs') (cap:=n) (w':=w.alloc (.cells cs' c)) (b:=w.heap.size) h v t g (by omega) (by unfold gw;have:=q5 n f;omega) k (cm.d w _) (b2 _) (Bq _) (λ j x p=>by refine(y.2.2 j x p).b e (cm.j (cm.d w _) _) ?_;intro b i A;grind);grind[cz.b]
end
section
variable[Dr]
variable{P:Program}{E:aq}{w0:bC}{w:World}{conc:bf}{st:au}{a:Act}
variable{n:Int}{e:Ty}{v:Value}
theorem Ws(h0: -9223372036854775808<=n)(h1:n<9223372036854775808):IntKind.i64.wrap n=n:=by
 have a:(2:Int)^IntKind.i64.bits=18446744073709551616:=by decide
 have b:(2:Int)^ (IntKind.i64.bits- 1)=9223372036854775808:=by decide
 have c:IntKind.i64.signed=true:=by decide
 grind[IntKind.wrap]
theorem afs{T a:Nat}(p:P.underlying T=some (.slice a))(g:jy P a e)(h0:0<=n)(h1:n<=(iZ:Int)):(sr T (.int .i64 n) (.int .i64 n)).run P w= .ok (.slice (some ⟨w.heap.size,0,none⟩) n.toNat n.toNat) (w.alloc (.cells ((kk (n.toNat*e.a)).map (λ j=>(e.d (dM e)).cells[j% (e.d (dM e)).cells.size]!)) a)):=by
 have⟨i,h,s,t,u,v⟩:=g;unfold iZ at h1;have r:(mb a).run P w= .ok (e.d (dM e)) w:=by simp_all[mb,gu]
 have m:(fl a).run P w= .ok e.a w:=by simp_all[fl,gu]
 have o:(gu a).run P w= .ok i w:=by simp[gu,h]
 have d:decide ((i.bytes:Int)*n>2^48)=false:=by have:(i.bytes:Int)*n<=32768*4294967296:=Int.mul_le_mul (by omega) (by omega) h0 (by omega);grind
 have l:∀k,(askRoom k).run P w= .ok () w:=by simp
 unfold sr;rw[dk,eo p];dsimp only[hP];simp only[asInt,Go.asIntOf,kR];rw[dk,o];dsimp only[hP];rw[Ws (by omega) (by omega)];have c2:decide (n<0)=false:=by grind
 have c3:decide (n>n)=false:=by simp
 simp only[d,c2,c3,Bool.or_false,hY,if_false];rw[dk,l];dsimp only[hP];rw[dk,m];dsimp only[hP];by_cases b:n.toNat*e.a=0;have c:∀f:Nat->df,(kk 0).map f= #[]:=by simp
 rw[if_pos b];simp[b,c];rfl;rw[if_neg b,dk,r];rfl
theorem Zx(hE:al P E)(h:aD P w0 conc st a w){o:eg}{T d x:Nat}(t:o.op= .makeSlice T (.tmp x) (.tmp x))(p:o.dst=some d)(hT:E.b T=some (.aH e))(r:e.j=true)(D:(c9 [] (.tmp x)).af st=some (.aE (.ay .i64) n))(h0:0<=n)(h1:n<=(iZ:Int)){u st'}(z:(iY d (.c8 e (jc n.toNat e.g)) (.dj d) []).af st=some u)(m:cD st none u=some st'):cz P w0 o a w st':=by have⟨g,B,f⟩:=yo hE hT;have⟨i,G,H,I,J,v⟩:=f;have F:=JL v;have⟨vs,k,l⟩:=dQ h (cG _) D;have A:gO P w (ae conc) e (jc n.toNat e.g) _:=gO.f r n.toNat F;have c:=Jn (U:=g) (cs:=((kk (n.toNat*e.a)).map (λ j=>(e.d (dM e)).cells[j% (e.d (dM e)).cells.size]!))) (cap:=n.toNat) (b:=w.heap.size) h (da.c P conc st w) z m (by simp) (by grind[gw,iZ]) (by simp) (cm.d w _) (b2 _) (Bq _) (λ j y s=>by refine(A.2.2 j y s).b e (cm.j (cm.d w _) _) ?_;intro b c K;grind[aV,mT]);rw[nV]at c;refine cz.b ?_ (by rw[p];omega);simp only[ea,t];rw[dk,vb k l,afs B f h0 h1];rfl
theorem Jm{T a}(f:je P T a){b off cs}{U:Nat}(c:w.heap[b]?=some (.cells cs U (0,0))){vs}(i:v.cells.toList=vs)(h1:∀u∈vs,eY u=true)(d:vs.length=a.a.a)(g:off+a.a.a<=cs.size):(tm T (.pointer (some ⟨b,off,none⟩)) v).run P w= .ok () (w.setRow b (cs.toList.take off++vs++cs.toList.drop (off+a.a.a)).toArray):=by
 have h:v.cells.size=a.a.a:=by grind
 have:=r2 P b off U vs 0 cs w c (by omega) (λ u e=>by have:=h1 u e;trivial);unfold tm storeVar;grind[s0,dk,KO,hP]
theorem BJ(h:aD P w0 conc st a w){W0}(t:da P conc st w (aV W0) W0){id cv c g b cs' st'}(j:bB conc (aV W0) id=some (cv,c,true))(u:dB c b)(m:cD st none ⟨none,W0++ [(id,(cv,g))]⟩=some st')(s:∀f w',fU (bB conc (aV W0)) f->fN (ae (bB conc (aV W0))) w w'->cM w (ae (bB conc (aV W0))) (ae f)->w'=w.setRow b cs'->fS P w' f (ae f) c true g):cT P w0 st' a (w.setRow b cs'):=by
 obtain⟨conc1,rfl,l,z,A⟩:=wG h t;have⟨n,k1,_⟩:=l.I (id:=id) (ver:=cv) (c:=c) (o:=g) (w':=w.setRow b cs') (λ y x C B=>by grind) rfl rfl ⟨rfl,λ _=>b2 _⟩ (by simp) (λ k i v=>setRow_other w b k cs' λ e=>v cv c j (e▸u)) (λ k i=> ⟨.inr ⟨cv,c,j,i⟩,by rw[size_setRow];exact(l.f _ _ c _ j i).2⟩) (λ f p _ q r _=>s f _ p q r rfl);refine⟨n,?_⟩;cases m;rw[DM];trivial
theorem V7(h:eY v=true):v.oneCell'=true:=by trivial
variable{ok:Nat->Prop}{w':World}{l:List e.b}
def nR(P:eb)(w:ee)(ok:Nat->Prop)(e:Ty)(l:List e.b)(v:df)(a:List df):=∃ad cap,v= .slice ad l.length cap/\gO P w ok e l a/\((l= []/\a= [])\/∃b off cs T fr,ad=some ⟨b,off,none⟩/\w.heap[b]?=some (.cells cs T fr)/\off+l.length*e.a<=cs.size/\aS cs.toList off (l.length*e.a)=a)
theorem BA(c:0<e.a){cs off}(n:off+l.length*e.a<=cs.length)(h:∀i x,l[i]?=some x->aw P e w ok (aS cs (off+i*e.a) e.a) x):gO P w ok e l (aS cs off (l.length*e.a)):=by
 have b:=J9 n;refine⟨b,?_,λ i x g=>?_⟩;intro v o;obtain⟨j,a,rfl⟩:=List.mem_iff_getElem.1 o;rw[b]at a;have k:j/e.a<l.length:=(Nat.div_lt_iff_lt_mul c).2 a;refine aw.f e (h (j/e.a) l[j/e.a] (lB k)) _ ?_;have r:j%e.a<e.a:=y6 _ c;have f:=Nat.div_add_mod j e.a;have p:(aS cs (off+j/e.a*e.a) e.a)[j%e.a]?=some (aS cs off (l.length*e.a))[j]:=by
  grind[lB,aS]
 grind
 have q:i*e.a+e.a<=l.length*e.a:=by rw[<-fx];exact ew _ ((eQ.1 g).1)
 grind[Fg]
theorem Ug(j:0<e.a)(h:aw P (.aH e) w ok [v] l):∃k,nR P w ok e l v k:=by
 have⟨ad,cap,a,i,c⟩:=h;simp[List.cons.injEq,and_true]at a;obtain c| ⟨b,off,cs,T,fr,d,m,f,n,_,g⟩:=c;obtain rfl:l= []:=qO (by omega);exact⟨[],_,_,a,⟨by simp,by simp,by simp⟩,by grind⟩;have:=ew e.a i;have:off+l.length*e.a<=cs.toList.length:=by simp;omega
 exact⟨_,_,_,a,BA j this g,.inr ⟨b,off,cs,T,fr,d,f,by simpa using this,rfl⟩⟩
theorem Pe(hE:al P E)(h:aD P w0 conc st a w)(A:0<e.a){b}{m:List e.b×W}(d:(gX E (.aH e) b).af st=some m)(j:bN P w conc (ae conc) b v):∃i,nR P w (ae conc) e m.1 v i:=by
 have⟨vs,l,n⟩:=Ca hE h d j;have fin:m.2= []->∃i,nR P w (ae conc) e m.1 v i:=λ h0=>by
  have:=(n [] (by simp[h0,aV])).2;rw[mT]at this;have y:=this.d
  match vs,y with| [u],_=>rw[show v=u from l];simp_all[Ug]
 cases b<;>simp[gX,bV]at d;case dj=>
  split at d;rename_i z;obtain⟨f,rfl,c,H,F,s,rfl⟩:=iQ h z d j;split at f;rename_i x g;cases f;obtain⟨t,rfl⟩:=kC g;cases t;obtain⟨_,⟨rfl,rfl⟩| ⟨B,off,cap,cs,U,o,C,p,D,q,r⟩⟩:=s;exact⟨[],_,0,rfl,⟨by simp,by simp,by simp⟩,by grind⟩;have G:=et (hU (ew _ p) _) q;exact⟨_,_,_,o,BA A (by omega) r,by grind⟩;trivial;all_goals try(cases d;done)
  all_goals
   have⟨_,f⟩:=dE d;split at f;cases f;first|exact fin rfl| (rename_i g;have⟨k,_⟩:=kC g;cases k)
   cases f
 all_goals first| (cases d;done)| (cases d;exact fin rfl)| (split at d<;>cases d;exact fin rfl)
theorem Ec{a}(h:nR P w ok e l v a)(o:w'.heap=w.heap):(rr e.a l.length v).run P w'= .ok a.toArray w':=by
 have⟨ad,cap,f,g,i⟩:=h;subst f;obtain⟨rfl,rfl⟩| ⟨b,off,cs,T,fr,rfl,k,m,d⟩:=i
 cases ad with
 |none=>rfl
 |some ad=>simp[rr,loadCells,loadCellsFrom]
 refine run_firstCells_some (P:=P) w' e.a l.length ⟨b,off,none⟩ l.length cap a g.1 λ j v c=>?_;rw[qf];have:w'.cell? ⟨b,off+j,none⟩=cs[off+j]?:=Go.cell_of_row w' b (off+j) cs T fr (by grind);rw[<-d]at c;obtain⟨_,n⟩:=Ct c
 grind
theorem TW{T a ty:Nat}{i}(u:P.underlying T=some (.slice a))(k:P.info? a=some i)(n:i.size=e.a)(o:i.bytes<=32768)(p:i.zero=some (e.d (dM e))){m s x olds d ok'}(r:nR P w ok e l s olds)(c:nR P w ok' e m x d){ad cap}(t:s= .slice ad l.length cap)(A:cap<l.length+m.length)(b:l.length+m.length<=iZ):(hL #[T,T] ty #[s,x]).run P w= .ok (.slice (some ⟨w.heap.size,0,none⟩) (l.length+m.length) (fv w (l.length+m.length) cap a)) (w.drew.alloc (.cells (olds.toArray++ (d.toArray++kV (e.d (dM e)).cells (fv w (l.length+m.length) cap a- (l.length+m.length)))) a)):=by
 have⟨y,z,v,_⟩:=c;unfold iZ at b;have q:¬(l.length+m.length<=cap):=by omega
 have g:¬(9223372036854775807< ((l.length:Int)+ (m.length:Int))):=by omega
 have f:¬(281474976710656<Builtin.nextslicecap (l.length+m.length) cap*i.bytes):=by
  have:=growslice_fits (need:=l.length+m.length) (old:=cap) (bytes:=i.bytes) (by omega) (by have:(l.length+m.length)*i.bytes<=4294967296*32768:=Nat.mul_le_mul b o;omega);omega
 subst t;subst v;simp[hL,eo u,fl,gu,mb,k,n,p,pn,q,g,f,Question.forced,Ec r (w':=w.drew) rfl,Ec c (w':=w.drew) rfl,newRow,fv]
theorem Kk{l m o n}(h:o+n<=l.length):aS (l++m) o n=aS l o n:=by grind[aS,hF]
theorem NW{l m o n}(h:l.length<=o):aS (l++m) o n=aS m (o- l.length) n:=by grind[aS,tl,q8]
theorem gO.c{m vs us}(h:gO P w ok e l vs)(c:gO P w ok e m us):gO P w ok e (l++m) (vs++us):=by
 refine⟨by rw[hq,hq,h.1,c.1,hR],?_,λ i x b=>?_⟩;intro v a;rcases fb.1 a with a|a
 exact h.2.1 v a;exact c.2.1 v a;rw[n3]at b;split at b;rename_i d;rw[Kk];exact h.2.2 i x b;rw[h.1,<-fx];exact ew _ d;rename_i f;have g:l.length<=i:=by omega
 rw[NW (by rw[h.1];simp_all[ew]),h.1,<-Nat.sub_mul];exact c.2.2 _ x b
theorem gO.b{vs us}(h:gO P w ok e l vs):∀i x,l[i]?=some x->aw P e w ok (aS (vs++us) (i*e.a) e.a) x:=by intro i x a;rw[Kk];exact h.2.2 i x a;rw[h.1,<-fx];exact ew _ ((eQ.1 a).1)
theorem Bg(o):cm w (w.drew.alloc o):=(cm.k w).l (cm.d _ o)
theorem E5(h:aD P w0 conc st a w){id cv d l' c c' st'}(i:conc id=some (cv,c,true))(n:cD st none ⟨some (d,⟨[],true,.v (.dj id (cv+1))⟩),[(id,(cv+1,.c8 e l'))]⟩=some st')(u:w'.os=w.os)(z:w'.tape=w.tape)(x:eW w w')(y:w.heap.size<=w'.heap.size)(p:∀b,b<w.heap.size->¬dB c b->w'.heap[b]?=w.heap[b]?)(j:∀b,dB c' b->(w.heap.size<=b\/dB c b)/\b<w'.heap.size)(t:eY c'=true)(m:∀f,fN (ae conc) w w'->cM w (ae conc) (ae f)->fS P w' f (ae f) c' true (.c8 e l')):cT P w0 st' (a.put (some d) c') w':=have⟨C,k1,A,_⟩:=h.I (id:=id) (ver:=cv+1) (c:=c') (o:= .c8 e l') (w':=w') (λ D B F E=>by grind) u z x y (λ b g r=>p b g λ e=>r cv c i e) (λ b g=> ⟨(j b g).1.imp_right λ q=> ⟨cv,c,i,q⟩,(j b g).2⟩) (λ f _ _ k l _=>m f k l);nM (W0:= [(id,(cv+1,.c8 e _))]) (d:=some d) (s:= .v _) k1 n ⟨_,_,_,A,b2 _,t,λ _=>rfl⟩
variable{i:TypeInfo}{x:Value}{m:List e.b}
theorem Zg{T c ty:Nat}(q:P.underlying T=some (.slice c))(l:P.info? c=some i)(o:i.size=e.a){n cap b U:Nat}{cs a ok'}(j:w.heap[b]?=some (.cells cs U (0,0)))(h:nR P w ok' e m x a){off}(d:n+m.length<=cap)(p:off+cap*e.a<=cs.size):(hL #[T,T] ty #[.slice (some ⟨b,off,none⟩) n cap,x]).run P w= .ok (.slice (some ⟨b,off,none⟩) (n+m.length) cap) (w.setRow b (cs.toList.take (off+n*e.a)++a++cs.toList.drop (off+n*e.a+a.length)).toArray):=by
 have⟨t,u,s,f,_⟩:=h;have g:=r2 P b (off+n*e.a) U a 0 cs w j (by rw[kg,f.1,lf,<-hR];exact et (hU (ew _ d) _) p) (λ v r=>V7 (f.2.1 v r));subst s;simp[hL,eo q,fl,gu,l,o,pn,d,Ec h (w':=w) rfl,qf,g]
theorem Om{T a ty:Nat}(h:P.underlying T=some (.slice a))(d:P.info? a=some i)(f:i.size=e.a){k ok'}(c:nR P w ok' e m x k)(g:m= []):(hL #[T,T] ty #[.slice none 0 0,x]).run P w= .ok (.slice none 0 0) w:=by have b:=Ec c (w':=w) rfl;have⟨l,n,j,o,_⟩:=c;subst g;subst j;simp[pv]at b⊢;simp[hL,eo h,fl,gu,d,f,pn,b]
theorem RR(a:0<e.a)(n):(kV (e.d (dM e)).cells n).size=n* (e.d (dM e)).cells.size:=size_zeroCells _ _
theorem KC(t:Ty)(hp:0<t.a):(t.d (dM t)).cells.size=t.a:=by by_cases h:t.c=true;grind[dM,Ty.d,Go.Value.cells,Fi];cases t<;>first|rfl|exact absurd rfl h|cases hp
theorem aia(hE:al P E)(h:aD P w0 conc st a w){o:eg}{T d id cv:Nat}{s x l b}{m:List e.b×W}
 (aI:o.op= .call {callee:= .builtin .append,args:= #[s,x],argTypes:= #[T,T]}) (L:o.dst=some d) (hT:∃p,P.underlying T=some (.slice p)/\jy P p e) (aC:(c9 [] s).af st=some (.dj id cv))
 (az:bn st.b id=some (cv,.c8 e l)) (am:(c9 [] x).af st=some b) (av:(gX E (.aH e) b).af st=some m) (ar:l.length+ep (α:=e.b) m.1<=iZ) {st':au}
 (K:cD st none ⟨some (d,⟨[],true,.v (.dj id (cv+1))⟩),[(id,(cv+1,.c8 e (l++m.1)))]⟩=some st'):cz P w0 o a w st':=by
 have⟨p,S,i,N,O,ap,aq,A⟩:=hT;obtain⟨c,aJ,C,J,rfl⟩:=sR h az (dQ h (cG _) aC);have⟨k,G⟩:=Pe hE h A av (dQ h (cG _) am);have⟨_,_,_,F,_⟩:=G;have I:∀v w',(hL #[T,T] o.type #[a.eval s,a.eval x]).run P w= .ok v w'->(ea a.eval o).run P w= .ok (.value v) w':=by
  simp_all[ea,ny,lv,qn,kR,pt,hG,ml,dk]
 obtain⟨aA,J⟩:=J;subst aA;have aa:∀{ad:Option Addr}{cap:Nat}{olds:List df},a.eval s= .slice ad l.length cap->nR P w (ae conc) e l (a.eval s) olds->cap<l.length+ep m.1->
  (∀r,ad.map (·.block)=some r->True)->(oi (a.eval s)=ad.map (·.block))->cz P w0 o a w st':=by
  intro ad cap olds aE ac ao _ aF;have t:=TW (ty:=o.type) S N O ap aq ac G aE ao ar;have aG:=p5 w (l.length+ep m.1) cap p;have ab:=rH w (l.length+ep m.1) cap p (by grind[gw,iZ]);refine cz.b (I _ _ t) ?_;rw[L];have⟨_,_,_,af,_⟩:=ac;refine E5 h (c:=a.eval s) C K rfl rfl ⟨rfl,λ _=>Nat.le_succ _⟩ (Bg _).f (λ u g _=>(Bg _).e u g) (λ u g=>?_) rfl (λ Y V X=>?_)
  cases g;simp;refine⟨rfl,.inr ⟨w.heap.size,0,_,_,_,by simp,l7 _ _,by grind,ab,?_,?_⟩⟩;simp only[s4,o2,RR A,KC e A,af.1,F.1];rw[<-hR,<-hR,hv]
  grind
  intro j y Q;rw[hv];have H:(olds.toArray++ (k.toArray++kV (e.d (dM e)).cells (fv w (l.length+ep m.1) cap p- (l.length+ep m.1)))).toList=
   (olds++k)++ (kV (e.d (dM e)).cells (fv w (l.length+ep m.1) cap p- (l.length+ep m.1))).toList:=by simp
  rw[H];refine((af.c F).b j y Q).b e (by omega) ?_;omega
 obtain⟨f,z⟩| ⟨r,off,cap,cs,U,f,z,aj,ak,B,Z⟩:=J
 subst z;by_cases aw:m.1= [];have t:=Om (ty:=o.type) S N O G aw;rw[<-f]at t;refine cz.b (I _ _ t) ?_;rw[L];refine E5 h (c:=a.eval s) C K rfl rfl ⟨rfl,λ _=>b2 _⟩ (b2 _) (λ _ _ _=>rfl) (λ u g=>?_) (by rw[f];rfl) (λ Y V X=> ⟨rfl,.inl ⟨f,by trivial⟩⟩);rw[f]at g;trivial;refine aa (olds:= []) f ⟨_,0,f,⟨by simp,by simp,by simp⟩,by grind⟩ ?_ (by grind) (by rw[f];rfl)
 grind
 by_cases R:l.length+ep m.1<=cap;have t:=Zg (ty:=o.type) (n:=l.length) S N O z G R B;rw[<-f]at t;have ab:off+l.length*e.a+k.length<=cs.toList.length:=by
  have D:off+cap*e.a<=cs.toList.length:=by simpa using B
  refine et ?_ D;rw[F.1,lf,<-hR];exact hU (ew _ R) _
 refine cz.b (I _ _ t) ?_;rw[L];refine E5 h (c:=a.eval s) C K rfl rfl ⟨rfl,λ _=>b2 _⟩ (by simp) (λ u g ax=>setRow_other w r u _ (λ q=>ax (by rw[f,q];rfl))) (λ u g=>?_) rfl (λ Y V X=>?_);cases g;exact⟨.inr (by rw[f];rfl),by simpa using (h.f id cv (a.eval s) r C (by rw[f];rfl)).2⟩;refine⟨rfl,.inr ⟨r,off,cap,_,U,by rw[hq],ma w r cs _ U (0,0) z,by rw[hq];exact R,ak,?_,?_⟩⟩;simp[o2,hq,gg,hF];have D:off+cap*e.a<=cs.toList.length:=by simpa using B
 omega;intro j y Q;have H:cs.toList.take (off+l.length*e.a)=cs.toList.take off++aS cs.toList off (l.length*e.a):=by unfold aS;rw[List.take_add]
 have:=((BA A (by omega) (λ i x M=>Z i x M)).c F).b (us:=cs.toList.drop (off+l.length*e.a+k.length)) j y Q;have ah:(cs.toList.take off).length=off:=by rw[gg];omega
 have ai:aS (cs.toList.take (off+l.length*e.a)++k++cs.toList.drop (off+l.length*e.a+k.length)) (off+j*e.a) e.a=
  aS (aS cs.toList off (l.length*e.a)++k++cs.toList.drop (off+l.length*e.a+k.length)) (j*e.a) e.a:=by
  rw[H,hN,hN,NW (by rw[ah];omega),ah,Nat.add_sub_cancel_left,<-hN]
 rw[<-ai]at this;exact this.b e V X;have ag:off+l.length*e.a<=cs.toList.length:=by
  have D:off+cap*e.a<=cs.toList.length:=by simpa using B
  exact et (hU (ew _ aj) _) D
 refine aa f ⟨_,cap,f,BA A ag (λ i x M=>Z i x M),.inr ⟨r,off,cs,U,_,rfl,z,by simpa using ag,rfl⟩⟩ (by omega) (λ _ _=>trivial) (by rw[f];rfl)
end
section
variable[Dr]
variable{P:Program}{E:aq}{w0:bC}{w:World}{conc:bf}{st:au}{a:Act}
variable{x:Operand}{t:Ty}{o:Oper}{ad:Operand}{s:bQ}{α:Type}{i:Int}{v:Value}{e:Ty}{b:aU}{d:t.b×W}
theorem UJ(hE:al P E)(h:aD P w0 conc st a w){T d:Nat}{s}{m:List e.b×W} (ab:o.op= .call {callee:= .builtin .append,args:= #[s,x],argTypes:= #[T,T]}) (r:o.dst=some d) (hT:E.b T=some (.aH e)) (S:(c9 [] s).af st=some .js) (k:(c9 [] x).af st=some b) (O:(gX E (.aH e) b).af st=some m) (Z:ep (α:=e.b) m.1<=iZ) {u} {st'} (B:(iY d (.c8 e m.1) (.dj d) []).af st=some u) (q:cD st none u=some st'):cz P w0 o a w st':=by
 have⟨c,D,i,t,z,K,L,l⟩:=yo hE hT;have g:a.eval s= .slice none 0 0:=dQ h (cG _) S;have⟨F,n⟩:=Pe hE h l O (dQ h (cG _) k);have⟨_,_,_,C,_⟩:=n;have p:∀v w',(hL #[T,T] o.type #[a.eval s,a.eval x]).run P w= .ok v w'->(ea a.eval o).run P w= .ok (.value v) w':=by
  simp_all[ea,ny,lv,qn,kR,pt,hG,ml,dk]
 by_cases A:m.1= [];have f:=Om (ty:=o.type) D t z n A;rw[<-g]at f;refine cz.b (p _ _ f) ?_;rw[r];refine wv h (da.c P _ _ w) B q (cm.h w) (λ b k=>by rw[g]at k;trivial) (λ G V X Y=> ⟨rfl,by grind⟩)
  (λ G ver I=> ⟨_,_,_,I,b2 _,by rw[g];rfl,λ _=>rfl⟩);have ac:=List.length_pos_iff.2 A;have R:nR P w (ae conc) e [] (a.eval s) []:= ⟨none,0,g,⟨by simp,by simp,by simp⟩,.inl ⟨rfl,rfl⟩⟩;have f:=TW (ty:=o.type) D t z K L R n (ad:=none) (cap:=0) g (by omega) (by grind);simp only[pv,hv]at f;have J:=p5 w (ep m.1) 0 c;refine cz.b (p _ _ f) ?_;rw[r];refine Jn (U:=c) (b:=w.heap.size) h (da.c P _ _ w) B q J (rH w (ep m.1) 0 c (by grind[gw,iZ])) ?_ (Bg _) (b2 _) (l7 _ _) ?_;simp[s4,o2,RR l,KC e l,C.1,pv,hv];rw[<-hR];grind;intro j y M;have H:((#[]:Array df)++ (F.toArray++kV (e.d (dM e)).cells (fv w (ep m.1) 0 c- ep m.1))).toList=
  F++ (kV (e.d (dM e)).cells (fv w (ep m.1) 0 c- ep m.1)).toList:=by simp
 rw[H];refine(C.b j y M).b e (cm.j (Bg _) _) ?_;intro b k aa
 grind[aV,mT]
theorem V3(hE:al P E)(h:aD P w0 conc st a w){T id cv off:Nat}{u cells l}(Q:o.op= .store T ad x)(z:o.dst=none) (hT:E.b T=some t) (r:(c9 [] ad).af st=some (.dx id cv off)) (e:(rd [] x).af st=some s) (A:s.a.af st=some l) (B:bn st.b id=some (cv,.eu u cells)) (h1:l.length=t.a) (h2:off+t.a<=cells.length) {st'} (y:cD st none ⟨none,[(id,(cv,.eu u (mU cells off l)))]⟩=some st'):cz P w0 o a w st':=by obtain⟨p,rfl,C⟩:=hE.b hT;have⟨c,S,M,q,b,d,J⟩:=sR h B (dQ h (cG _) r);obtain⟨rfl,H,cs,U,f,g,K,L,i⟩:=q;rw[d]at f;cases f;have⟨vs,D,F,j⟩:=Cg A (jJ h (cG _) e);have O:=j.b;have N:=i.b;have R:=Jm C (off:=off) g D F (by omega) (by grind);refine cz.c (w':=w.setRow b (cs.toList.take off++vs++cs.toList.drop (off+p.a.a)).toArray) ?_ ?_;simp_all[ea,dk];rw[z];refine BJ (W0:= []) h (da.c P conc st w) (id:=id) (cv:=cv) (c:=c) (by grind[aV,mT]) (by rw[d];rfl) y (λ I w' k m n G=>?_);rw[show aV []= []from rfl,mT]at k m n;subst G;refine⟨rfl,b,_,U,d,ma w b _ _ U _ g,?_,?_,?_⟩;grind[mU,hq,gg,hF];grind;have:=(i.c off p.a.a j).e λ x v e=>bN.b m n k x e;grind[mU]
def lY:Nat->List Int->Int->Int->List Int|_,[],_,_=> []|j,x::r,i,d=>(bif decide (i=(j:Int))then d else x)::lY (j+1) r i d
def mg:Nat->List Int->Int->List Int->List Int|_,[],_,_=> []|j,x::r,n,l=>(bif decide ((j:Int)<n)then(l[j]?).getD x else x)::mg (j+1) r n l
theorem HW(k):∀z j i d,tO k j z i d=(lY j z i d).map (λ x=>aU.aE (.ay k) x)| [],_,_,_=>rfl|x::r,j,i,d=>by simp[tO,lY,hG,HW k r]
theorem Gm(k):∀z j n l,su k j z n l=(mg j z n l).map (λ x=>aU.aE (.ay k) x)| [],_,_,_=>rfl|x::r,j,n,l=>by simp[su,mg,hG,Gm k r]
theorem Ss:∀z j p d,lY j z ((j+p:Nat):Int) d=z.set p d
 | [],_,_,_=>rfl|x::r,j,0,d=>by
  have:∀r q,j<q->lY q r ((j+0:Nat):Int) d=r:=by
   intro r
   induction r with|nil=>intro q _;rfl|cons y r a=>grind[lY,decide,decide_eq_false]
  grind[lY,decide,decide_eq_true]|x::r,j,p+1,d=>by simp only[lY,List.set_cons_succ];rw[show((j+ (p+1):Nat))=((j+1+p:Nat):Int)by omega,Ss r _ p d,(decide_eq_false (by omega))];rfl
theorem Kz:∀z j i d,(lY j z i d).length=z.length| [],_,_,_=>rfl|x::r,j,i,d=>by simp[lY,l8,Kz r]
theorem OQ:∀z j n l,(mg j z n l).length=z.length| [],_,_,_=>rfl|x::r,j,n,l=>by simp[mg,l8,OQ r]
theorem Nf:∀z j n l p,(mg j z n l)[p]?=(z[p]?).map λ x=>bif decide (((j+p:Nat):Int)<n)then(l[j+p]?).getD x else x
 | [],_,_,_,_=>rfl|x::r,j,n,l,0=>by rfl|x::r,j,n,l,p+1=>by simp only[mg,q6];rw[Nf r _ n l p,show j+1+p=j+ (p+1)by omega]
theorem Hl(k){ok}:∀l:List Int,bU (bN P w conc ok) (l.map λ x=>aU.aE (.ay k) x) (l.map (en k))| []=>trivial|x::r=> ⟨⟨[.int k x],rfl,rfl⟩,Hl k r⟩
theorem ais{l:List α}{off n p v}(hp:p<n)(a:off+n<=l.length):l.take (off+p)++ [v]++l.drop (off+p+1)=l.take off++ ((l.drop off).take n).set p v++l.drop (off+n):=by apply k4;intro i;simp[n3,hq,gg,List.length_set,hF,rL,k3,l1,List.getElem?_set];grind
theorem aad(hE:al P E)(h:aD P w0 conc st a w){T id cv off n:Nat}{k}{d:Int}{u cells z}(R:o.op= .store T ad x)(M:o.dst=none)
 (hT:E.b T=some (.ay k)) (J:(c9 [] ad).af st=some (.sd id cv off k n i)) (j:(rd [] x).af st=some (.v (.aE (.ay k) d))) (O:bn st.b id=some (cv,.eu u cells)) (X:(nU k n ((cells.drop off).take n)).af st=some z)
 (h2:off+n<=cells.length) {st'} (K:cD st none ⟨none,[(id,(cv,.eu u (mU cells off (tO k 0 z i d))))]⟩=some st'):cz P w0 o a w st':=by
 have⟨m,S,Q⟩:=hE.b hT;have⟨c,ao,ag,G,b,f,am,an,F⟩:=sR h O (dQ h (cG _) J);obtain⟨rfl,aa,cs,U,q,r,ac,af,g⟩:=G;rw[f]at q;cases q;obtain⟨us,l,Y⟩:∃us,a.eval x=(Ty.ay k).d us/\aw P (.ay k) w (ae conc) us d:=jJ h (cG _) j;have V:us= [.int k d]:=Y;subst V;have ai:cells.length=cs.size:=by rw[g.b];rfl
 obtain⟨p,rfl⟩:∃p:Nat,i=(p:Int):= ⟨i.toNat,by omega⟩;have hp:p<n:=by omega
 have ak:m.a.a=1:=by rw[S];rfl
 have N:off+p+m.a.a<=cs.size:=by omega
 have s:=Jm Q (off:=off+p) (v:=a.eval x) (vs:= [.int k d]) r (by rw[l];rfl) (λ v e=>by simp at e;rw[e];rfl) (by grind) N;have⟨D,c2⟩:=wq n _ X ((g.f off).g n);have aj:((cs.toList.drop off).take n).set p (en k d)=(lY 0 z (p:Int) d).map (en k):=by
  rw[D,show((p:Int))=((0+p:Nat))by omega,Ss];simp
 have I:cs.toList.take (off+p)++ [en k d]++cs.toList.drop (off+p+m.a.a)=cs.toList.take off++ (lY 0 z (p:Int) d).map (en k)++cs.toList.drop (off+n):=by
  grind[ais,hB]
 rw[I]at s;refine cz.c (w':=w.setRow b (cs.toList.take off++ (lY 0 z p d).map (en k)++cs.toList.drop (off+n)).toArray) ?_ ?_
 simp only[ea,R,F];rw[dk,show((p:Int)).toNat=p from rfl,s];rfl;rw[M];refine BJ (W0:= []) h (da.c P conc st w) (id:=id) (cv:=cv) (c:=c) (by grind[aV,mT]) (by rw[f];rfl) K (λ ab w' t A B Z=>?_);rw[show aV []= []from rfl,mT]at t A B;subst Z;have H:∀W(C:bf),bU (bN P W C (ae C)) (tO k 0 z (p:Int) d) ((lY 0 z (p:Int) d).map (en k)):=λ W C=>by grind[HW,Hl]
 have ah:(tO k 0 z (p:Int) d).length=n:=by grind[HW,pz,Kz]
 refine⟨rfl,b,_,U,f,ma w b _ _ U _ r,?_,?_,?_⟩
 grind[mU,hq,gg,hF]
 intro v e;simp only[fb]at e;obtain (e|e)|e:=e
 grind
 obtain⟨y,_,rfl⟩:=ej.1 e;rfl
 grind
 have:=(g.e λ x v j=>bN.b A B t x j).c off n (H _ _)
 grind[mU]
theorem YF{l l'}{x:α}(h:tD l i x=some l'):0<=i/\i.toNat<l.length/\l'=l.set i.toNat x:=by grind[tD]
theorem XU(hE:al P E)(h:aD P w0 conc st a w){T id cv:Nat}{l l' d}(af:o.op= .store T ad x)(J:o.dst=none) (hT:E.b T=some e) (G:(c9 [] ad).af st=some (.rD id cv e i)) (Q:(rd [] x).af st=some s) (L:(jd E e s).af st=some d) (N:bn st.b id=some (cv,.c8 e l)) (M:id∉aV d.2) (O:tD l i d.1=some l') {st'} (H:cD st none ⟨none,d.2++ [(id,(cv,.c8 e l'))]⟩=some st'):cz P w0 o a w st':=by
 obtain⟨f,rfl,v⟩:=hE.b hT;obtain⟨ai,R,rfl⟩:=YF O;have⟨c,ak,D,F,b,off,n,cap,r,_,ab⟩:=sR h N (dQ h (cG _) G);obtain⟨rfl,⟨k,m⟩| ⟨Y,aj,Z,cs,U,k,m,ac,B,ae,C⟩⟩:=F;grind;rw[r]at k;cases k;have⟨us,S,V⟩:=nO hE h L (jJ h (cG _) Q);have hp:=V (aV d.2) λ _ h=>h;have u:(off+i.toNat*f.a.a)+f.a.a<=cs.toList.length:=by
  have I:off+cap*f.a.a<=cs.toList.length:=by omega
  refine et ?_ I;rw[lf,<-fx];exact hU (ew _ (by omega)) _
 have t:=Kw v.l hp.2;have ag:=Jm v (off:=off+i.toNat*f.a.a) m t (aw.f _ hp.2) hp.2.d (by omega);refine cz.c (w':=w.setRow b (cs.toList.take (off+i.toNat*f.a.a)++us++cs.toList.drop (off+i.toNat*f.a.a+f.a.a)).toArray) ?_ ?_;simp_all[ea,dk];rw[J];have K:bB conc (aV d.2) id=some (cv,c,true):=by simp[bB,D,M]
 refine BJ (W0:=d.2) h hp.1 (id:=id) (cv:=cv) (c:=c) K (by rw[r];rfl) H (λ aa w' am z A X=>?_);subst X;refine⟨rfl,.inr ⟨b,off,cap,_,U,by grind,ma w b cs _ U (0,0) m,by grind,B,?_,λ j y g=>?_⟩⟩;have ah:=hp.2.d;grind;by_cases p:i.toNat=j;subst p;rw[nL R]at g;cases g;rw[ON u hp.2.d];exact hp.2.b _ z A;rw[n2 p]at g;have:aS (cs.toList.take (off+i.toNat*f.a.a)++us++cs.toList.drop (off+i.toNat*f.a.a+f.a.a)) (off+j*f.a.a) f.a.a=aS cs.toList (off+j*f.a.a) f.a.a:=by
  refine T4 u hp.2.d ?_;rcases so p with q|q
  right;rw[lf,<-fx];exact hU (ew _ q) _;left;rw[lf,<-fx];exact hU (ew _ q) _
 show aw P _ _ _ (aS (cs.toList.take _++us++cs.toList.drop _) _ _) _;rw[this];exact((C j y g).g _).b _ z A
def adJ(P:eb)(conc:bf)(st:au)(w:ee)(a:List Ty)(x:ax a)(vs:List df)(l:W):=∀F,(∀id∈aV l,id∈F)->da P conc st w F l/\fe P w (ae (bB conc F)) a vs x
theorem kQ.c{d}(h:kQ P w (ae conc) t v d)(F):kQ P w (ae (bB conc F)) t v d:=have⟨b,off,cs,T,fr,a,c,e,f,g⟩:=h;⟨b,_,_,T,_,a,sX w _ F b c (by grind),e,f,g.g F⟩
theorem V5{β:Type}{m}{f:α->β}{y}(h:m.map f=some y):∃x,m=some x/\y=f x:=by cases m with|none=>cases h|some x=>grind
theorem AQ(hE:al P E)(h:aD P w0 conc st a w){t b v d}(f:(qu E t b).af st=some d)(x:bN P w conc (ae conc) b v):∀F,(∀id∈aV d.2,id∈F)->da P conc st w F d.2/\kQ P w (ae (bB conc F)) t v d.1:=by
 have cast:∀{u:Ty}{y:u.b}{l:W},(RM.nS ((gN (t:=u) (t':=t) y).map λ d=>(d,l))).af st=some d->∃e:u=t,d=(e▸y,l):=λ h=>by obtain⟨z,O,rfl⟩:=V5 (RM.Ae h);obtain⟨e,rfl⟩:=kC O;exact⟨e,rfl⟩
 unfold qu at f;split at f;obtain⟨rfl,rfl⟩:=cast f;exact λ F _=> ⟨da.b,kQ.c x F⟩;rename_i id ver;simp[bV]at f;split at f;rename_i cv u cells o;obtain⟨s,rfl,c,T,A,⟨rfl,m,cs,U,k,n,B,C,r⟩,J,i,q⟩:=iQ h o f x;rw[k]at i;cases i;have⟨p,Q,H⟩:=bw s;split at H;rename_i M;obtain⟨rfl,rfl⟩:=cast H;have⟨us,V,m1,m2,I⟩:=CY hE h u Q r C;rw[M]at I;cases V with
 |cons _ _=>exact I.elim|nil=>
  rw[ih]at m1;intro F D;have K:id∈F:=D id (by rw[jZ];exact hA _ (by simp[aV]));have⟨R,S⟩:=m2 F λ j L=>D j (by rw[jZ];exact gb _ L);have G:=HX h K A (b:=m) (by rw[k];rfl);have Y:=S.d;have X:aS cs.toList 0 u.a=us:=by unfold aS;rw[m1,vL,q9 (by omega)]
  have N:u.a<=cs.size:=by rw[<-hB,m1];omega
  exact⟨R.e (.g o A ⟨rfl,m,cs,U,_,k,G,n,N,by grind⟩),_,0,_,U,_,q,G,n,by omega,by grind⟩
 trivial;rename_i cv u y o;have⟨s,rfl,c,T,A,⟨_,m,cs,U,fr,k,n,B,C,r⟩,J,i,q⟩:=iQ h o f x;rw[k]at i;cases i;obtain⟨rfl,rfl⟩:=cast s;exact λ F _=> ⟨da.b,kQ.c ⟨m,0,cs,U,fr,q,n,B,by omega,r⟩ F⟩;cases f;cases f
theorem KW(hE:al P E)(h:aD P w0 conc st a w)(c:(EU E t s).af st=some d)(k:di P w conc (ae conc) s v):∃vs,v=t.d vs/\mO P conc st w t d.1 vs d.2:=by
 unfold EU at c;split at c
 iterate 2
  have⟨q,j,i⟩:=bw c;cases i;have:=AQ hE h j k;exact⟨[v],rfl,λ F e=> ⟨(this F e).1,have⟨b,off,cs,T,fr,f,g⟩:=(this F e).2;.inr ⟨_,rfl,b,off,cs,T,fr,by rw[f],g⟩⟩⟩
 grind[nO]
theorem DF(hE:al P E)(h:aD P w0 conc st a w):(d:List Ty)->{l:List bQ}->{vs:List df}->{x:ax d×W}->(rl E d l).af st=some x->bU (di P w conc (ae conc)) l vs->adJ P conc st w d x.1 vs x.2| [],[],[],x,c,_=>by cases c;exact λ F _=> ⟨da.b,rfl⟩| [t],[s],[v],x,c,b=>by have⟨vs,g,f⟩:=KW hE h (t:=t) c b.1;exact λ F e=> ⟨(f F e).1,_,by rw[g],(f F e).2⟩|t::u::d,s::ss,v::vs,x,c,b=>by simp[rl]at c;have⟨p,j,o⟩:=bw c;have⟨q,k,r⟩:=bw o;cases r;have⟨us,g,f⟩:=KW hE h (t:=t) j b.1;intro F e;have k1:=f F λ id n=>e id (by grind[jZ,gb]);have i:=(DF hE h (u::d) k b.2) F λ id n=>e id (by grind[jZ,hA]);exact⟨k1.1.e i.1,_,_,by rw[g],k1.2,i.2⟩| [],_::_,_,x,c,_=>by trivial| [t],[],_,x,c,_=>by trivial| [t],_::_::_,_,x,c,_=>by trivial|t::u::d,[],_,x,c,_=>by trivial| [],[],_::_,_,_,b=>b.elim| [t],[s],[],_,_,b=>b.elim| [t],[s],_::_::_,_,_,b=>b.2.elim|t::u::d,s::ss,[],_,_,b=>b.elim
def NH(P:eb)(conc:bf)(st:au)(w:ee)(a:List Ty)(x:ax a)(vs:List df)(l:W):=∀F,(∀id∈aV l,id∈F)->da P conc st w F l/\oO P w (ae (bB conc F)) a vs x
theorem Qr(hE:al P E)(h:aD P w0 conc st a w)(c:(Cn E t x).af st=some d):∀F,(∀id∈aV d.2,id∈F)->da P conc st w F d.2/\kQ P w (ae (bB conc F)) t (a.eval x) d.1:=by unfold Cn at c;have⟨b,e,f⟩:=bw c;exact AQ hE h f (dQ h (cG _) e)
theorem GJ(hE:al P E)(h:aD P w0 conc st a w):(c:List Ty)->{xs:List hS}->{y:ax c×W}->(uD E c xs).af st=some y->NH P conc st w c y.1 (xs.map a.eval) y.2| [],[],y,b=>by cases b;exact λ F _=> ⟨da.b,rfl⟩| [t],[x],y,b=>by have:=Qr hE h (t:=t) b;exact λ F d=> ⟨(this F d).1,_,rfl,(this F d).2⟩|t::u::c,x::r,y,b=>by simp[uD]at b;have⟨p,f,l⟩:=bw b;have⟨q,g,m⟩:=bw l;cases m;intro F d;have k1:=(Qr hE h (t:=t) f) F λ id k=>d id (by grind[jZ,gb]);have e:=(GJ hE h (u::c) g) F λ id k=>d id (by grind[jZ,hA]);exact⟨k1.1.e e.1,_,_,rfl,k1.2,e.2⟩| [],_::_,y,b=>by trivial| [t],[],y,b=>by trivial| [t],_::_::_,y,b=>by trivial|t::u::c,[],y,b=>by trivial
end
section
variable[Dr]
variable{P:Program}{E:aq}{w0:bC}{w:World}{conc:bf}{st:au}{a:Act}
variable{T:Nat}{ok:Nat->Prop}{o:Oper}{id:Nat}{u:Ty}{up:er}{x:Operand}{b:Nat}{hi:Option Operand}{k:IntKind}{es:List MapEntry}{w':World}{vs:List Value}{q:Ty}{e:MapEntry}{l:List (q.b×u.b)}{n:q.b}{y:u.b}
theorem Uq(h:aD P w0 conc st a w){W0}(s:da P conc st w (aV W0) W0){cv c f ob st'}(l:bB conc (aV W0) id=some (cv,c,true))(z:dB c b)(k:cD st none ⟨none,W0++ [(id,(cv,f))]⟩=some st')(t:w'={w with heap:=w.heap.setIfInBounds b ob})(r:∀e,fU (bB conc (aV W0)) e->fN (ae (bB conc (aV W0))) w w'->cM w (ae (bB conc (aV W0))) (ae e)->fS P w' e (ae e) c true f):cT P w0 st' a w':=by
 obtain⟨conc1,rfl,j,x,y⟩:=wG h s;have⟨m,k1,_⟩:=j.I (id:=id) (ver:=cv) (c:=c) (o:=f) (w':=w') (λ v u C A=>by grind) (by grind) (by grind) (by rw[t];exact⟨rfl,by grind⟩) (by grind) (λ i g B=>by grind) (λ i g=> ⟨.inr ⟨cv,c,l,g⟩,by have:=(j.f id cv c i l g).2;grind⟩) (λ e n _ p q _=>r e n p q);refine⟨m,?_⟩;cases k;rw[DM];trivial
theorem Yj(h:aD P w0 conc st a w){d:Nat}{k}(m:o.op= .makeMap T none)(l:o.dst=some d){st'} (n:(iY d (.kB k u []) (.dj d) []).af st=some up) (f:cD st none up=some st'):cz P w0 o a w st':=by refine cz.b (v:= .map (some w.heap.size)) (w':=w.alloc (.map #[] 0)) (by simp[ea,m];rfl) ?_;rw[l];refine wv h (da.c P conc st w) n f (cm.d w _) (λ b g=>?_) (λ c p q r=>?_) (λ c ver j=>?_);cases g;simp;refine⟨rfl,w.heap.size,#[],0,rfl,Bq _,⟨by simp,by simp⟩,rfl,λ i x e s _=>?_⟩;trivial;exact⟨_,_,_,j,b2 _,rfl,λ _=>rfl⟩
theorem al5(es):fR es #[]=es:=by simp[fR]
theorem aoW(hE:al P E)(h:aD P w0 conc st a w){d:Nat}{k u x}{l:List (k.b×u.b)}(I:o.op= .range T x)(H:o.dst=some d)(hT:E.b T=some (.cO k u)){st'}(L:(c9 [] x).af st=some (.aE (.cO k u) l)) (J:(iY d (.it k u none l) (.dj d) []).af st=some up) (D:cD st none up=some st'):cz P w0 o a w st':=by
 have⟨K,V,C,_,_⟩:=Jc hE hT;have⟨vs,f,r⟩:=dQ h (cG _) L;have⟨m,es,clock,s,t,g,y,z,A⟩:=r;have f:a.eval x= .map (some m):=by rw[f,s];rfl
 have q:m<w.heap.size:=(eL.1 g).1;have c:cm w (w.alloc (.mapIter (some m) clock #[] clock)):=cm.d w _;refine cz.b (v:= .pointer (some ⟨w.heap.size,0,none⟩)) (w':=w.alloc (.mapIter (some m) clock #[] clock)) (by simp only[ea,I,f];rw[dk,run_range_map w T K V m es clock C g];rfl) ?_;rw[H];refine wv h (da.c P conc st w) J D c (λ b F=>?_) (λ n R B S=>?_) (λ n ver G=>?_);cases F;simp;have j:cM w (ae conc) (ae n):=(sX w conc _).b (b2 _) B;refine⟨rfl,w.heap.size,m,es,clock,clock,#[],clock,rfl,Bq _,j m t q,(c.e m q).trans g,y,b2 _,b2 _,by rw[al5];exact z,λ i x e hi p=>?_,by simp⟩;rw[al5]at p;have⟨⟨ks,M,N⟩,us,O,Q⟩:=A i x e hi p;exact⟨⟨_,M,N.b k (c.j _) j⟩,_,O,Q.b u (c.j _) j⟩;exact⟨_,_,_,G,b2 _,rfl,λ _=>rfl⟩
theorem XQ(k)(c:k.i=true){x}(h:aw P k w ok vs x):∀v∈vs,∀n,k5 n v v=true:=by induction k generalizing vs with|aF a b d e=>simp[Ty.i,dr]at c;rw[<-mv a.a vs];exact λ v f=>(fb.1 f).elim (d c.1 h.1 v) (e c.2 h.2 v)|ay|aO|aJ=>grind[aw,hM,k5,beq_toListBytes]|_=>trivial
theorem aaN{k}(b:k.i=true){x}(h:aw P k w ok vs x):(rV (k.d vs) (k.d vs)).run P w= .ok (k.d vs) w:=by
 have c:=XQ k b h;have:k5 10000 (k.d vs) (k.d vs)=true:=by
  unfold Ty.d;cases hp:k.c;have a:=h.d;rw[uI hp]at a
  match vs,a with
  | [v],_=>grind
  simp only[if_true,k5,beq_self_eq_true,Bool.true_and,ht];have:∀(l:List df),(∀v∈l,∀n,k5 n v v=true)->∀p∈l.zip l,k5 9999 p.1 p.2=true:=by
   intro l a
   induction l<;>simp_all
  grind
 simp_all[rV]
theorem aiz(h:kA P w ok q u l es){i ks us}(g:aw P q w ok ks n)(m:aw P u w ok us y)(b:e.key=q.d ks)(c:e.val=u.d us):kA P w ok q u (l.set i (n,y)) (es.set i e):=by refine⟨by simpa using h.1,λ j x f k d=>?_⟩;have a:=h.2 j x f;grind
theorem Za(h:kA P w ok q u l es){ks us}(i:aw P q w ok ks n)(m:aw P u w ok us y)(c:e.key=q.d ks)(d:e.val=u.d us):kA P w ok q u (l++ [(n,y)]) (es++ [e]):=by refine⟨by simp[h.1],λ j x f k g=>?_⟩;have a:=h.1;have b:=h.2 j x f;grind
theorem kA.c{ok' k l}(h:kA P w ok k u l es)(b:fN ok w w')(a:cM w ok ok'):kA P w' ok' k u l es:= ⟨h.1,λ i x e hi j=>have⟨⟨ks,c,d⟩,us,f,g⟩:=h.2 i x e hi j;⟨⟨_,c,d.b k b a⟩,_,f,g.b u b a⟩⟩
theorem Ph{l}(h:l.all (λ p=>!cr p.1 id)=true):id∉aV l:=by intro a;have⟨p,hp,b⟩:=ej.1 a;grind[ht,gF]
theorem ang{es c e}(h:x4 es c)(j:e.born=c:=by rfl):x4 (es.push e) (c+1):=by refine⟨?_,λ x d=>?_⟩;rw[s5,pH,hG,ml,pc];refine⟨h.1,by simp,λ a f b g=>?_⟩;obtain⟨y,i,rfl⟩:=ej.1 f;have:=h.2 y i;simp at g;omega;rw[s5]at d;rcases fb.1 d with d|d;have:=h.2 x d;omega;simp at d;subst d;omega
theorem aoJ{es fs c i e f}(m:es[i]?=some e)(b:fs.toList=es.toList.set i f)(l:f.born=e.born)(h:x4 es c):x4 fs c:=by
 have n:es.toList[i]?=some e:=by simpa using m
 have d:(es.toList.set i f).map (·.born)=es.toList.map (·.born):=by
  rw[List.map_set,l];apply k4;intro j;by_cases q:i=j;subst q;have a:(es.toList.map (·.born))[i]?=some e.born:=by rw[s7,n];rfl
  rw[a];exact nL (eQ.1 a).1;simp[n2 q]
 refine⟨by rw[b,d];exact h.1,λ x g=>?_⟩;rw[b]at g;have:x.born∈es.toList.map (·.born):=by rw[<-d];exact ej.2 ⟨x,g,rfl⟩
 have⟨y,o,k⟩:=ej.1 this;rw[<-k];exact h.2 y o
theorem SE(hE:al P E)(h:aD P w0 conc st a w){m k}(aO:ea a.eval o=(do mx T (a.eval m) (a.eval k) (a.eval x);pure .skip))(an:o.dst=none){st'} (g:(BT E T m k x).af st=some up) (am:cD st none up=some st'):cz P w0 o a w st':=by
 unfold BT at g;split at g;rename_i q u hT;have⟨b,ah,g⟩:=bw g;cases b<;>simp at g<;>try(cases g;done)
 rename_i id ver;have⟨n,ai,g⟩:=bw g;have⟨s,aj,g⟩:=bw g;have⟨d,ak,g⟩:=bw g;simp[bV]at g;split at g;rename_i cv q' aa l aB;have⟨H,W⟩:=dE g;clear g;simp only[dr]at H;have:=cU H.1;subst this;split at W;rename_i aq;have⟨ar,av⟩:=aq;subst ar;subst av;cases W;have⟨K,V,R,t,_⟩:=Jc hE hT;obtain⟨c,aR,k1,⟨rfl,p,es,clock,B,C,O,aH,ab⟩,aN⟩:=sR h aB (dQ h (cG _) ah);have I:kA P w (ae conc) q' aa l es.toList:= ⟨by omega,λ i x e aC A=>ab i x e aC (by grind)⟩;have⟨us,Y,aF⟩:=nO hE h ak (jJ h (cG _) aj);have hp:=aF (aV d.2) λ _ h=>h;have ap:bB conc (aV d.2) id=some (cv,c,true):=by simp[bB,k1,Ph H.2]
 have⟨ks,aL,ay⟩:=KH hE h (cG _) ai;have z:aw P q' w (ae conc) ks n:=(ay []).e q' (Ey q' t.g);have U:=I.c (w':=w) (ok':=ae (bB conc (aV d.2))) ⟨b2 _,λ _ _ _=>rfl⟩ (sX w conc (aV d.2));have run:∀r,(mx T (.map (some p)) (q'.d ks) (a.eval x)).run P w= .ok () {w with heap:=w.heap.setIfInBounds p r}->
  (∀v w',fU (bB conc (aV d.2)) v->fN (ae (bB conc (aV d.2))) w w'->cM w (ae (bB conc (aV d.2))) (ae v)->w'={w with heap:=w.heap.setIfInBounds p r}->fS P w' v (ae v) c true (.kB q' aa (lz q'.f l n d.1)))->cz P w0 o a w st':=by
  intro r aP aJ;refine cz.c (w':={w with heap:=w.heap.setIfInBounds p r}) ?_ ?_;simp_all;rw[an];exact Uq (W0:=d.2) h hp.1 ap (by rw[B];rfl) am rfl (by grind)
 have X:∀r,({w with heap:=w.heap.setIfInBounds p r}:ee).heap[p]?=some r:=λ r=>by grind
 have Z:∀D c',(setObj p (.map D c')).run P w= .ok () {w with heap:=w.heap.setIfInBounds p (.map D c')}:=λ D c'=>by grind[setObj,Go.Sem.run]
 have S:(gf false 10000 K (q'.d ks)).run P w= .ok () w:=t.h w _ ks n _ z;rcases LZ t z I with⟨F,Q,G⟩| ⟨i,e,y,aE,F,Q,G,af,aI,ag⟩;refine run (.map (es.push {key:=q'.d ks,val:=a.eval x,born:=clock}) (clock+1)) ?_ ?_;simp[mx,dk,eo R,ei,C1 C,S,F,Z];intro v w' aG M N J;subst J;have:=(Za U (n:=n) (z.e q' (Ey q' t.g)) hp.2 (e:={key:=q'.d ks,val:=a.eval x,born:=clock}) rfl Y).c M N;rw[G];refine⟨rfl,_,_,_,B,X _,ang O,by grind,λ i y f L ao=>this.2 i y f L (by grind)⟩;have A:es[i]?=some e:=by grind
 have⟨⟨aQ,ac,ad⟩,_⟩:=I.2 i (aE,y) e G Q;have ax:e.key=q'.d ks:=by rw[ac,XC _ t.g ad z af]
 refine run (.map (es.modify i λ f=>{f with key:=q'.d ks,val:=a.eval x}) clock) ?_ ?_;simp[mx,dk,eo R,ei,C1 C,S,F,A,l9,Option.getD_some,ax,aaN t.g z,Z];intro v w' aG M N J;subst J;have:=(aiz U (i:=i) (n:=n) (z.e q' (Ey q' t.g)) hp.2 (e:={e with key:=q'.d ks,val:=a.eval x}) rfl Y).c M N;rw[ag];have az:(es.modify i λ f=>{f with key:=q'.d ks,val:=a.eval x}).toList=es.toList.set i {e with key:=q'.d ks,val:=a.eval x}:=by
  apply k4
  grind
 refine⟨rfl,_,_,_,B,X _,aoJ A az rfl O,by grind,λ j y f L ao=>this.2 j y f L (by grind)⟩;trivial;trivial
 trivial
theorem aga(hE:al P E)(h:aD P w0 conc st a w){d cv:Nat}{e lo l z p q} (K:o.op= .slice T x lo hi none) (G:o.dst=some d) (hT:E.b T=some (.aH e)) (M:(c9 [] x).af st=some (.dj id cv)) (J:bn st.b id=some (cv,.c8 e l)) (hp:(lr [] 0 lo).af st=some p) (L:(lr [] (ep l:Nat) hi).af st=some q) (O:iB l p q=some z) {st'} (D:cD st none ⟨some (d,⟨[],true,.v (.dj id (cv+1))⟩),[(id,(cv+1,.c8 e z))]⟩=some st'):cz P w0 o a w st':=by
 obtain⟨k1,Q,R,rfl⟩:=FO O;have⟨W,af,i,Z,aa⟩:=Bm hE hT;obtain⟨c,ag,r,⟨rfl,B⟩,rfl⟩:=sR h J (dQ h (cG _) M);have I:((l.take q.toNat).drop p.toNat).length=q.toNat- p.toNat:=by grind
 have fin:∀ad cap,a.eval x= .slice ad l.length cap->l.length<=cap->(∀f,fN (ae conc) w w->cM w (ae conc) (ae f)->fS P w f (ae f) (.slice (if cap=p.toNat then ad else ad.map (·.add (p.toNat*e.a))) (q.toNat- p.toNat) (cap- p.toNat)) true (.c8 e ((l.take q.toNat).drop p.toNat)))->(∀b,oi (.slice (if cap=p.toNat then ad else ad.map (·.add (p.toNat*e.a))) (q.toNat- p.toNat) (cap- p.toNat))=some b->dB (a.eval x) b)->cz P w0 o a w st':=by
  intro ad cap N F C s;have g:=Dl (P:=P) (w:=w) h (cG _) (b:=true) F hp L k1 Q R;refine cz.b (v:= .slice (if cap=p.toNat then ad else ad.map (·.add (p.toNat*e.a))) (q.toNat- p.toNat) (cap- p.toNat)) (w':=w) ?_ ?_
  simp only[ea,K,nf];rw[dk,Fb hE hT (by grind),N];simp_all[Go.Instr.slice,dk,eo,ei,fl,gu,k6];rw[G];refine E5 h (c:=a.eval x) r D rfl rfl ⟨rfl,by omega⟩ (b2 _) (λ _ _ _=>rfl) (λ b g=> ⟨.inr (s b g),(h.f _ _ _ b r (s b g)).2⟩) rfl C
 obtain⟨m,n⟩| ⟨t,off,cap,cs,U,m,n,u,X,Y,A⟩:=B
 ·subst n;have ab:p.toNat=0:=by grind
  have ac:q.toNat=0:=by grind
  refine fin none 0 m (b2 _) (λ f _ _=> ⟨rfl,.inl ⟨?_,by simp⟩⟩) (λ b g=>?_)
  all_goals grind
 ·refine fin _ cap m u (λ f S V=> ⟨rfl,.inr ⟨t,if cap=p.toNat then off else off+p.toNat*e.a,cap- p.toNat,cs,U,?_,n,by omega,by omega,?_,λ j y k=>?_⟩⟩) (λ b g=>?_)
  grind[qf]
  split
  grind
  have:p.toNat*e.a+ (cap- p.toNat)*e.a=cap*e.a:=by
   rw[<-hR];grind
  omega;have H:j< ((l.take q.toNat).drop p.toNat).length:=(eQ.1 k).1;rw[if_neg (by omega)];rw[l1,k3]at k;split at k;have:=A _ y k;rw[hR,<-lf]at this;exact this.b e S V;omega
  grind[oi,qf]
theorem TA(h:aD P w0 conc st a w){m c:Nat}(o:P.underlying T=some (.array m c))(f:jy P c (.ay k)){y}(g:(lr [] (m:Int) hi).af st=some y)(e:kZ y m=some ()){off}:(tv T (.pointer (some ⟨b,off,none⟩)) none (hi.map a.eval) none).run P w= .ok (.slice (some ⟨b,off,none⟩) y.toNat m) w:=by
 unfold kZ at e;split at e;rename_i d;have j:=Dl (P:=P) (w:=w) h (cG _) (b:=false) (lo:=none) (x:=0) (b2 m) (by rfl) g (Int.le_refl 0) d.1 d.2;obtain⟨i,l,n,_⟩:=f;simp_all[tv,dk,eo,ei,s0,nf,fl,gu,Go.Addr.add];trivial
theorem abg{off m y cs T fr}{z:List Int}(c:ok b)(d:w.heap[b]?=some (.cells cs T fr))(h:off+m<=cs.size) (l:(cs.toList.drop off).take m=z.map (en k)) (g:z.length=m) (j:y<=m) (f:m<=999):aw P (.aH (.ay k)) w ok [.slice (some ⟨b,off,none⟩) y m] (z.take y):=by
 refine⟨some ⟨b,off,none⟩,m,by grind,by grind,.inr ⟨b,off,cs,T,fr,rfl,c,d,?_,.inr (by unfold gw;omega),λ i x hi=>?_⟩⟩;grind[gg,Ty.a];have e:i<y:=by grind
 rw[k3,if_pos e]at hi;have a:((cs.toList.drop off).take m)[i]?=some (en k x):=by grind
 rw[k3,if_pos (by omega),l1]at a;show aS _ _ _= [.int k x];grind[eQ,aS,Ty.a,kH]
theorem Qm(hE:al P E)(h:aD P w0 conc st a w){d cv off m g:Nat}{y} (M:o.op= .slice T x none hi none) (H:o.dst=some d) (Q:P.underlying T=some (.array m g)) (I:jy P g (.ay k)) (S:(c9 [] x).af st=some (.dx id cv off)) (V:(lr [] (m:Int) hi).af st=some y) (O:kZ y m=some ()) (ae:1<=m) {ob} (L:bn st.b id=some (cv,ob)) {st'} (f:(EV E d k m y u id cv off).af st=some up) (D:cD st none up=some st'):cz P w0 o a w st':=by
 unfold EV at f;have⟨p,B,f⟩:=bw f;have⟨z,C,f⟩:=bw f;have j:hJ m 999=true:=by cases e:hJ m 999 with|true=>rfl|false=>rw[e]at f;cases f
 rw[j]at f;cases f;have⟨ab,c,ag,l,ai,aj,X⟩:=dQ h (cG _) S;have⟨c2,ah,i,ac⟩:=pW h L;rw[i]at l;cases l;obtain⟨b,rfl,R⟩:=X rfl;have F:=AQ hE h B (v:= .pointer (some ⟨b,0,none⟩)) ⟨cv,_,_,i,b2 _,rfl,λ _=> ⟨b,rfl,rfl⟩⟩ (aV p.2) λ _ h=>h;have⟨A,aa,af,cs,U,fr,n,q,r,s,t⟩:=F;cases n;have⟨Y,Z⟩:=wq m _ C (((Al (P:=P) (conc:=conc) u t).f off).g m);have G:aS cs.toList 0 u.a=cs.toList.take u.a:=rfl;have K:m<=((cs.toList.take u.a).drop off).length:=by grind[ep,gg,hF,pz]
 simp[gg,hF,hB]at K;have J:off+m<=cs.size:=by omega
 have ad:0<=y/\y<=(m:Int):=by grind[kZ]
 have W:(cs.toList.drop off).take m=z.map (en k):=by grind[pX]
 refine cz.b (v:= .slice (some ⟨b,off,none⟩) y.toNat m) (w':=w) ?_ ?_;simp only[ea,M,nf,R];rw[dk,TA h Q I V O];rfl;rw[H];obtain⟨conc1,rfl,k1,_,_⟩:=wG h A;exact nM (W0:=p.2) k1 D ⟨_,rfl,abg q r J W Z (by omega) (n1 j)⟩
theorem aiI(hE:al P E)(h:aD P w0 conc st a w){o:eg}{T d id ver off:Nat}{i x hi} (z:o.op= .slice T x none hi none) (s:o.dst=some d) (hT:bn E.G T=some i) (B:(c9 [] x).af st=some (.dx id ver off)) {up} {st'} (e:(IT E d i hi id ver off).af st=some up) (q:cD st none up=some st'):cz P w0 o a w st':=by
 unfold IT at e;split at e;rename_i k m f;have⟨K,L,M,J,A,t,_⟩:=D7 (hE.g T i hT) f;have G:1<=m:=by
  unfold eZ.d at f;split at f;rename_i k' m' _ F;cases r:cr i.b m' with|true=>rw[r]at f;cases f;exact Hy _ F|false=>rw[r]at f;cases f
  cases f
 have⟨y,C,e⟩:=bw e;have⟨⟨⟩,g,e⟩:=RM.iV e;simp[bV]at e;split at e;rename_i cv u cells j;have⟨n,e⟩:=dE e;have:=cU n;subst this;cases p:yi E.N d with
 |false=>
  rw[p]at e;exact Qm hE h z s A t B C g G j e q|true=>
  rw[p]at e;have⟨Q,e⟩:=dE e;cases e;have⟨N,c,S,D,V,W,I⟩:=dQ h (cG _) B;have⟨c2,U,l,O⟩:=pW h j;rw[l]at D;cases D;obtain⟨b,rfl,H⟩:=I rfl;have R:0<=y/\y<=(m:Int):=by
   unfold kZ at g;split at g;assumption;cases g
  refine cz.b (v:= .slice (some ⟨b,off,none⟩) y.toNat m) (w':=w) ?_ ?_;simp only[ea,z,nf,H];rw[dk,TA h A t C g];rfl;rw[s];exact nM (W0:= []) h q ⟨_,_,_,l,b2 _,rfl,by grind⟩
 rename_i cv u dd j;have⟨n,e⟩:=dE e;grind[cU,Qm];trivial;trivial
theorem Xk{z l m}(h0:0<=m)(h1:m.toNat<=z.length):mg 0 z m l=l.take m.toNat++z.drop (min m.toNat l.length):=by apply k4;intro i;rw[Nf,n3,gg];grind
theorem Uy{α:Type}{a:List α}{off n p q b}(h:(a.drop off).take n=b)(hp:p<=n):a.take off++q++a.drop (off+p)=a.take off++ (q++b.drop p)++a.drop (off+n):=by
 have:a.drop (off+p)=b.drop p++a.drop (off+n):=by grind[pX,p1,mv]
 grind
theorem Ur{T m n b off:Nat}{k}(hT:∃d,P.underlying T=some (.slice d)/\jy P d (.ay k)){c U}(p:w.heap[b]?=some (.cells c U (0,0)))(N:off+n<=c.size)(R:m<=n)
 {z l:List Int} (K:(c.toList.drop off).take n=z.map (en k)) (Q:z.length=n) {ok} {v:df} (h:aw P (.aH (.ay k)) w ok [v] l) {S ty:Go.TypeId}:
 (Builtin.copy_ #[T,S] ty #[.slice (some ⟨b,off,none⟩) m n,v]).run P w=
  .ok (.int .i64 (min m l.length:Nat)) (w.setRow b (c.toList.take off++ (mg 0 z m l).map (en k)++c.toList.drop (off+n)).toArray):=by
 have⟨d,u,i,G,H,_⟩:=hT;have⟨a,cap,A,M,B⟩:=h;cases A;have t:(P.info? d).map (·.size)=some 1:=by rw[G,l9,H];rfl
 have F:mg 0 z (m:Int) l=l.take m++z.drop (min m l.length):=by
  grind[Xk]
 have I:∀q,c.toList.take off++q.map (en k)++c.toList.drop (off+min m l.length)=c.toList.take off++ (q++z.drop (min m l.length)).map (en k)++c.toList.drop (off+n):=by
  intro q;rw[Uy K (by omega),pH,<-List.map_drop]
 rw[F,<-I];by_cases h0:min m l.length=0
 rw[run_copy_none w T S _ _ _ a m n l.length _ u t (by grind),h0];have J:l.take m= []:=by
  simp_all
 rw[J];simp only[ml,ih,kg,mv,oj];rw[setRow_self w b _ U _ p];rfl;obtain rfl| ⟨y,o,cs,L,fr,rfl,_,C,D,_,E⟩:=B
 grind
 have g:((l.take m).map (en k)).length=min m l.length:=by simp
 rw[run_copy_row P w T S ty d b off m n ⟨y,o,none⟩ l.length cap c U ((l.take m).map (en k)) u t p (by rw[g];exact Nat.min_comm _ _) ?_ (by rw[g];omega) ?_,g];rfl;intro j v r;rw[s7,mr]at r;obtain⟨x,f,rfl⟩:=r;rw[k3]at f;split at f;have O:=(eQ.1 f).1;have e:aS cs.toList (o+j* (Ty.ay k).a) (Ty.ay k).a= [.int k x]:=E j x f;simp[Ty.a,Nat.mul_one]at e D;have s:o+j<cs.size:=by omega
 rw[qf];simp only[World.cell?,C];unfold aS at e;rw[kH (by simpa using s)]at e;simp at e;rw[qW s,e];rfl;cases f;intro v h;obtain⟨x,_,rfl⟩:=ej.1 h;rfl
theorem aft(hE:al P E)(h:aD P w0 conc st a w){o:eg}{T S:Nat}{x y:hS}(ac:o.op= .call {callee:= .builtin .copy,args:= #[x,y],argTypes:= #[T,S]})
 {up:er} {st':au} (e:(Iv E T o.dst x y).af st=some up) (A:cD st none up=some st'):cz P w0 o a w st':=by
 unfold Iv at e;have⟨ao,j,e⟩:=bw e;split at e
 rename_i id ver off k n m;have⟨ap,aj,e⟩:=bw e;split at e;rename_i k' l;simp[bV]at e;split at e;rename_i cv u cells aa;have⟨i,ad⟩:=dE e;clear e;simp only[dr]at i;have J:=cU i.1;subst J;have⟨⟨rfl,hT⟩,af⟩:=jN ad;have⟨z,O,ag⟩:=bw af;cases ag;have aw:off+n<=cells.length:=by simpa using i.2
 have⟨aF,ai,ab⟩:=hE.b hT;have B:=ab.g;rw[ai]at B;have⟨c,aB,t,N⟩:=pW h aa;have⟨ar,c',aC,k1,_,_,ak⟩:=dQ h (cG _) j;rw[t]at k1;cases k1;obtain⟨b,rfl,az,aA,K⟩:=ak rfl;obtain⟨rfl,an,cs,U,L,r,av,M,g⟩:=N;cases L;have⟨us,q,D⟩:=dQ h (cG _) aj;obtain⟨v,rfl⟩:∃v,us= [v]:=by
  have⟨_,_,Q,_⟩:=D;exact⟨_,Q⟩
 have q:a.eval y=v:=q;subst q;have ax:cells.length=cs.size:=by rw[g.b];exact hB
 have⟨I,c2⟩:=wq n _ O ((g.f off).g n);obtain⟨p,rfl⟩:∃p:Nat,m=(p:Int):= ⟨m.toNat,by omega⟩;have⟨conc1,Z⟩:=BJ (W0:= []) (st':={st with b:=eX st.b [(id,(cv,.eu u (mU cells off (su k' 0 z (p:Int) l))))]}) h (da.c P conc st w) (id:=id) (cv:=cv) (c:= .pointer (some ⟨b,0,none⟩))
  (by rw[show aV []= []from rfl,mT];exact t) (b:=b) rfl rfl (cs':=(cs.toList.take off++ (mg 0 z (p:Int) l).map (en k')++cs.toList.drop (off+n)).toArray) (λ aq w' F G H am=>by
   rw[show aV []= []from rfl,mT]at F G H;subst am;have R:∀W(C:bf),bU (bN P W C (ae C)) (su k' 0 z (p:Int) l) ((mg 0 z (p:Int) l).map (en k')):=λ W C=>by grind[Gm,Hl]
   have Y:(su k' 0 z (p:Int) l).length=n:=by grind[Gm,pz,OQ]
   refine⟨rfl,b,_,U,rfl,ma w b _ _ U _ r,?_,?_,?_⟩
   grind[mU,hq,gg,hF]
   intro v f;simp only[fb]at f;obtain (f|f)|f:=f
   grind
   obtain⟨y,_,rfl⟩:=ej.1 f;rfl;exact M v (r1 f);have:=(g.e λ x v j=>bN.b G H F x j).c off n (R _ _);unfold mU;rw[Y];simpa using this)
 refine cz.b (v:= .int .i64 (min p l.length:Nat)) (w':=w.setRow b (cs.toList.take off++ (mg 0 z (p:Int) l).map (en k')++cs.toList.drop (off+n)).toArray) ?_ ?_;simp only[ea,ac,ny,lv,qn,kR,pt,hG,ml,K];rw[dk,show((p:Int)).toNat=p from rfl,Ur (P:=P) (ty:=o.type) (S:=S) B r (by omega) (show p<=n by omega) I c2 D];rfl;refine nM (W0:= [(id,(cv,.eu u (mU cells off (su k' 0 z (p:Int) l))))]) (d:=o.dst) (s:= .v (.aE (.ay .i64) (bu (p:Int) (ep l:Nat)))) (conc1:=conc1) Z ?_ ⟨[.int .i64 (min p l.length:Nat)],rfl,?_⟩;cases X:o.dst<;>rw[X]at A<;>exact A
 show[_]= [_]
 congr 2
 unfold bu;split<;>omega
 cases e;cases e;cases e
end
section
variable[Dr]
variable{P:Program}{E:aq}{w0:bC}{w:World}{conc:bf}{st:au}{a:Act}
variable{ok:Nat->Prop}{w':World}{n:Nat}{o:Oper}{v:Value}{f:Nat}{e:Ty}{ts:List Ty}{L:List (Nat×Bool)}{q:(Bool×bQ)×W}{l:List e.b}{r:ax ts}
theorem Hk(d:lE P f)(args):(qi f args).run P w= .ok (.enter f args) w:=by have⟨fn,a,b,c⟩:=d;have hp:∀k:eb->Sem Next,(program>>=k).run P w=(k P).run P w:=λ k=>rfl;unfold qi;rw[hp];simp only[a,b,c,hY,if_false];rfl
theorem E1{f args tys}(d:o.op= .call {callee:= .value f,args:=args,argTypes:=tys}){fid:Nat}{first cap}(c:a.eval f= .func (.func fid) first cap)(b:lE P fid):(ea a.eval o).run P w= .ok (.enter fid (first++args.map a.eval++cap)) w:=by grind[ea,ny,Deferred.ofValue,lv,Hk]
theorem an1{f name args tys}(h:o.op= .call {callee:= .invoke f name,args:=args,argTypes:=tys}){t fid:Nat}{u} (d:a.eval f= .iface t u) (g:(method (P.types.size+x1) t u name).run P w= .ok (fid,u) w) (c:lE P fid):(ea a.eval o).run P w= .ok (.enter fid (#[u]++args.map a.eval)) w:=by
 have e:∀y ys,lv (.fn (.method name) #[]) (#[y]++ys)=callMethod y name ys:=λ y ys=>by
  have h0:(#[y]++ys)[0]?=some y:=by rw[Array.getElem?_append_left (by simp)];rfl
  have b:(#[y]++ys).extract 1 (#[y]++ys).size=ys:=by apply mn;simp
  show(match(#[y]++ys)[0]? with|some recv=>callMethod recv name ((#[y]++ys).extract 1 (#[y]++ys).size)|_=>stuck _)=_;rw[h0,b]
 unfold ea;rw[h];show(lv (.fn (.method name) #[]) (#[a.eval f]++args.map a.eval)).run P w=_;rw[d,e];show(method (P.types.size+x1) t u name>>=λ q=>qi q.1 (#[q.2]++args.map a.eval)).run P w=_;rw[dk,g];exact Hk c _
theorem iL.b{ok'}(d:fN ok w w')(c:cM w ok ok'):(ts:List Ty)->{v:df}->{r:ax ts}->iL P w ok ts v r->iL P w' ok' ts v r| [],v,r,h=>h| [t],v,r,⟨cs,a,b⟩=> ⟨cs,a,b.b t d c⟩|t::u::ts,v,r,⟨vs,a,b⟩=> ⟨vs,a,CJ d c (t::u::ts) b⟩
where
 CJ {w':World} {ok ok':Nat->Prop} (d:fN ok w w') (c:cM w ok ok'):(ts:List Ty)->{vs:List Value}->{x:ax ts}->fe P w ok ts vs x->fe P w' ok' ts vs x
  | [],vs,x,h=>h
  | [t],vs,x,⟨cs,a,b⟩=> ⟨cs,a,b.b t d c⟩
  |t::u::ts,vs,x,⟨cs,r,a,b,h3⟩=> ⟨cs,r,a,b.b t d c,CJ d c (u::ts) h3⟩
theorem iL.c{ok'}:(ts:List Ty)->ts.all Ty.h=true->{v:df}->{r:ax ts}->iL P w ok ts v r->iL P w' ok' ts v r| [],_,v,r,h=>h| [t],c,v,r,⟨cs,a,b⟩=> ⟨cs,a,b.e t (by grind)⟩|t::u::ts,c,v,r,⟨vs,a,b⟩=> ⟨vs,a,O0 (t::u::ts) c b⟩
where
 O0 {w':World} {ok ok':Nat->Prop}:(ts:List Ty)->ts.all Ty.h=true->{vs:List Value}->{x:ax ts}->fe P w ok ts vs x->fe P w' ok' ts vs x
  | [],_,vs,x,h=>h
  | [t],c,vs,x,⟨cs,a,b⟩=> ⟨cs,a,b.e t (by grind)⟩
  |t::u::ts,c,vs,x,⟨cs,r,a,b,h3⟩=>by
   simp only[List.all_cons,b1]at c;exact⟨_,r,a,b.e t c.1,O0 _ (by grind) h3⟩
theorem HA:(ts:List Ty)->{vs:List df}->{x:ax ts}->fe P w ok ts vs x->bU (bN P w conc ok) (mh ts x) vs| [],vs,x,h=>by cases h;trivial| [t],vs,x,⟨cs,a,b⟩=>by subst a;exact⟨⟨_,rfl,b⟩,trivial⟩|t::u::ts,vs,x,⟨cs,r,a,b,h3⟩=>by subst a;exact⟨⟨_,rfl,b⟩,HA _ h3⟩
theorem OY:(ts:List Ty)->{v:df}->{r:ax ts}->iL P w ok ts v r->di P w conc ok (oE ts r) v| [],v,r,h=> ⟨[],h,trivial⟩| [t],v,r,⟨cs,a,b⟩=> ⟨cs,a,b⟩|t::u::ts,v,r,⟨vs,a,b⟩=> ⟨vs,a,HA (t::u::ts) b⟩
structure Gg(P:eb)(conc:bf)(st:au)(a:fu)(w:ee)(o:eg)(q:(Bool×bQ)×W):Prop where
 d:da P conc st w (aV q.2) q.2
 c:∃fid args,(ea a.eval o).run P w= .ok (.enter fid args) w/\qq P fid args w λ e w'=>∃v,e= .returned v/\cm w w'/\
  di P w' (bB conc (aV q.2)) (ae (bB conc (aV q.2))) q.1.2 v/\
  (q.1.1=true->(∀e l,q.1.2= .v (.aE (.aH e) l)->rj P w.heap.size w' (ft (ae (bB conc (aV q.2))) w) e v l)/\
   ∀a b x,q.1.2= .v (.aE (.aF a b) x)->yr P w.heap.size w' (ft (ae (bB conc (aV q.2))) w) (.aF a b) v x)
theorem KQ{F}(h:aD P w0 conc st a w):cM w' (ft (ae (bB conc F)) w) (ae (bB conc F)):=by
 intro b d _;obtain d|d:=d
 omega;refine⟨by show conc.B b;rw[h.u];exact h.F b (et h.e.d d),λ id ver c f e=>?_⟩;have:=(h.f id ver c b (Aq f).1 e).2;omega
theorem rj.b{ok'}(m:e.h=true)(h:rj P n w ok e v l):rj P n w ok' e v l:=by
 obtain h| ⟨b,off,cap,cs,T,a,c,d,f,g,j,k⟩:=h;exact .inl h;exact .inr ⟨b,_,_,_,T,a,c,d,f,g,j,λ i x o=>(k i x o).e e m⟩
theorem Ng:(ts:List Ty)->(r:ax ts)->{e:Ty}->{l:List e.b}->oE ts r= .v (.aE (.aH e) l)->ts= [.aH e]/\HEq r l| [],r,e,l,h=>by cases h| [t],r,e,l,h=>by grind[oE,bQ.v.injEq,aU.aE.injEq]|t::u::ts,r,e,l,h=>by cases h
theorem YB(b:oE ts r= .v (.aE (.aH e) l))(h:kz P n w ok ts v r):rj P n w ok e v l:=by obtain⟨rfl,a⟩:=Ng ts r b;cases a;exact h
theorem O1:(ts:List Ty)->(r:ax ts)->{a b:Ty}->{x:(Ty.aF a b).b}->oE ts r= .v (.aE (.aF a b) x)->ts= [.aF a b]/\HEq r x| [],r,a,b,x,h=>by cases h| [t],r,a,b,x,h=>by grind[oE,bQ.v.injEq,aU.aE.injEq]|t::u::ts,r,a,b,x,h=>by cases h
theorem Vo{a b x}(d:oE ts r= .v (.aE (.aF a b) x))(h:kz P n w ok ts v r):yr P n w ok (.aF a b) v x:=by obtain⟨rfl,c⟩:=O1 ts r d;cases c;exact h
theorem kP.c{ok'}(t)(e:t.h=true){vs d c}(h:kP P n w ok t vs d c):kP P n w ok' t vs d c:=by induction t generalizing vs c with
 |aF a b j k=>simp[Ty.h,dr]at e;have⟨l,m,f,g,i⟩:=h;exact⟨_,_,f,j e.1 g,k e.2 i⟩|_=>trivial
theorem acZ{ok'}:(c:List Ty)->{r:ax c}->{v:df}->(c.all Ty.h=true\/zz c=true)->kz P n w' ok c v r->∀a b x,oE c r= .v (.aE (.aF a b) x)->yr P n w' ok' (.aF a b) v x:=by
 intro c r v e j a b x k;obtain⟨rfl,d⟩:=O1 c r k;cases d;obtain e|e:=e
 obtain⟨vs,l,f,d,g,h,i⟩:=j;exact⟨_,_,f,d,g,h,i.c _ (by grind)⟩;trivial
theorem agr(h:aD P w0 conc st a w):(f:List Ty)->{r:ax f}->{v:df}->zz f=true->kz P w.heap.size w' ok f v r->di P w' conc (ae conc) (oE f r) v
 | [.aH e],r,v,d,k=>by
  obtain⟨g,j⟩| ⟨b,off,cap,cs,T,g,j,l,m,n,o,p⟩:=k
  ·refine⟨[v],rfl,none,0,?_,?_,.inl rfl⟩;all_goals grind
  ·refine⟨[v],rfl,some ⟨b,off,none⟩,cap,by rw[g],m,.inr ⟨b,off,cs,T,_,rfl,?_,l,?_,.inr n,λ i y t=>?_⟩⟩;refine⟨by rw[h.u];exact h.F b (et h.e.d j),λ id ver c s q=>?_⟩;have:=(h.f id ver c b s q).2;omega;exact o;exact(p i y t).e e d| [],_,_,d,_| [.ay _],_,_,d,_| [.aO],_,_,d,_| [.aJ],_,_,d,_| [.aF _ _],_,_,d,_| [.dP _ _],_,_,d,_| [.dX _ _],_,_,d,_| [.cO _ _],_,_,d,_| [.ec _],_,_,d,_=>by trivial|_::_::_,_,_,d,_=>by grind[zz]
theorem VQ{ok'}:(a:List Ty)->{r:ax a}->{v:df}->(a.all Ty.h=true\/zz a=true)->kz P n w' ok a v r->∀e l,oE a r= .v (.aE (.aH e) l)->rj P n w' ok' e v l:=by
 intro a r v b d e l f;obtain⟨rfl,c⟩:=Ng a r f;cases c;obtain b|b:=b
 trivial;exact rj.b b d
theorem RF(hE:al P E)(h:aD P w0 conc st a w){L}(C:eO a.tmps L){o fop}{f:Nat}{args tys} (F:o.op= .call {callee:= .value fop,args:=args,argTypes:=tys}) {q} (B:a.eval fop= .func (.func f) #[] #[]) (d:(DX E L true f args.toList).af st=some q):Gg P conc st a w o q:=by simp[DX]at d;cases k:bn E.C f with|none=>rw[k]at d;cases d|some c=>rw[k]at d;have⟨l,u,G⟩:=bw d;have⟨x,y,H⟩:=bw G;have⟨r,b,I⟩:=RM.iV H;cases I;rw[rU]at b;have⟨A,p⟩:=hE.h f c k;have s:=DF hE h c.c y (yZ h C u);have⟨ins,caps,J,fn,fresh⟩:=c;cases caps with|cons _ _=>simp[fc.h]at b|nil=>
   simp[fc.h]at b;have z:(#[]++args.map a.eval++ #[]:Array df)=(args.toList.map a.eval++ []).toArray:=by apply mn;simp
   have m:=E1 (P:=P) (w:=w) (a:=a) F (fid:=f) (first:= #[]) (cap:= #[]) B A;rw[z]at m;cases D:(fc.e ⟨ins,[],J,fn,fresh⟩)with
   |false=>
    have⟨k1,g⟩:=s (aV x.2) λ _ h=>h;refine⟨k1,f,_,m,?_⟩;refine gl (p w _ _ [] x.1 _ r g rfl b) ?_;rintro e w'⟨v,i,j,n,t⟩;refine⟨v,i,j,?_,?_⟩;exact OY _ (iL.b ⟨b2 _,λ _ _ _=>rfl⟩ (KQ h) _ n);grind[YB,Vo]|true=>
    have g:fe P w (λ _=>True) ins (args.toList.map a.eval) x.1:=have⟨_,g⟩:=s (aV x.2) λ _ h=>h;iL.b.CJ ⟨b2 _,λ _ _ _=>rfl⟩ (λ _ _ _=>trivial) _ g
    refine⟨?_,f,_,m,?_⟩;exact da.b;refine gl (p w _ _ _ _ _ r g rfl b) ?_;rintro e w'⟨v,i,j,n,t⟩;simp only[fc.e,vi,dr]at D;refine⟨v,i,j,?_,?_⟩;all_goals grind[aV,mT,OY,iL.c,agr,VQ,acZ]
theorem an8(hE:al P E)(h:aD P w0 conc st a w){o f name args tys} (N:o.op= .call {callee:= .invoke f name,args:=args,argTypes:=tys}) {q} (z:(akq E f name args.toList).af st=some q):Gg P conc st a w o q:=by
 simp[akq]at z;have⟨b,D,i⟩:=bw z;split at i;rename_i x r g;split at i;rename_i M;subst M;have⟨l,F,p⟩:=bw i;split at p;rename_i s;have⟨d,G,O⟩:=bw p;have⟨y,n,Q⟩:=RM.iV O;cases Q;have c:=yZ h (cG _) F;have⟨vs,B,fid,first,cap,C,I,t⟩:=dQ h (cG _) D;obtain⟨tid,u,rfl,rfl,rfl,L⟩:=C
 match S:args.toList.map a.eval,c with
 | [v1],c=>
  have⟨us,k1,A⟩:=nO hE h G c.1;have H:args.map a.eval= #[(Ty.ec x).d us]:=by apply mn;rw[mA,S,k1]
  have v:(ea a.eval o).run P w= .ok (.enter fid (#[u]++ #[(Ty.ec x).d us]++ #[])) w:=by rw[an1 N B (L u w) I,H,Array.append_empty]
  cases K:r.h with|true=>refine⟨da.b,fid,_,v,?_⟩;refine gl (t w (λ _=>True) ⟨b2 _,λ _ _ _=>rfl⟩ (λ _ _ _=>trivial) us d.1 A.b y n) ?_;rintro e w'⟨ys,j,k,m⟩;refine⟨r.d ys,j,k,?_,λ h=>by cases h⟩;exact⟨ys,rfl,m.e r K⟩|false=>have⟨m1,m2⟩:=A (aV d.2) λ _ h=>h;refine⟨m1,fid,_,v,?_⟩;refine gl (t w _ ⟨b2 _,λ _ _ _=>rfl⟩ (sX w conc (aV d.2)) us d.1 m2 y n) ?_;rintro e w'⟨ys,j,k,m⟩;exact⟨r.d ys,j,k,⟨ys,rfl,m.b r ⟨b2 _,λ _ _ _=>rfl⟩ (KQ h)⟩,λ h=>by cases h⟩
 | [],c=>exact c.elim|_::_::_,c=>exact c.2.elim
 cases p;cases i;cases i
theorem PB(hE:al P E)(h:aD P w0 conc st a w){L}(j:eO a.tmps L){o f args tys} (A:o.op= .call {callee:= .value f,args:=args,argTypes:=tys}) {q} (k:(zW E L true f args.toList).af st=some q):Gg P conc st a w o q:=by cases f with
 |func f=>exact RF hE h j A (fop:= .func f) rfl k|tmp t=>
  simp[zW]at k;have⟨b,H,c⟩:=bw k;have D:=dQ h j H;split at c;exact RF hE h j A D c;rename_i x r g;cases hp:o8 x with|true=>rw[hp]at c;cases c|false=>
   rw[hp]at c;have⟨l,I,B⟩:=bw c;split at B;rename_i s;have⟨d,J,Q⟩:=bw B;have⟨y,v,R⟩:=RM.iV Q;cases R;have i:=yZ h j I;have⟨vs,G,fid,first,cap,m,M,C⟩:=D;have m:=(o5.fn hp).1 m
   match S:args.toList.map a.eval,i with
   | [v1],i=>
    have⟨us,k1,F⟩:=nO hE h J i.1;have N:a.eval (.tmp t)= .func (.func fid) first cap:=by rw[G,m];rfl
    have z:=E1 (P:=P) (w:=w) (a:=a) A N M;have K:args.map a.eval= #[x.d us]:=by apply mn;rw[mA,S,k1]
    rw[K]at z;cases O:r.h with|true=>refine⟨da.b,fid,_,z,?_⟩;refine gl (C w (λ _=>True) ⟨b2 _,λ _ _ _=>rfl⟩ (λ _ _ _=>trivial) us d.1 F.b y v) ?_;rintro e w'⟨ys,n,p,u⟩;refine⟨r.d ys,n,p,?_,λ h=>by cases h⟩;exact⟨ys,rfl,u.e r O⟩|false=>have⟨m1,m2⟩:=F (aV d.2) λ _ h=>h;refine⟨m1,fid,_,z,?_⟩;refine gl (C w _ ⟨b2 _,λ _ _ _=>rfl⟩ (sX w conc (aV d.2)) us d.1 m2 y v) ?_;rintro e w'⟨ys,n,p,u⟩;exact⟨r.d ys,n,p,⟨ys,rfl,u.b r ⟨b2 _,λ _ _ _=>rfl⟩ (KQ h)⟩,λ h=>by cases h⟩
   | [],i=>exact i.elim|_::_::_,i=>exact i.2.elim
   cases B
  ·cases c|_=>cases k
end
section
variable[Dr]
variable{P:Program}{E:aq}{w0:bC}{w:World}{conc:bf}{st:au}{a:Act}
variable{w':World}{t:Ty}{vs:List Value}{α:Type}{k n:Nat}{d:t.b}{m:List (Nat×α)}{v:α}
theorem aw.i{w ok ok'}(h:aw P t w ok vs d)(a:cM w ok ok'):aw P t w ok' vs d:=h.b t ⟨b2 _,λ _ _ _=>rfl⟩ a
structure wc where
 k:Nat
 b:Nat
 c:df
 o:fJ
def sF(Z:List wc):W:=Z.map λ z=>(z.k,(z.b,z.o))
def uu(Z:List wc):=Z.map λ z=>(z.k,(z.b,z.c))
theorem Wq{α m k}{v:α}(h:bn m k=some v):(k,v)∈m:=by induction m with|nil=>cases h|cons p r a=>grind[bn,gF,hD,hh]
theorem aiM{α m}(a:(m.map (·.1)).Nodup){k}{v:α}(h:(k,v)∈m):bn m k=some v:=by induction m with|nil=>cases h|cons p r b=>grind[List.nodup_cons,bn,gF]
theorem aD.Q(h:aD P w0 conc st a w){w'}(M:cm w w'){Z}(ap:(Z.map (·.k)).Nodup)(au:∀z∈Z,∀cv O F,conc z.k=some (cv,O,F)->cv<z.b)(N:∀z∈Z,∀b,dB z.c b->w.heap.size<=b/\b<w'.heap.size)(aj:∀z∈Z,∀ab∈Z,∀b,dB z.c b->dB ab.c b->z=ab)(ao:∀s,fU conc s->cM w (ae conc) (ae s)->(∀z∈Z,s z.k=some (z.b,z.c,true))->(∀b,w.heap.size<=b->(∀z∈Z,¬dB z.c b)->ae s b)->∀z∈Z,fS P w' s (ae s) z.c true z.o):∃s,aD P w0 s {st with b:=eX st.b (sF Z)} a w'/\fU conc s/\cM w (ae conc) (ae s)/\(∀z∈Z,s z.k=some (z.b,z.c,true))/\(∀b,w.heap.size<=b->(∀z∈Z,¬dB z.c b)->ae s b):=by
 let s:bf:= ⟨λ j=>match bn (uu Z) j with|some (ver,c)=>some (ver,c,true)|none=>conc j,conc.B,conc.b⟩;have ak:((uu Z).map (·.1)).Nodup:=by grind[uu,x3,s8]
 have aq:(aV (sF Z)).Nodup:=by grind[sF,aV,x3,s8]
 have aa:∀j ver c,bn (uu Z) j=some (ver,c)->∃z∈Z,z.k=j/\z.b=ver/\z.c=c:=by
  intro j ver c o;have⟨z,E,ai⟩:=ej.1 (Wq o);grind
 have ac:∀z∈Z,s z.k=some (z.b,z.c,true):=by
  intro z E;have:=aiM ak (k:=z.k) (v:=(z.b,z.c)) (ej.2 ⟨z,E,rfl⟩)
  grind
 have al:∀j,bn (uu Z) j=none->s j=conc j:=λ j o=>by grind
 have U:fU conc s:=by
  refine⟨rfl,?_⟩
  grind
 have split:∀j v c F,s j=some (v,c,F)->(∃z∈Z,z.k=j/\z.b=v/\z.c=c)\/conc j=some (v,c,F):=by
  grind
 have V:cM w (ae conc) (ae s):=by
  intro b y T;refine⟨y.1,λ j v c o Q=>?_⟩;rcases split j v c true o with⟨z,E,_,_,rfl⟩|o
  grind
  exact y.2 j v c o Q
 have E:∀b,w.heap.size<=b->(∀z∈Z,¬dB z.c b)->ae s b:=by
  intro b y ar;refine⟨by rw[h.u];exact h.F b (et h.e.d y),λ j v c o Q=>?_⟩;rcases split j v c true o with⟨z,E,_,_,rfl⟩|o
  grind
  have:=(h.f j v c b o Q).2;omega
 have Y:fN (ae conc) w w':=M.j _;refine⟨s,{g:=h.g,n:=h.n,m:=h.m,k:=?_,q:=?_,r:=?_,t:=?_,f:=?_,e:=h.e.h M,u:=h.u,x:=h.x,h:=h.h,l:=h.l},U,V,ac,E⟩;intro d sl ah;obtain⟨v,C,A⟩:=h.k d sl ah;exact⟨v,C,⟨λ T=> ⟨(A.b T).1,(A.b T).2.b Y V U⟩,A.d⟩⟩;intro j G an o;rcases vy st.b (sF Z) j with⟨C,A⟩| ⟨am,C,A⟩
 rw[C]at o;obtain⟨O,F,af,ag⟩:=h.q j G an o;have H:bn (uu Z) j=none:=by
  cases H:bn _ j with
  |none=>rfl
  |some p=>
   obtain⟨z,B,rfl,_,_⟩:=aa j p.1 p.2 H;exact absurd (ej.2 ⟨_,ej.2 ⟨z,B,rfl⟩,rfl⟩) A
 refine⟨O,F,by grind,ag.b Y V U λ ad b y=>?_⟩;subst ad;exact M.e b (h.f j _ _ b af y).2;rw[C]at o;cases o;obtain⟨z,B,ai⟩:=ej.1 A
 grind
 intro j o;rcases vy st.b (sF Z) j with⟨C,A⟩| ⟨am,C,A⟩
 rw[C]at o;cases H:bn (uu Z) j with
 |none=>rw[al j H];exact h.r j o
 |some p=>
  obtain⟨z,B,rfl,_,_⟩:=aa j p.1 p.2 H;exact absurd (ej.2 ⟨(z.k,(z.b,z.o)),ej.2 ⟨z,B,rfl⟩,rfl⟩) A
 rw[C]at o;cases o;intro i j D G ci J b R o K L;rcases split i D ci true R with⟨z,B,rfl,_,rfl⟩|I
 rcases split j G J true o with⟨X,W,rfl,_,rfl⟩|S;rw[aj z B X W b K L];have:=(h.f j G J b S L).2;have:=(N z B b K).1;omega;rcases split j G J true o with⟨X,W,rfl,_,rfl⟩|S;have:=(h.f i D ci b I K).2;have:=(N X W b L).1;omega;exact h.t i j D G ci J b I S K L;intro i D ci b R y;rcases split i D ci true R with⟨z,B,rfl,_,rfl⟩|I;exact⟨.inl (et h.e.d (N z B b y).1),(N z B b y).2⟩;exact⟨(h.f i D ci b I y).1,hs (h.f i D ci b I y).2 M.f⟩
structure Gn(P:eb)(st:au)(n:Nat)(w':ee)(d:Nat->Prop)(id m:Nat)(g:List aU)(vs:List df)(c:List Nat)(Z:List wc):Prop where
 f:∀z∈Z,id<=z.k/\z.k<id+m
 h:(Z.map (·.k)).Nodup
 j:∀z∈Z,(bn st.b z.k=none/\z.b=0)\/∃cv o,bn st.b z.k=some (cv,o)/\z.b=cv+1
 e:∀z∈Z,∀b,dB z.c b->b∈c/\n<=b/\b<w'.heap.size
 l:c.Nodup->∀z∈Z,∀k∈Z,∀b,dB z.c b->dB k.c b->z=k
 g:∀a,(∀z∈Z,a z.k=some (z.b,z.c,true))->cM w' d (ae a)->bU (bN P w' a (ae a)) g vs
 i:∀a,cM w' d (ae a)->∀z∈Z,fS P w' a (ae a) z.c true z.o
theorem aaf{c id b}(m:t.c=false)(h:b= []/\aw P t w' c vs d):Gn P st n w' c id t.a [.aE t d] vs b [] where
 f:=λ z a=>(by trivial)
 h:=List.nodup_nil
 j:=λ z a=>(by trivial)
 e:=λ z a=>(by trivial)
 l:=λ _ z a=>(by trivial)
 g:=λ o _ k=>Tv m (h.2.i k)
 i:=λ _ _ z a=>(by trivial)
theorem GW{n w' K}:(t:Ty)->{id:Nat}->{d:t.b}->{p:List aU×W}->{vs:List df}->{r:List Nat}->(uS id t d).af st=some p->kP P n w' K t vs d r->vs.length=t.a->∃Z,p.2=sF Z/\Gn P st n w' K id t.a p.1 vs r Z
 | .aH e,id,l,p,vs,r,m,s,C=>by
  have key:∀ver,((bn st.b id=none/\ver=0)\/∃cv o,bn st.b id=some (cv,o)/\ver=cv+1)->p=([.dj id ver],[(id,(ver,.c8 e l))])->∃Z,p.2=sF Z/\Gn P st n w' K id 1 p.1 vs r Z:=by
   intro ver an hp;subst hp;obtain⟨c,I,am,aj,ak⟩:∃c,vs= [c]/\eY c=true/\(∀A,cM w' K (ae A)->fS P w' A (ae A) c true (.c8 e l))/\∀b,dB c b->b∈r/\n<=b/\b<w'.heap.size:=by
    obtain⟨L,M,O⟩| ⟨b,off,cap,cs,T,L,M,O,R,af,ag,ah,ai⟩:=s
    exact⟨_,L,rfl,λ A _=> ⟨rfl,.inl ⟨rfl,M⟩⟩,λ b E=>(by cases E)⟩;refine⟨_,L,rfl,λ A B=> ⟨rfl,.inr ⟨b,off,cap,cs,T,rfl,R,af,ag,ah,λ i x N=>(ai i x N).i B⟩⟩,λ ao F=>?_⟩;cases F;exact⟨by rw[M];simp,O,(eL.1 R).1⟩
   subst I;refine⟨[⟨id,ver,c,.c8 e l⟩],rfl,?_⟩;have e:∀{Q:wc->Prop},Q ⟨id,ver,c,.c8 e l⟩->∀z∈[(⟨id,ver,c,.c8 e l⟩:wc)],Q z:=λ h z k=>by cases hM.1 k;exact h
   exact⟨e ⟨b2 _,Nat.lt_succ_self _⟩,by simp,e an,e ak,λ _=>e (e λ _ _ _=>rfl),λ A I B=> ⟨⟨ver,c,true,I _ (hM.2 rfl),b2 _,am,λ _=>rfl⟩,trivial⟩,λ A B=>e (aj A B)⟩
  simp[uS,bV]at m;cases J:bn st.b id with
  |none=>rw[J]at m;cases m;exact key 0 (.inl ⟨J,rfl⟩) rfl|some q=>have⟨cv,o⟩:=q;rw[J]at m;cases m;exact key (cv+1) (.inr ⟨cv,o,J,rfl⟩) rfl
 | .aF a b,id,(x,y),p,vs,r,m,s,C=>by
  simp[uS]at m;have⟨ar,ac,m⟩:=bw m;have⟨p2,ad,m⟩:=bw m;cases m;obtain⟨ap,aq,rfl,aa,ab⟩:=s;simp[Ty.a]at C;have⟨U,X,u⟩:=GW a ac aa (by simp;omega);have⟨V,Y,v⟩:=GW b ad ab (by simp;omega);refine⟨U++V,by simp[sF,X,Y],{f:=?_,h:=?_,j:=?_,e:=?_,l:=?_,g:=?_,i:=?_}⟩
  intro z k;simp only[Ty.a];rcases fb.1 k with k|k
  have:=u.f z k;omega;have:=v.f z k;omega;rw[pH,pc];refine⟨u.h,v.h,λ i N j al e=>?_⟩;obtain⟨z,k,rfl⟩:=ej.1 N;obtain⟨H,D,rfl⟩:=ej.1 al;have:=u.f z k;have:=v.f H D;omega;intro z k;rcases fb.1 k with k|k
  exact u.j z k;exact v.j z k;intro z k w S;rcases fb.1 k with k|k
  have:=u.e z k w S;exact⟨gb _ this.1,this.2⟩;have:=v.e z k w S;exact⟨hA _ this.1,this.2⟩;intro G z k H D w E F;rw[pc]at G;rcases fb.1 k with k|k<;>rcases fb.1 D with D|D
  exact u.l G.1 z k H D w E F;exact absurd rfl (G.2.2 w (u.e z k w E).1 w (v.e H D w F).1);exact absurd rfl (G.2.2 w (u.e H D w F).1 _ (v.e z k _ E).1);exact v.l G.2.1 z k _ D _ E F;intro A I B;rw[<-mv a.a vs];exact(u.g _ (by grind) B).d (v.g _ (by grind) B);intro A B z k;rcases fb.1 k with k|k
  exact u.i _ B z k;exact v.i _ B z k| .ay _,id,d,p,vs,r,m,s,C| .aO,id,d,p,vs,r,m,s,C| .aJ,id,d,p,vs,r,m,s,C| .dP _ _,id,d,p,vs,r,m,s,C| .dX _ _,id,d,p,vs,r,m,s,C| .cO _ _,id,d,p,vs,r,m,s,C| .ec _,id,d,p,vs,r,m,s,C=>by cases m;exact⟨_,rfl,aaf rfl s⟩
theorem agk(h:aD P w0 conc st a w){W0}(t:da P conc st w (aV W0) W0){d id x y r p st' v w'}(S:(uS id (.aF x y) r).af st=some p)(K:cD st none ⟨some (d,⟨[],true,.ju p.1⟩),W0++p.2⟩=some st')(O:cm w w')(M:yr P w.heap.size w' (ft (ae (bB conc (aV W0))) w) (.aF x y) v r):cT P w0 st' (a.put (some d) v) w':=by
 obtain⟨conc1,rfl,m,af,ag⟩:=wG h t;have⟨vs,C,ac,F,G,H,I⟩:=M;have⟨Z,ah,N⟩:=GW (st:=st) _ S I H;have U:∀c,cM w (ae (bB conc (aV W0))) (ae c)->(∀b,w.heap.size<=b->(∀z∈Z,¬dB z.c b)->ae c b)->cM w' (λ b=>ft (ae (bB conc (aV W0))) w b/\b∉C) (ae c):=by
  intro c j l b g _;by_cases R:b<w.heap.size;rcases g.1 with u|u;exact j b u R;omega;exact l b (by omega) λ z f L=>g.2 (N.e z f b L).1
 have V:∀z∈Z,∀cv o B,bB conc (aV W0) z.k=some (cv,o,B)->cv<z.b:=by
  intro z f cv o B A;have e:=(λ k=>Nz t k) z.k;rcases N.j z f with⟨n,aa⟩| ⟨ab,al,n,aa⟩
  rw[n]at e;have:bB conc (aV W0) z.k=none:=m.r z.k (by
   cases i:bn (eX st.b W0) z.k with
   |none=>rfl
   |some q=>rw[i]at e;cases e)
  rw[this]at A;cases A;cases i:bn (eX st.b W0) z.k with
  |none=>grind
  |some q=>
   obtain⟨E,Y⟩:=q;obtain⟨c',am,j,_⟩:=m.q z.k E Y i
   grind
 have⟨D,k1,ai,aj,X,ak⟩:=m.Q O (Z:=Z) N.h V (λ z f b g=>(N.e z f b g).2) (N.l G) (λ c j l ad J=>N.i c (U c l J));refine (nM (st:=st) (W0:=W0++p.2) (d:=some d) (s:= .ju p.1) (st':=st') (v:=v) (conc1:=D) (w1:=w') (a:=a) (w0:=w0) (P:=P)) ?_ K ⟨_,by trivial,F,N.g _ X (by grind)⟩;grind[DM]
variable{o:Oper}{f:Nat}{c:fc}{l:List bQ}{p:aU×W}{u:er}
theorem oO.b{w' ok ok'}(i:fN ok w w')(g:cM w ok ok'):(e:List Ty)->{vs:List df}->{x:ax e}->oO P w ok e vs x->oO P w' ok' e vs x| [],vs,x,h=>h| [t],vs,x,⟨v,c,a⟩=> ⟨v,c,T3 a⟩|t::u::e,vs,x,⟨v,r,c,a,f⟩=> ⟨v,r,c,T3 a,oO.b i g (u::e) f⟩
where
 T3 {t:Ty} {v:Value} {d:t.b} (h:kQ P w ok t v d):kQ P w' ok' t v d:=by
  obtain⟨b,off,cs,T,fr,c,a,f,j,k⟩:=h;exact⟨b,_,_,T,_,c,g b a (by grind),(i.d b a (by grind)).trans f,j,k.b t i g⟩
theorem Wm(hE:al P E)(h:aD P w0 conc st a w)(K:bn E.C f=some c){y zk W1}(L:NH P conc st w c.b y zk W1) {i} (g:bU (di P w conc (ae conc)) l i) (b:(C6 E c y l).af st=some p):∀F,(∀id∈aV (W1++p.2),id∈F)->da P conc st w F (W1++p.2)/\bN P w (bB conc F) (ae (bB conc F)) p.1 (.func (.func f) i.toArray zk.toArray):=by
 have⟨q,r⟩:=hE.h f c K;have⟨ins,caps,O,fn,fresh⟩:=c;intro F o;have⟨k1,s⟩:=L F λ id M=>o id (by grind[jZ,gb]);dsimp only[C6]at b;unfold S9 at b;split at b;rename_i a' r' A y;cases hp:o8 a' with|true=>rw[hp]at b;cases b|false=>rw[hp]at b;cases b;cases i with
  |cons _ _=>trivial|nil=>refine⟨by grind,[_],rfl,f,_,_,(o5.fn hp).2 rfl,q,λ w' ok' k j xs x m z n=>?_⟩;have:=r w' ok' [a'.d xs] zk x y z ⟨xs,rfl,m⟩ (s.b k j caps) n;refine gl (by simpa using this) ?_;rintro e N⟨v,G,H,⟨cs,I,J⟩,_⟩;grind
 ·rename_i t' a' r' s' A y;cases hp:o8 a' with
  |true=>rw[hp]at b;cases b|false=>
  rw[hp]at b;have⟨d,C,D⟩:=bw b;cases D
  match i,g with
  | [B],g=>have⟨us,t,u⟩:=nO hE h C g.1;have⟨m1,m2⟩:=u F λ id M=>o id (by grind[jZ,hA]);refine⟨k1.e m1,[_],rfl,f,_,_,(o5.fn hp).2 rfl,q,λ w' ok' k j xs x m z n=>?_⟩;have:=r w' ok' [B,a'.d xs] zk (d.1,x) y z ⟨us,_,by rw[t],m2.b t' k j,xs,rfl,m⟩ (s.b k j caps) n;refine gl (by simpa using this) ?_;rintro e N⟨v,G,H,⟨cs,I,J⟩,_⟩;grind| [],g=>trivial|_::_::_,g=>exact g.2.elim
 trivial
theorem an0(hE:al P E)(h:aD P w0 conc st a w){T:Nat}{x}(D:o.op= .makeInterface T x)(hT:bn akv T=some f)(u:bn E.C f=some c) {s} (b:(rd [] x).af st=some s) (hp:(akw E c.c c.b c.a c.g s).af st=some p) {st'} (r:cD st none (.a o.dst [] true (.v p.1) p.2)=some st'):cz P w0 o a w st':=by have⟨C,B⟩:=hE.meth T f hT;have⟨t,A⟩:=hE.h f c u;have⟨ins,caps,K,fn,fresh⟩:=c;dsimp only at hp;unfold akw at hp;split at hp;rename_i s' t' a' r' J;have⟨d,j,k⟩:=bw hp;cases k;have⟨us,g,i⟩:=nO hE h j (jJ h (cG _) b);have⟨m1,m2⟩:=i (aV d.2) λ _ h=>h;refine cz.b (v:= .iface T (a.eval x)) (w':=w) ?_ ?_;unfold ea;rw[D];rw[dk,B];rfl;refine nM (h.A m1) r ?_;refine⟨[_],rfl,f,#[a.eval x],#[],⟨T,_,rfl,rfl,rfl,C⟩,t,λ w' ok' G b xs y H z I=>?_⟩;have:=A w' ok' [a.eval x,(Ty.ec a').d xs] [] (d.1,y) () z ⟨us,_,by rw[g],m2.b t' G b,xs,rfl,H⟩ rfl I;refine gl (by simpa using this) ?_;rintro e L⟨v,l,m,⟨cs,n,q⟩,_⟩;exact⟨cs,by rw[l,n],m,q⟩;cases hp
theorem ab8(hE:al P E)(h:aD P w0 conc st a w){first cap}(m:o.op= .makeFunc (.func f) first cap)(g:bn E.C f=some c) {y} (k:(uD E c.b cap.toList).af st=some y) (j:(sb [] first.toList).af st=some l) (hp:(C6 E c y.1 l).af st=some p) {st'} (e:cD st none (.a o.dst [] true (.v p.1) (y.2++p.2))=some st'):cz P w0 o a w st':=by
 have⟨k1,n⟩:=Wm hE h g (GJ hE h c.b k) (yZ h (cG _) j) hp (aV (y.2++p.2)) λ _ h=>h;refine cz.b (v:= .func (.func f) (first.map a.eval) (cap.map a.eval)) (w':=w) ?_ ?_;simp_all[ea,pk];refine nM (h.A k1) e ?_;have b:first.map a.eval=(first.toList.map a.eval).toArray:=by grind
 have d:cap.map a.eval=(cap.toList.map a.eval).toArray:=by grind
 rw[b,d];trivial
theorem afy(hE:al P E)(h:aD P w0 conc st a w){first cap}(m:o.op= .makeFunc (.func f) first cap)(b:first.toList.isEmpty=true){c}(e:bn E.I f=some c) {y} (i:(uD E c.a cap.toList).af st=some y) {xs} (g:c.c y.1=some xs) {st'} (d:cD st none (.a o.dst [] true (.v (.aE c.b xs)) y.2)=some st'):cz P w0 o a w st':=by
 have⟨k1,k⟩:=GJ hE h c.a i (aV y.2) λ _ h=>h;have⟨n,j⟩:=hE.j f c e;have b:first= #[]:=by grind
 subst b;refine cz.b (v:= .func (.func f) #[] (cap.map a.eval)) (w':=w) ?_ ?_;simp_all[ea,pk];refine nM (h.A k1) d ⟨_,?_,j _ _ _ _ _ k g⟩;have l:cap.map a.eval=(cap.toList.map a.eval).toArray:=by grind
 grind[Ty.d]
theorem ZX(h:aD P w0 conc st a w){q}(R:Gg P conc st a w o q){st'}(c:(FL o.dst q).af st=some u)(k:cD st none u=some st'):cz P w0 o a w st':=by
 have⟨m,fid,args,N,M⟩:=R;refine cz.e N M ?_;rintro v w'⟨g,C,D⟩;unfold FL at c;split at c;rename_i e l d z A t;rw[t];rcases ((D z).1 e l A) with⟨f,j⟩| ⟨b,off,cap,cs,T,f,j,E,F,G,H,I⟩
 subst j;refine wv h m c k g (λ b K=>by rw[f]at K;trivial) (λ B J n U=> ⟨rfl,.inl ⟨f,rfl⟩⟩)
  (λ B ver L=> ⟨_,_,_,L,b2 _,by rw[f];rfl,λ _=>rfl⟩)
 rw[f];exact KG h m c k F G H g j E λ i x Q=>(I i x Q).b e ⟨b2 _,λ _ _ _=>rfl⟩ (λ S s _=> ⟨s.1,s.2⟩);rename_i x y r d z A t;obtain⟨p,J,n⟩:=bw c;cases n
 grind[agk]
 cases c;exact nM ((h.A m).D g) k C
theorem anL (hE : al P E) (h : aD P w0 conc st a w) {o : Oper} {f : Nat} {args : Array Operand} {tys : Array TypeId} (aC : o.op = .call { callee := .value (.func f), args := args, argTypes := tys }) {c : u7} (am : bn E.M f = some c)
    {u : er} {st' : au} (g : (akM E o.dst c args.toList).af st = some u) (ab : cD st none u = some st') : cz P w0 o a w st' := by
  obtain ⟨j, ap⟩ := hE.l f c am
  obtain ⟨aL, ins, fn, ah⟩ := c
  cases K : args.toList with
  | nil => rw [K] at g; cases g
  | cons x xs =>
    rw [K] at g
    simp only [akM] at g
    obtain ⟨b, aj, g⟩ := bw g
    cases b <;> simp only at g <;> try (cases g; done)
    rename_i id ver
    obtain ⟨aN, I, g⟩ := bw g
    obtain ⟨y, p, g⟩ := bw g
    simp only [bV] at g
    split at g
    · rename_i cv e l N
      obtain ⟨n, O⟩ := dE g
      clear g
      simp only [b1] at n
      have := cU n.1
      subst this
      split at O
      · rename_i aw
        subst aw
        obtain ⟨l', ak, B⟩ := RM.iV O
        have ax : id ∉ aV y.2 := Ph n.2
        obtain ⟨aK, ag, k1, R⟩ := pW h N
        obtain ⟨aa, c', aM, m1, _, _, aI⟩ := dQ h (cG _) aj
        rw [k1] at m1; cases m1
        have aH := aI rfl
        subst aH
        obtain ⟨rfl, R⟩ := R
        obtain ⟨ar, aF⟩ := DF hE h ins p (yZ h (cG _) I) (aV y.2) (fun _ h => h)
        have t : bB conc (aV y.2) id = some (cv, a.eval x, true) := by simp [bB, k1, ax]
        have aE : o7 P w (ae (bB conc (aV y.2))) e (a.eval x) l := by
          rcases R with q | ⟨b, off, cap, cs, T, S, U, V, W, X, Y⟩
          · exact .inl q
          · exact .inr ⟨b, off, cap, cs, T, S, U, V, W, X, fun i z Q => (Y i z Q).b e ⟨Nat.le_refl _, fun _ _ _ => rfl⟩ (sX w conc (aV y.2))⟩
        have az : ∀ b, dB (a.eval x) b -> ¬ ae (bB conc (aV y.2)) b := fun b j aA => aA.2 id cv _ t j
        have ac := E1 (P := P) (w := w) (a := a) aC (fid := f) (first := #[]) (cap := #[]) rfl j
        have an : (#[] ++ args.map a.eval ++ #[] : Array Value) = (a.eval x :: xs.map a.eval).toArray := by
          apply Array.ext'
          simp [K]
        rw [an] at ac
        refine cz.e ac (ap w _ (a.eval x) (xs.map a.eval) l y.1 l' aE aF az ak) ?_
        rintro r w' ⟨k, af⟩
        obtain ⟨conc1, rfl, J, _, _⟩ := wG h ar
        have up : ∀ (c2 : Value) (m : bf), cM w (ae (bB conc (aV y.2))) (ae m) -> (∀ b, w.heap.size <= b -> ¬ dB c2 b -> ae m b) -> (∀ b, dB c2 b -> b < w.heap.size) ->
            o7 P w' (ft (ae (bB conc (aV y.2))) w) e c2 l' -> fS P w' m (ae m) c2 true (.c8 e l') := by
          intro c2 m I p n N
          refine ⟨rfl, ?_⟩
          rcases N with q | ⟨b, off, cap, cs, T, S, U, V, W, X, Y⟩
          · exact .inl q
          · refine .inr ⟨b, off, cap, cs, T, S, U, V, W, X, fun i z Q => (Y i z Q).b e ⟨Nat.le_refl _, fun _ _ _ => rfl⟩ fun D G _ => ?_⟩
            rcases Nat.lt_or_ge D w.heap.size with A | av
            · rcases G with G | G
              · exact I D G A
              · omega
            · exact p D av fun e => by have := n D e; omega
        have A : ∀ b, dB (a.eval x) b -> b < w.heap.size := fun b j => (J.f id cv _ b t j).2
        have ad : ∀ b, b < w.heap.size -> (∀ ai F, bB conc (aV y.2) id = some (ai, F, true) -> ¬ dB F b) -> w'.heap[b]? = w.heap[b]? := fun b j ay => k.block b j (ay cv _ t)
        cases L : ah <;> rw [L] at B
        · cases B
          rcases af with ⟨q, _⟩ | ⟨_, aG, q⟩
          · rw [L] at q; cases q
          · obtain ⟨H, Z, _⟩ := J.I (id := id) (ver := cv) (c := a.eval x) (o := .c8 e l') (w' := w') (fun aa F ag C => by rw [t] at C; cases C; exact .inr ⟨rfl, rfl⟩) k.os k.tape k.output k.size ad
              (fun b j => ⟨.inr ⟨cv, _, t, j⟩, Nat.lt_of_lt_of_le (A b j) k.size⟩) (fun m _ _ _ p n => up _ m p n A q)
            have ao : cD st none (.a o.dst [] true (.oF []) (y.2 ++ [(id, (cv, .c8 e l'))])) = some st' := by
              rw [<- ab]
              cases o.dst <;> rfl
            refine nM (W0 := y.2 ++ [(id, (cv, .c8 e l'))]) (d := o.dst) (s := .oF []) (conc1 := H) ?_ ao ⟨[], by rw [aG], trivial⟩
            rw [DM]
            exact Z
        · cases aq : o.dst <;> rw [aq] at B <;> dsimp only at B <;> first | (cases B; done) | skip
          rename_i d
          cases B
          rcases af with ⟨_, q, M⟩ | ⟨q, _⟩
          · have aB : eY r = true := by
              rcases q with ⟨q, _⟩ | ⟨b, off, cap, cs, T, q, _⟩ <;> rw [q] <;> rfl
            obtain ⟨H, Z, aJ, _⟩ := J.I (id := id) (ver := cv + 1) (c := r) (o := .c8 e l') (w' := w') (fun aa F ag C => by rw [t] at C; cases C; exact .inl (Nat.lt_succ_self _)) k.os k.tape k.output k.size ad
              (fun b j => ⟨.inr ⟨cv, _, t, M b j⟩, Nat.lt_of_lt_of_le (A b (M b j)) k.size⟩) (fun m _ _ _ p n => up _ m p n (fun b j => A b (M b j)) q)
            refine nM (W0 := y.2 ++ [(id, (cv + 1, .c8 e l'))]) (d := some d) (s := .v (.dj id (cv + 1))) (conc1 := H) ?_ ab ⟨cv + 1, r, true, aJ, Nat.le_refl _, aB, fun _ => rfl⟩
            rw [DM]
            exact Z
          · rw [L] at q; cases q
      · cases O
    · cases g
theorem anV (hE : al P E) (h : aD P w0 conc st a w) {o } {f t id ver } {args } {tys } (an : o.op = .call { callee := .value (.tmp t), args := args, argTypes := tys }) {g } (ax : bn st.a t = some ⟨[], g, .v (.oH f id ver)⟩) {c } (X : bn E.O f = some c) {u } {st' } (i : (akL E o.dst c id ver args.toList).af st = some u) (aa : cD st none u = some st') : cz P w0 o a w st' := by
  have ⟨ac, ad⟩ := hE.k f c X;have ⟨aQ, ins, fn⟩ := c;have ⟨aU, S, i⟩ := bw i;have ⟨y, U, i⟩ := bw i;simp only [bV] at i;split at i
  · rename_i cv e cells ak;have ⟨m, H⟩ := dE i;clear i;simp only [dr] at m;have := cU m.1.1;subst this;have aB : y.2 = [] := by simpa using m.1.2
    have ⟨p, V, I⟩ := bw H;have ⟨A, i⟩ := dE I;clear H I;simp only [dr] at A;have ao : p.2 = [] := by simpa using A.1
    have ap : p.1.2 = [] := by simpa using A.2
    split at i
    · rename_i z;subst z;have ⟨x, W, av⟩ := RM.iV i;cases av;have ⟨v, ay, az⟩ := h.k t _ ax;obtain ⟨q, Q, aq⟩ : bN P w conc (ae conc) (.oH f id cv) v := (az.b (cG _)).2;obtain ⟨aP, aF, k1, ⟨rfl, b, cs, T, aG, L, aT, aH, aI⟩, j, n, ar⟩ := sR h ak aq;have af : a.eval (.tmp t) = v := by simp [ko, ay]
      subst aG;cases n
      subst ar
      have ⟨us, M, aC, aE, K⟩ := CY hE h e V aI aH
      have aA : M = [] := by
        rw [ao] at K
        cases M with
        | nil => rfl
        | cons _ _ => exact K.elim
      have Y : aw P e w (ae conc) cs.toList p.1.1 := by
        rw [aC, aA, ih]
        exact ((aE [] (by simp [ap, aV])).2).e e m.2
      have G := DF hE h ins U (yZ h (cG _) S) (aV y.2) (fun _ h => h)
      have ag : bB conc (aV y.2) = conc := by rw [aB]; exact mT conc
      rw [ag] at G
      have aj : ∀ j, dB (hZ (some ⟨b, 0, none⟩)) j -> ¬ ae conc j := fun j k am => am.2 id cv _ k1 k
      have F := E1 (P := P) (w := w) (a := a) an (fid := f) (first := #[]) (cap := #[hZ (some ⟨b, 0, none⟩)]) (by rw [af, Q]) ac
      have Z : (#[] ++ args.map a.eval ++ #[hZ (some ⟨b, 0, none⟩)] : Array df) = (args.toList.map a.eval ++ [hZ (some ⟨b, 0, none⟩)]).toArray := by
        apply mn
        simp
      rw [Z] at F
      refine cz.e (R := fun v w' => v = .tuple #[] /\ aeE (hZ (some ⟨b, 0, none⟩)) w w' /\ adL P w' (ft (ae conc) w) e (hZ (some ⟨b, 0, none⟩)) x) F
        (gl (ad w _ _ _ p.1.1 y.1 x ⟨b, cs, T, rfl, L, Y⟩ G.2 aj W) (fun aS w' z => ⟨_, z.1, rfl, z.2⟩)) ?_
      rintro r w' ⟨rfl, l, aN, D, N, aK, aL, aM⟩
      cases aK
      have ah : b < w.heap.size := (eL.1 L).1
      have ⟨O, aJ, _⟩ := h.I (id := id) (ver := cv) (c := hZ (some ⟨b, 0, none⟩)) (o := .eu e (tn e x)) (w' := w') (fun aR aO aF n => by rw [k1] at n; cases n; exact .inr ⟨rfl, rfl⟩) l.os l.tape l.output l.size
        (fun j k ai => l.block j k (ai cv _ k1)) (fun j k => ⟨.inr ⟨cv, _, k1, k⟩, by cases k; exact hs ah l.size⟩)
        (fun C _ _ _ _ _ => by
          have B : aw P e w' (ae C) D.toList x := aM.e e m.2
          have J := Al (conc := C) e B
          exact ⟨rfl, b, D, N, rfl, aL, by rw [J.b]; exact B.d, B.f, J⟩)
      have ab : cD st none (.a o.dst [] true (.oF []) [(id, (cv, .eu e (tn e x)))]) = some st' := by
        rw [<- aa]
        cases o.dst <;> rfl
      exact nM (W0 := [(id, (cv, .eu e (tn e x)))]) (d := o.dst) (s := .oF []) (conc1 := O) aJ ab ⟨[], rfl, trivial⟩
    · cases i
  · cases i
theorem an4(h:aD P w0 conc st a w){o f id cv first cap x u cells}(i:o.op= .makeFunc (.func f) first cap)(g:first.toList= [])(e:cap.toList= [x]) (k:(c9 [] x).af st=some (.dx id cv 0)) (l:bn st.b id=some (cv,.eu u cells)) {st'} (d:cD st none (.a o.dst [] true (.v (.oH f id cv)) [])=some st'):cz P w0 o a w st':=by
 have b:first= #[]:=by rw[<- oj (xs:=first),g]
 have c:cap= #[x]:=by rw[<- oj (xs:=cap),e]
 subst b c;refine cz.b (v:= .func (.func f) #[] #[a.eval x]) (w':=w) (by simp[ea,i,pk]) ?_;exact nM (W0:= []) (s:= .v (.oH f id cv)) h d ⟨a.eval x,rfl,dQ h (cG _) k⟩
theorem Ic(hE:al P E)(h:aD P w0 conc st a w){s}(e:(il E [] true o.op).af st=some s){st'}(d:cD st none (.a o.dst [] true s [])=some st'):cz P w0 o a w st':=have⟨v,b,c⟩:=Rm hE h (cG _) e;cz.b b (nM (W0:= []) h d c)
theorem acF(hE:al P E)(h:aD P w0 conc st a w){S T:Nat}{x}(z:o.op= .convert S T x)(m:E.b S=some .aJ)(hT:E.b T=some (.aH (.ay .u8))){l:List UInt8} (G:(c9 [] x).af st=some (.aE .aJ l)) {st'} (n:cD st none (.a o.dst [] true (.v (.aE (.aH (.ay .u8)) (kv l))) [])=some st'):cz P w0 o a w st':=by
 have⟨K,B,t⟩:=hE.b m;have e:=t.g;rw[B]at e;have⟨L,C,u⟩:=hE.b hT;have⟨b,D,p⟩:=u.p C;have⟨vs,f,g⟩:=dQ h (cG _) G;have j:vs= [.string ⟨⟨l⟩⟩]:=g;subst j;have k:a.eval x= .string ⟨⟨l⟩⟩:=f;have d:=run_bytes_of_string w S T b ⟨⟨l⟩⟩ e D p;have A:(⟨⟨l⟩⟩:ByteArray).size=l.length:=rfl;rw[A]at d;refine cz.b (w':=_) (v:=_) (by simp only[ea,z,k];rw[dk,d];rfl) ?_;have I:=p5 w l.length 0 b;have H:(mm ⟨⟨l⟩⟩ (fv w l.length 0 b)).toList=l.map (λ c=>en .u8 (c.toNat:Int))++jc (fv w l.length 0 b- l.length) (.int .u8 0):=by simp[mm,zj]
 refine nM (W0:= []) (h.D ((cm.k w).l (cm.d _ _))) n ⟨[_],rfl,some ⟨w.heap.size,0,none⟩,fv w l.length 0 b,?_,?_,.inr ⟨w.heap.size,0,_,_,_,rfl,?_,l7 _ _,?_,.inl rfl,λ i y J=>?_⟩⟩;simp[kv];grind[kv];refine⟨by rw[h.u];exact h.F _ h.e.d,λ id ver c r q=>?_⟩;have:=(h.f id ver c _ r q).2;omega;grind[hB,kv,Ty.a];show aS _ _ _= [_];grind[kv,mr,eQ,aS,Ty.a,kH]
theorem amI{f:Operand}{c:u7}(h:(akB E f).af st=some (some (.inl c))):∃g,f= .func g/\bn E.M g=some c:=by
 unfold akB at h;split at h
 ·rename_i g;refine⟨g,rfl,?_⟩;cases a:bn E.M g with
  |none=>rw[a]at h;cases h
  |some d=>rw[a]at h;cases h;rfl
 ·rename_i t;simp only[bV]at h;split at h
  ·rename_i g id ver _;cases a:bn E.O g with
   |none=>rw[a]at h;cases h
   |some d=>rw[a]at h;cases h
  ·cases h
 ·cases h
theorem anf{f:Operand}{c:o9}{id ver:Nat}(h:(akB E f).af st=some (some (.inr (c,id,ver)))):∃t g b,f= .tmp t/\bn st.a t=some ⟨[],b,.v (.oH g id ver)⟩/\bn E.O g=some c:=by
 unfold akB at h;split at h
 ·rename_i g;cases a:bn E.M g with
  |none=>rw[a]at h;cases h
  |some d=>rw[a]at h;cases h
 ·rename_i t;simp only[bV]at h;split at h
  ·rename_i b g i j e;cases a:bn E.O g with
   |none=>rw[a]at h;cases h
   |some d=>rw[a]at h;cases h;exact⟨t,g,b,rfl,e,a⟩
  ·cases h
 ·cases h
theorem acz(hE:al P E)(h:aD P w0 conc st a w){o:Oper}{u:er}(j:(D2 E o).af st=some u){st':au}(A:cD st none u=some st'):cz P w0 o a w st':=by
 unfold D2 at j;split at j
 ·rename_i r;split at j
  ·grind[ah7]
  trivial
 ·rename_i T r;split at j
  ·grind[aif]
  trivial
 ·rename_i T x r;split at j
  ·rename_i d t C hT;obtain⟨s,v,j⟩:=bw j;obtain⟨l,B,j⟩:=bw j;obtain⟨H,j⟩:=dE j
   grind[ahn,cU]
  trivial
 ·rename_i T n ps r;split at j
  ·rename_i d e C hT;obtain⟨l,v,j⟩:=bw j;obtain⟨H,j⟩:=dE j;simp only[b1]at H;exact VB hE h r C (ZZ hE hT) H.1 (by simp_all) v j A
  trivial
 ·rename_i T x y r;split at j
  ·rename_i d e C hT;obtain⟨b,v,j⟩:=bw j;split at j
   ·rename_i n;obtain⟨H,D⟩:=dE j;clear j;obtain⟨q,F,j⟩:=RM.iV D
    grind[cU,iZ,CO,Zx]
   trivial
  trivial
 ·rename_i T ad x r;split at j
  ·rename_i t C hT;obtain⟨b,v,j⟩:=bw j;cases b with
   |dx id ver off=>
    simp only[Ei]at j;obtain⟨s,B,j⟩:=bw j;obtain⟨l,H,j⟩:=bw j;simp only[bV]at j;split at j
    ·rename_i cv t' cells I;obtain⟨F,D⟩:=dE j;clear j;simp only[b1]at F;have:=cU F.1.1;subst this;cases D;exact V3 hE h r C hT v B H I (cU F.1.2) (by simp_all) A
    trivial
   |rD id ver e i=>
    simp only[Ei]at j;obtain⟨s,B,j⟩:=bw j;obtain⟨d,H,j⟩:=bw j;simp only[bV]at j;split at j
    ·rename_i cv ao l I;obtain⟨F,D⟩:=dE j;clear j;simp only[b1]at F;have:=cU F.1;subst this;split at D
     ·rename_i ag;obtain⟨ah,ai⟩:=ag;subst ah;subst ai;obtain⟨l',L,j⟩:=RM.iV D;cases j
      grind[XU,Ph]
     trivial
    trivial
   |sd id ver off k n i=>
    simp only[Ei]at j;obtain⟨s,B,j⟩:=bw j;split at j
    ·simp only[bV]at j;split at j
     ·rename_i cv u cells I;obtain⟨F,D⟩:=dE j;clear j;simp only[b1]at F;have Z:=cU F.1;subst Z;obtain⟨⟨rfl,rfl⟩,G⟩:=jN D;obtain⟨z,L,J⟩:=bw G;cases J;exact aad hE h r C hT v B I L (by simp_all) A
     trivial
    trivial
   |_=>trivial
  trivial
 ·rename_i args tys r;split at j
  ·rename_i d s x T an C W X;obtain⟨K,D⟩:=dE j;clear j;have:=cU K;subst this;have Q:args= #[s,x]:=by grind
   have V:tys= #[T,T]:=by grind
   subst Q V;obtain⟨b,v,j⟩:=bw D;cases b with
   |dj id ver=>
    simp only[Ht]at j;obtain⟨Y,B,j⟩:=bw j;simp only[bV]at j;split at j
    ·rename_i cv e l I;obtain⟨F,D⟩:=dE j;clear j;have:=cU F;subst this;obtain⟨hT,G⟩:=jN D;obtain⟨m,L,J⟩:=bw G;obtain⟨q,aa,U⟩:=RM.iV J;cases U
     grind[List.length,iZ,jk,aia,yo]
    trivial
   |js=>
    simp only[Ht]at j;split at j
    ·rename_i e hT;obtain⟨Y,B,j⟩:=bw j;obtain⟨m,L,j⟩:=bw j;obtain⟨q,aa,j⟩:=RM.iV j
     grind[List.length,iZ,jk,UJ]
    ·cases j
   |_=>cases j
  ·cases j
 ·rename_i f first cap r
  cases M:bn E.C f with
  |none=>
   simp only[M]at j;cases N:bn E.I f with
   |none=>
    simp only[N]at j;split at j
    ·rename_i c x I af ac;obtain⟨b,v,j⟩:=bw j;split at j
     ·rename_i id ver;simp only[bV]at j;split at j
      ·rename_i cv u cells aj;obtain⟨B,G⟩:=dE j;clear j;simp only[b1]at B;have:=cU B.1;subst this;cases G;exact an4 h r af ac v aj A
      ·cases j
     ·cases j
    ·cases j
   |some c=>
    simp only[N]at j;obtain⟨K,D⟩:=dE j;obtain⟨y,v,G⟩:=bw D;obtain⟨xs,B,J⟩:=RM.iV G;cases J;exact afy hE h r K N v B A
  |some c=>
   simp only[M]at j;obtain⟨y,v,j⟩:=bw j;obtain⟨l,B,j⟩:=bw j;obtain⟨p,H,j⟩:=bw j;cases j;exact ab8 hE h r M v B H A
 ·rename_i T r;split at j
  ·rename_i d k u C hT;exact Yj h r C j A
  ·cases j
 ·rename_i T x r;split at j
  ·rename_i d k u C hT;obtain⟨b,v,j⟩:=bw j;split at j
   ·rename_i t l;obtain⟨l',B,G⟩:=bw j;clear j;obtain⟨e,ae⟩:=kC (RM.Ae B);subst e;subst ae;exact aoW hE h r C hT v G A
   ·cases j
  ·cases j
 ·rename_i T m k x r;split at j
  ·rename_i C;exact SE hE h (by simp only[execOp,r]) C j A
  ·cases j
 ·rename_i T m k x r;split at j
  ·rename_i C;exact SE hE h (by simp only[execOp,r]) C j A
  ·cases j
 ·rename_i T x lo N r;obtain⟨b,v,j⟩:=bw j;split at j
  ·rename_i id ver d C;simp only[bV]at j;split at j
   ·rename_i cv e l I;obtain⟨B,D⟩:=dE j;have:=cU B;subst this;obtain⟨hT,G⟩:=jN D;obtain⟨p,H,J⟩:=bw G;obtain⟨q,F,U⟩:=bw J;obtain⟨z,L,ak⟩:=RM.iV U;cases ak;exact aga hE h r C hT v I H F L A
   ·cases j
  ·rename_i id ver off d C;split at j
   ·rename_i aq hT _;exact aiI hE h r C hT v j A
   ·cases j
  ·obtain⟨s,B,G⟩:=bw j;cases G;exact Ic hE h (by rw[r];exact B) A
 ·rename_i args tys r;split at j
  ·rename_i x y T S W X;have Q:args= #[x,y]:=by rw[<-Array.toArray_toList (xs:=args),W]
   have V:tys= #[T,S]:=by rw[<-Array.toArray_toList (xs:=tys),X]
   subst Q V;exact aft hE h r j A
  ·cases j
 ·rename_i f args tys r;obtain⟨m,K,O⟩:=bw j;clear j;split at O
  ·rename_i c;obtain⟨g,rfl,R⟩:=amI K;exact anL hE h r R O A
  ·rename_i c;obtain⟨c,id,ver⟩:=c;obtain⟨t,g,ap,rfl,am,R⟩:=anf K;exact anV hE h r am R O A
  ·obtain⟨q,v,j⟩:=bw O;exact ZX h (PB hE h (cG _) r v) j A
 ·rename_i x name args tys r;obtain⟨q,v,j⟩:=bw j;exact ZX h (an8 hE h r v) j A
 ·rename_i T x r;split at j
  ·rename_i f hT;split at j
   ·rename_i c M;obtain⟨s,v,j⟩:=bw j;obtain⟨p,B,j⟩:=bw j;cases j;exact an0 hE h r hT M v B A
   ·cases j
  ·cases j
 ·rename_i S T x r;have other:∀{u},((il E [] true o.op).aB λ s=>RM.aA (er.a o.dst [] true s [])).af st=some u->cD st none u=some st'->cz P w0 o a w st':=by
   intro u j A;obtain⟨s,v,j⟩:=bw j;cases j;exact Ic hE h v A
  rw[r]at other;split at j
  ·rename_i ab hT;obtain⟨b,v,j⟩:=bw j;split at j
   ·rename_i l;cases j;exact acF hE h r ab hT v A
   ·cases j
  ·exact other j A
 ·obtain⟨s,v,j⟩:=bw j;cases j;exact Ic hE h v A
end
section
variable[Dr]
variable{P:Program}{E:aq}{w0:bC}{w:World}{conc:bf}{st:au}{a:Act}
variable{o:Oper}{r:Option Nat}{n:Nat}{u:er}{v:Value}{Q:Exit->Act->World->Prop}
def FE(P:eb)(w0:bC)(ops:Array eg)(o:eg)(a:fu)(w:ee)(st':au):=(eH o (eV ops a.tmps)=true->cz P w0 o a w st')/\(eH o (eV ops a.tmps)=false->cT P w0 st' (a.put o.dst undef) w)
theorem uO(h:aD P w0 conc st a w){L g s q}{W0:W}{d st' w1}(o:cm w w1)(l:W0= [])(n:cD st (some q) (.a d L g s W0)=some st')(k:∀p∈L,p.1=q\/p.1∈st.d)(r:G9 P w1 conc (ae conc) a.tmps ⟨L,g,s⟩ v):cT P w0 st' (a.put d v) w1:=by
 subst l;refine⟨conc,?_⟩;have f:=h.D o;rcases Q1 n with⟨i,rfl,c,t,rfl⟩| ⟨rfl,rfl⟩
 refine f.K (d:=i) (sl:= ⟨L,g,s⟩) (v:=v) (ms:=nT (some q) st.d) c (λ m b=>hh _ b) (λ p hp=>?_) r;rcases k p hp with e|e
 exact⟨by rw[e];exact hD,by grind⟩;exact⟨hh _ e,λ j=>(pa.1 c).2.1 (j▸e)⟩;exact f.E (ms:=nT _ _) λ m b=>hh _ b
def Bz:df->Option Bool| .bool b=>some b|_=>none
theorem Zk{b}(h:Bz v=some b):v= .bool b:=by cases v<;>simp[Bz]at h;rw[h]
theorem WM(hE:al P E)(h:aD P w0 conc st a w){ops:Array eg}{j s:Nat}{want}(ap:o.guard=some (j,want))(af:(ops[j]?).bind (·.dst)=some s) (k:(zO E o s want).af st=some u) {st'} (z:cD st (some s) u=some st'):FE P w0 ops o a w st':=by
 simp[zO,bV]at k;split at k;rename_i L g b M;have⟨v,ag,N⟩:=h.k s _ M;have ab:=h.m s _ M;have ai:eV ops a.tmps j=Bz v:=by
  unfold eV;rw[af];simp[gk,ag];cases v<;>rfl
 have ah:eH o (eV ops a.tmps)=((eV ops a.tmps j)==some want):=by
  grind[eH]
 let m:List (Nat×Bool):=(s,want)::L;let g':Bool:=CP L g (bif want then b else !b);have x:∀p∈m,p.1=s\/p.1∈st.d:=by
  grind
 have yes:eH o (eV ops a.tmps)=true->eO a.tmps m/\g'=true:=by
  intro t;have O:v= .bool want:=Zk (by grind);by_cases d:eO a.tmps L;have⟨k1,J⟩:=N.b d;have⟨us,F,C⟩:=J;have:=tM F C;have am:b=want:=by grind
  refine⟨Hp (by grind) d,?_⟩;have V:(bif want then b else !b)=true:=by
   grind
  show CP L g _=true;have r:g=true:=k1;unfold CP
  grind
  have:=N.d d;rw[O]at this;trivial
 have no:eO a.tmps m->eH o (eV ops a.tmps)=true:=by
  intro d;have ak:=d (s,want) (hD)
  grind[Bz]
 split at k;rename_i f args tys I;have⟨q,A,k⟩:=bw k;split at k;rename_i H;cases k;constructor;intro t;have⟨d,r⟩:=yes t;have B:(zW E m g' f args.toList).af st=some q:=A;rw[r]at B;have⟨ao,fid,aj,Z,Y⟩:=PB hE h d I B;refine cz.e Z Y ?_;rintro v' w'⟨C,U,_⟩;rw[H,show aV []= []from rfl,mT]at U;exact uO (W0:= []) h C rfl z x ⟨by grind,absurd d⟩;intro Q;have D:¬eO a.tmps m:=λ d=>by grind
 exact uO (W0:= []) h (cm.h w) rfl z x ⟨by grind,λ _=>rfl⟩;trivial;rename_i T n ps I;split at k;rename_i e hT;have⟨l,A,K⟩:=bw k;split at K;rename_i H;have⟨G,ad⟩:=dE K;simp only[dr]at G;cases ad;constructor;intro t;have⟨d,r⟩:=yes t;have⟨aq,J,cs',S,an,R,ae⟩:=RB hE h d I (yo hE hT) G.1 (by simp_all) A;rw[H,show aV []= []from rfl,mT]at R;refine cz.b ae ?_;refine uO (W0:= []) h (cm.d w _) rfl z x ⟨λ _=> ⟨r,[_],rfl,some ⟨w.heap.size,0,none⟩,n,by rw[J],by omega,.inr ⟨w.heap.size,0,cs',S,_,rfl,?_,l7 _ _,?_,.inr ?_,λ i y aa=>?_⟩⟩,λ D=>absurd d D⟩;refine⟨by rw[h.u];exact h.F _ h.e.d,λ id ver c X W=>?_⟩;have:=(h.f id ver c _ X W).2;omega
 grind
 have⟨_,_,_,_,_,_,_,ac⟩:=yo hE hT;have:=n1 G.2;have:=q5 n ac;unfold gw;omega;rw[hv];exact(R.2.2 i y aa).b e (cm.j (cm.d w _) _) (cM.d _ _);intro Q;have D:¬eO a.tmps m:=λ d=>by grind
 exact uO (W0:= []) h (cm.h w) rfl z x ⟨by grind,λ _=>rfl⟩;trivial;trivial;have⟨q,A,k⟩:=bw k;cases k;constructor;intro t;have⟨d,r⟩:=yes t;have B:(il E m g' o.op).af st=some q:=A;rw[r]at B;have⟨v',F,C⟩:=Rm hE h d B;refine cz.b F ?_;exact uO (W0:= []) h (cm.h w) rfl z x ⟨by grind,by grind⟩;intro Q;have D:¬eO a.tmps m:=λ d=>by grind
 exact uO (W0:= []) h (cm.h w) rfl z x ⟨by grind,λ _=>rfl⟩
 trivial
theorem Pj(hE:al P E)(h:cT P w0 st a w){ops o u}(b:(gx E ops o).af st=some u){st'}(c:cD st (kS ops o) u=some st'):FE P w0 ops o a w st':=by have⟨conc,h⟩:=h;unfold gx at b;unfold kS at c;cases d:o.guard with
 |none=>
  rw[d]at b c;have f:eH o (eV ops a.tmps)=true:=by grind[eH]
  exact⟨λ _=>acz hE h b c,by grind⟩|some p=>have⟨j,want⟩:=p;rw[d]at b c;dsimp only at b c;cases e:(ops[j]?).bind (·.dst)with|none=>rw[e]at b;cases b|some s=>rw[e]at b c;exact WM hE h d e b c
def tS(E:aq)(ops:Array eg)(o:eg)(st:au):=((gx E ops o).af st).bind λ u=>cD st (kS ops o) u
theorem aey{R}(ops)(o)(st)(K:au->Option R):Ge E ops o st K=(tS E ops o st).bind K:=by unfold Ge tS;rw[RM.sH];grind
theorem aeQ(hE:al P E)(h:cT P w0 st a w){ops o st'}(b:tS E ops o st=some st'):FE P w0 ops o a w st':=by unfold tS at b;cases c:(gx E ops o).af st with|none=>grind|some u=>grind[Pj]
def Fr(r:Option Nat):={j1 with round:=r}
theorem adS(r)(n):(Fr r).room n:=λ _ h=>by trivial
theorem QE{f args w R}(h:qq P f args w R):CallsIn (Fr r) n P f args w R:=(callsIn_wide (n:=n)).2 h
theorem aa8{row args w R}(h:Rows P row args w R):RowsIn (Fr r) n P row args w R:=λ c cs _=>let⟨v,w',q,s⟩:=h c _; ⟨v,_,q,(stepsIn_wide (P:=P)).2 s⟩
theorem aaz{m}{c:Code}{a w}(h:c.wpIn (Fr r) n P Q a w):c.wpIn (Fr r) m P Q a w:=λ b k cs e d _=>h b k _ e d (adS _ _)
theorem H7{a w K}(b:∀c,o.op≠ .defer c)(h:o.wp P a w K Q):o.wpIn (Fr r) n P a w K Q:=by refine⟨λ _ _=>trivial,?_⟩;rw[Oper.semAt_eq _ _ _ b];unfold nv at h;generalize (ea a.eval o).run P w=z at*;cases z with
 |ok x w'=>
  cases x<;>simp[yl,Oper.uponIn]at h⊢<;>first|exact h|exact h.elim|skip
  refine⟨λ e=>by trivial,(QE h).mono ?_⟩
  grind;grind[Fr,j1,aa8]|halt x w'=>cases x<;>simp[yl]at h⊢<;>first|exact h|exact h.elim
theorem Sm{ops o u}(a:(gx E ops o).af st=some u):∀c,o.op≠ .defer c:=by intro c d;unfold gx at a;cases e:o.guard with
 |none=>grind[D2,il,RM.aB,bV]|some p=>have⟨j,want⟩:=p;rw[e]at a;dsimp only at a;cases b:(ops[j]?).bind (·.dst)with|none=>rw[b]at a;cases a|some s=>
  rw[b]at a;simp[zO,bV]at a;split at a;simp[d,il,RM.aB,bV]at a;cases a
theorem Xc{ops o st'}(a:tS E ops o st=some st'):∀c,o.op≠ .defer c:=by unfold tS at a;cases b:(gx E ops o).af st with|none=>grind|some u=>exact Sm b
theorem ahz(ops:Array eg):(List.range ops.size).map (λ i=>ops[i]?)=ops.toList.map some:=by apply k4;grind
theorem S7(h:aD P w0 conc st a w):aD P w0 conc (jO st) a w:=by
 refine({g:=h.g,n:=h.n,m:=?_,k:=?_,q:=h.q,r:=h.r,t:=h.t,f:=h.f,e:=h.e,u:=h.u,x:=h.x,h:=h.h,l:=h.l}:aD P w0 conc (jO st) a w);intro d sl b;unfold jO at b;rw[Map.Fy (λ sl:fX=>if sl.L.isEmpty then sl else⟨[],true,.v .nX⟩)]at b;cases c:bn st.a d with
 |none=>rw[c]at b;cases b
 |some j=>
  rw[c]at b;simp only[l9,Option.some.injEq]at b;intro p hp;split at b;rename_i i;subst b;rw[tw]at i;rw[i]at hp;cases hp;subst b;cases hp
 intro d sl b;unfold jO at b;rw[Map.Fy (λ sl:fX=>if sl.L.isEmpty then sl else⟨[],true,.v .nX⟩)]at b;cases c:bn st.a d with
 |none=>rw[c]at b;cases b
 |some j=>
  rw[c]at b;simp only[l9,Option.some.injEq]at b;obtain⟨v,o,s⟩:=h.k d j c;refine⟨v,o,?_⟩;split at b
  grind
  subst b;exact⟨λ _=> ⟨rfl,trivial⟩,absurd (cG _)⟩
theorem LM(h:cT P w0 st a w):cT P w0 (jO st) a w:=have⟨conc,h⟩:=h;⟨_,S7 h⟩
theorem ahy{st d sl}(a:bn (jO st).a d=some sl):sl.L= []:=by unfold jO at a;rw[Map.Fy (λ sl:fX=>if sl.L.isEmpty then sl else⟨[],true,.v .nX⟩)]at a;cases b:bn st.a d with|none=>rw[b]at a;cases a|some e=>
 rw[b]at a;simp only[l9,Option.some.injEq]at a;split at a;rename_i c;subst a;exact tw.1 c;subst a;rfl
variable{F:Nat->FP}{β R:Type}{l:W}{id:Nat}{m:Option Nat}
structure jx(st st':au):Prop where
 N:st'.N=st.N
 e:∀m,m∈st'.d↔m∈st.d
 b:∀d,bn st'.a d=bn st.a d
 f:∀id,bn st'.b id=bn st.b id
 c:st'.c=st.c
theorem jx.i(st):jx st st:= ⟨rfl,λ _=>b0,λ _=>rfl,λ _=>rfl,rfl⟩
theorem jx.j{st st'}(h:jx st st'):jx st' st:= ⟨h.N.symm,λ m=>(h.e m).symm,λ d=>(h.b d).symm,λ d=>(h.f d).symm,h.c.symm⟩
theorem jx.h{a b c}(h:jx a b)(e:jx b c):jx a c:= ⟨e.N.trans h.N,λ m=>(e.e m).trans (h.e m),λ d=>(e.b d).trans (h.b d),λ d=>(e.f d).trans (h.f d),e.c.trans h.c⟩
theorem jx.g{st st'}(h:jx st st')(c:cT P w0 st a w):cT P w0 st' a w:=have⟨conc,m⟩:=c;⟨_,{g:=m.g,n:=by rw[m.n,h.N],m:=λ d sl b p hp=>(h.e _).2 (m.m d _ (by rw[<-h.b];omega) p hp),k:=λ d sl b=>m.k d _ (by rw[<-h.b];omega),q:=λ id ver o i=>m.q _ _ o (by rw[<-h.f];omega),r:=λ id b=>m.r _ (by rw[<-h.f];omega),t:=m.t,f:=m.f,e:=m.e,u:=m.u,x:=m.x,h:=m.h,l:=λ s j=>m.l s (by rw[<-h.c];omega)}⟩
theorem Gc(m:RM β):∀{st st':au},(∀d,(d,true)∈m.ij st->bn st'.a d=bn st.a d)->(∀d,(d,false)∈m.ij st->bn st'.b d=bn st.b d)->m.af st'=m.af st/\m.ij st'=m.ij st:=by induction m with
 |aA b=>intros;trivial|aa=>intros;trivial|nh d f a=>grind[RM.ij,bn,hh,bV]|dS d f a=>grind[RM.ij,bn,hh,bV]|dG g m f a=>intro st st' c e;cases m with|none=>trivial|some x=>exact a x c e
theorem ain(m:RM β)(st):∀K:β->List pD->Option R,m.si st K=(m.af st).bind λ x=>K x (m.ij st):=by induction m with|aA b=>intro K;rfl|aa=>intro K;rfl|nh d f a=>grind[RM.si,bV,RM.ij]|dS id f a=>grind[RM.si,bV,RM.ij]|dG c m f a=>intro K;cases m with|none=>rfl|some x=>grind[RM.si,bV,RM.ij]
def jQ(E:aq)(ops:Array eg)(F:Nat->FP):List Nat->au->au->Prop| [],st,st'=>jx st st'|i::l,st,st'=>∃o u a,ops[i]?=some o/\(gx E ops o).af st=some u/\(gx E ops o).ij st=(F i).r/\u.b=(F i).w/\cD st (kS ops o) u=some a/\jQ E ops F l a st'
theorem aeX(h:id∉aV l)(m):bn (eX m l) id=bn m id:=by
 rcases vy m l id with⟨b,_⟩| ⟨o,_,a⟩;omega;exact absurd (ej.2 ⟨_,a,rfl⟩) h
theorem Js{m m'}(h:bn m' id=bn m id):bn (eX m' l) id=bn (eX m l) id:=by induction l generalizing m m' with|nil=>exact h|cons p l a=>exact a (by grind[Map.lq])
theorem Eo{a}(h:cD st m u=some a):a.N=st.N/\a.d=nT m st.d/\(∀d,(d,true)∉u.b->bn a.a d=bn st.a d)/\(∀d,(d,false)∉u.b->bn a.b d=bn st.b d)/\a.b=eX st.b u.d/\(∀d sl,u.c=some (d,sl)->st.e d=true/\xY m d=false/\a.a=Map.jw st.a d sl)/\(u.c=none->a.a=st.a)/\a.c=st.c:=by
 unfold cD at h;have⟨b,c⟩:=u;have i:∀d,(d,false)∉(er.b ⟨b,c⟩)->bn (eX st.b c) d=bn st.b d:=by intro d e;refine aeX (λ f=>e ?_) _;refine hA _ ?_;have⟨p,hp,g⟩:=ej.1 f;grind
 cases b with
 |none=>grind|some p=>grind[xY,hQ,Map.lq,er.b,Option.some.injEq,Prod.mk.injEq]
theorem Vk{e b}(h:cD st m u=some e)(a:jx st b):∃f,cD b m u=some f/\jx e f:=by
 have⟨g,l⟩:=u;have c:∀q,q∈nT m b.d↔q∈nT m st.d:=by intro q;cases m with|none=>exact a.e q|some s=>simp[nT,j2,a.e]
 unfold cD at h⊢;cases g with|none=>cases h;exact⟨_,rfl,a.N,c,a.b,λ id=>Js (a.f _),a.c⟩|some p=>
  have⟨d,sl⟩:=p;dsimp only at h⊢;have j:b.e d=st.e d:=by rw[Bool.eq_iff_iff,pa,pa,a.N,a.e,a.c]
  rw[j];cases i:(st.e d&&!xY m d)with|false=>grind|true=>rw[i]at h;cases h;exact⟨_,rfl,a.N,c,λ k=>by simp[Map.lq,a.b],λ id=>Js (a.f _),a.c⟩
theorem jQ.c{ops}:(l:List Nat)->{st st' b:au}->jQ E ops F l st st'->jx st b->jQ E ops F l b st'| [],st,st',b,h,a=>a.j.h h|i::l,st,st',b,⟨o,u,st1,h1,h2,h3,h4,h5,h6⟩,a=>have c:=Gc (gx E ops o) (st:=st) (st':=b) (λ d _=>a.b d) (λ d _=>a.f d);have⟨f,k1,e⟩:=Vk h5 a;⟨o,u,_,h1,c.1.trans h2,c.2.trans h3,h4,k1,jQ.c l h6 e⟩
theorem adf{ops o s}(a:(gx E ops o).af st=some u)(b:kS ops o=some s):(s,true)∈(gx E ops o).ij st:=by grind[kS,gx,zO,RM.ij]
theorem ur{l m}(h:DO l m=true){k}(a:k∈l):k∉m:=by intro b;have:=ht.1 h k a;grind[hQ,List.any_eq_false,Od,gF]
theorem jQ.d{ops F i j l st st'}(h:jQ E ops F (i::j::l) st st')(D:tW (F i) (F j)=true):jQ E ops F (j::i::l) st st':=by
 have⟨o,u,af,N,O,w,q,P,c,f,st2,L,B,n,v,M,Q⟩:=h;simp[tW,dr]at D;have⟨⟨d1,d2⟩,d3⟩:=D;have⟨U,p2,p3,p4,ai,V,aj,W⟩:=Eo P;have G:=Gc (gx E ops c) (st:=af) (st':=st) (λ d b=>(p3 d (λ a=>by rw[n]at b;rw[q]at a;exact ur d1 a b)).symm) (λ d b=>(p4 d (λ a=>by rw[n]at b;rw[q]at a;exact ur d1 a b)).symm);have⟨ak,X,Y,al,am,Z,an,ao⟩:=Eo M;have R:∃g,cD st (kS ops c) f=some g:=by unfold cD;cases b:f.c with|none=>exact⟨_,rfl⟩|some p=>
  have⟨d,sl⟩:=p;have⟨m1,m2,_⟩:=Z d sl b;have:st.e d=true:=by have⟨y,t,z⟩:=pa.1 m1;refine pa.2 ⟨by rw[<-U];exact y,λ a=>t ?_,by rw[<-W];exact z⟩;rw[p2];cases kS ops o<;>simp[nT,a]
  dsimp only;rw[this,m2];exact⟨_,rfl⟩
 have⟨g,J⟩:=R;have⟨ab,K,ac,ad,ap,aq,ar,ae⟩:=Eo J;have H:=Gc (gx E ops o) (st:=st) (st':=g) (λ d b=>ac d (λ a=>by rw[w]at b;rw[v]at a;exact ur d2 a b)) (λ d b=>ad d (λ a=>by rw[w]at b;rw[v]at a;exact ur d2 a b));have r:∃A,cD g (kS ops o) u=some A:=by unfold cD;cases b:u.c with
  |none=>exact⟨_,rfl⟩|some p=>
   have⟨d,sl⟩:=p;have⟨m1,m2,_⟩:=V d sl b;have:g.e d=true:=by have⟨y,t,z⟩:=pa.1 m1;refine pa.2 ⟨by rw[ab];exact y,λ a=>?_,by rw[ae];exact z⟩;rw[K]at a;cases x:kS ops c with|none=>rw[x]at a;exact t a|some s=>
    rw[x]at a;rcases j2.1 a with e|a
    have I:=adf B x;rw[n]at I;refine ur d1 (k:=(d,true)) ?_ (by rw[e];exact I);rw[<-q];unfold er.b;rw[b];simp;exact t a
   grind
 have⟨A,r⟩:=r;have⟨av,ag,ah,aw,ax,ay,az,aA⟩:=Eo r;have heq:jx st2 A:=by
  refine⟨by omega,λ m=>?_,λ d=>?_,λ id=>?_,by grind⟩;rw[ag,K,X,p2];cases kS ops o<;>cases kS ops c<;>simp only[nT,j2]
  grind
  by_cases b:(d,true)∈u.b;have C:(d,true)∉f.b:=by grind[ur]
  rw[Y d C];cases S:u.c with
  |none=>grind
  |some p=>
   grind[Map.lq]
  rw[ah d b];by_cases C:(d,true)∈f.b;cases S:f.c with
  |none=>grind
  |some p=>
   grind[Map.lq]
  grind
  by_cases b:(id,false)∈u.b
  all_goals grind[id,ur,Js]
 exact⟨_,_,_,L,G.1.trans B,G.2.trans n,v,J,o,u,_,N,H.1.trans O,H.2.trans w,q,r,jQ.c l Q heq⟩
theorem jQ.b{ops i q}:(p:List Nat)->{st st':au}->jQ E ops F (p++i::q) st st'->(∀j∈p,tW (F j) (F i)=true)->jQ E ops F (i::(p++q)) st st'| [],st,st',h,_=>h|j::p,st,st',⟨o,u,st1,h1,h2,h3,h4,h5,h6⟩,hi=>have:=jQ.b p h6 λ k a=>hi k (hh _ a);jQ.d (i:=j) (j:=i) (l:=p++q) ⟨o,u,_,h1,h2,h3,h4,h5,this⟩ (by grind)
theorem Tf{b g}:∀fs i,yh b g i fs=true->∀k f,fs[k]?=some f->fz b (i+k)=true\/tW f g=true| [],i,h,k,f,a=>by simp at a|c::r,i,h,k,f,a=>by simp[yh,dr,vi]at h;cases k with|zero=>simp[kL,Option.some.injEq]at a;subst a;exact h.1|succ k=>simp[q6]at a;have:=Tf r (i+1) h.2 k f a;grind
theorem Ln{R ops d K}{r:R}:∀l fs st,(∀k o,l[k]?=some o->ops[fs.length+k]?=some o)->Bd E ops d l fs st K=some r->∃a st',a.length=l.length/\K st'=some r/\(∀F,(∀k g,a[k]?=some g->F (fs.length+k)=g)->jQ E ops F (List.range' fs.length l.length) st st')/\(∀i j f g,fs.length<=i->j<i->(fs++a)[i]?=some g->(fs++a)[j]?=some f->fz (d.getD i 0) j=true\/tW f g=true)
 | [],fs,st,n,h=>by refine⟨[],st,rfl,h,λ F t=>jx.i st,?_⟩;intro i j f g q s b c;rw[ih,List.getElem?_eq_none q]at b;cases b|o::l,fs,st,n,h=>by rw[Bd,ain]at h;cases p:(gx E ops o).af st with|none=>rw[p]at h;cases h|some u=>rw[p]at h;simp only[gk]at h;cases e:cD st (kS ops o) u with|none=>rw[e]at h;cases h|some z=>rw[e]at h;cases m:yh (d.getD fs.length 0) ⟨(gx E ops o).ij st,u.b⟩ 0 fs with|false=>rw[m]at h;cases h|true=>
     rw[m]at h;simp[cond_true]at h;have⟨a,st',A,v,w,B⟩:=Ln l (fs++ [⟨(gx E ops o).ij st,u.b⟩]) z (λ k y D=>by have:=n (k+1) y (by trivial);grind) h;refine⟨⟨(gx E ops o).ij st,u.b⟩::a,st',by grind,v,λ F t=>?_,?_⟩;have h0:F fs.length= ⟨(gx E ops o).ij st,u.b⟩:=t 0 _ rfl;refine⟨o,u,_,by simpa using n 0 o rfl,p,by rw[h0],by rw[h0],e,?_⟩;have:=w F (λ k g C=>by rw[hq,rL,show fs.length+1+k=fs.length+ (k+1)from by omega];simp_all);grind;intro i j f g q s b c;rw[show fs++ ⟨(gx E ops o).ij st,u.b⟩::a=(fs++ [⟨(gx E ops o).ij st,u.b⟩])++a from by simp]at b c;by_cases x:i=fs.length;subst x;rw[nH (by grind),nH s]at c;have:=Tf fs 0 m j f c;grind;grind
theorem Ku{a j}:∀es s,fz (uR es a s) j=true->fz s j=true\/∃e∈es,iA .any e=true/\(e.on=j\/fz (a.getD e.on 0) j=true)| [],s,h=> .inl h|e::r,s,h=>by rw[uR]at h;rcases Ku r _ h with h| ⟨b,c,d,f⟩;all_goals grind
theorem Sl:∀l a,∃r,qo l a=a++r/\∀k o,l[k]?=some o->∀j,fz (r.getD k 0) j=true->∃e∈o.after.toList,iA .any e=true/\(e.on=j\/fz ((qo l a).getD e.on 0) j=true)
 | [],a=> ⟨[],by simp[qo],λ k o h=>by trivial⟩|o::l,a=>by
  have⟨r,n,d⟩:=Sl l (a++ [uR o.after.toList a 0]);have f:qo (o::l) a=qo l (a++ [uR o.after.toList a 0]):=by rw[qo,CheckFast.force_eq]
  refine⟨uR o.after.toList a 0::r,by grind,?_⟩;intro k p c j b;rw[f];cases k with
  |zero=>simp[kL,Option.some.injEq]at c;subst c;rcases Ku _ _ b with h| ⟨e,g,i,m⟩;all_goals grind|succ k=>exact d k _ (by grind) j (by grind)
theorem SJ:∀l i,yq i l=true->∀k o,l[k]?=some o->∀e∈o.after.toList,iA .any e=true->e.on<i+k
 | [],i,h,k,o,a=>by trivial|d::r,i,h,k,o,a=>by simp only[yq,dr]at h;cases k with|zero=>simp[kL,Option.some.injEq]at a;subst a;intro e c b;have:=ht.1 h.1 e c;rw[b]at this;simpa using this|succ k=>have:=SJ r (i+1) h.2 k o (by simpa using a);intro e c b;have:=this e c b;omega
theorem T9(hE:al P E){rd nn ops}{B:Nat->Nat}{Q st2} (C:∀i o,ops[i]?=some o->∀j,fz (B i) j=true->∃e∈o.after.toList,iA .any e=true/\(e.on=j\/fz (B e.on) j=true)) (af:∀i o,ops[i]?=some o->∀e∈o.after.toList,iA .any e=true->e.on<i) (hI:∀i j,i<ops.size->j<i->fz (B i) j=true\/tW (F j) (F i)=true) (R:∀a' w',cT P w0 st2 a' w'->Q .normal a' w'):∀n listed l{st:au}{a:fu}{w:ee},l.length=n->l.Pairwise (· < ·)->listed.size=ops.size->(∀i,i∈l↔i<ops.size/\listed.getD i true=false)->(∀i,i<ops.size->i∉l->∀j,fz (B i) j=true->j∉l)->cT P w0 st a w->jQ E ops F l st st2->wpAnyIn (Fr rd) nn P .any ops Q n listed a w:=by
 have X:∀(listed:Array Bool)i,i∈pN .any ops listed↔i<ops.size/\listed.getD i true=false/\∃o,ops[i]?=some o/\∀e∈o.after.toList,iA .any e=true->listed.getD e.on false=true:=by grind[pN,hQ,Array.all_eq_true_iff_forall_mem,iA]
 have aj:∀(listed:Array Bool)(l:List Nat),listed.size=ops.size->(∀i,i∈l↔i<ops.size/\listed.getD i true=false)->∀i,i<ops.size->(listed.getD i false=true↔i∉l):=by grind
 intro n
 induction n with|zero=>intro listed l st a w s hp v c H d f;have:l= []:=qO s;subst this;refine⟨?_,R a w (jx.g f d)⟩;simp_all[List.eq_nil_iff_forall_not_mem,absurd]|succ n T=>
  intro listed l st a w s hp v c H d f;constructor;intro ah;cases l with
  |nil=>trivial
  |cons h0 t=>
   have⟨ac,ad⟩:=(c h0).1 hD
   grind[pN,sv]
  intro i I;have⟨g,A,o,h,ae⟩:=(X _ _).1 I;obtain⟨p,q,rfl⟩:=List.append_of_mem ((c i).2 ⟨g,A⟩);have D:∀j,fz (B i) j=true->j∉p++i::q:=by
   intro j b;have⟨e,Z,aa,ab⟩:=C i o h j b
   grind
  have N:∀j∈p,j<i:=λ j b=>(List.pairwise_append.1 hp).2.2 j b i hD;have⟨U,u,Y,ak,z,am,an,V,W⟩:=jQ.b p f λ j b=>(hI i j g (N j b)).resolve_left λ G=>D j G (by grind);have M:U=o:=by grind
  subst M;have x:=Pj hE d z V;have ai:i∉p++q:=by
   grind[absurd,sv]
  have next:∀a' w',cT P w0 Y a' w'->wpAnyIn (Fr rd) nn P .any ops Q n (listed.setIfInBounds i true) a' w':=by
   intro a' w' L;refine T _ _ (by grind) ?_ (by grind) ?_ ?_ L W
   grind
   intro k;have m:=c k;by_cases r:k=i;simp_all;have:(k∈p++q)↔(k∈p++i::q):=by grind
   rw[this,m];by_cases K:k<ops.size;simp[v,K,Ne.symm r];omega;intro k m ag j b;by_cases r:k=i
   all_goals grind
  unfold wpOpIn;rw[h];dsimp only;cases y:eH _ _ with
  |true=>
   exact H7 (Sm z) (x.1 y _ Q (by omega))
  |false=>
   exact⟨λ _ _=>trivial,next _ _ (x.2 y)⟩
end
section
variable[Dr]
variable{F:List Nat}{v:Value}{s:bQ}{α:Type}{k i:Nat}{m:List (Nat×α)}
structure iK where
 t:Ty
 d:t.b
inductive lj where|aj (t:Ty)|pp (t:Ty)|iR (id:Nat)|cu (id off:Nat)|j6|TN (f:Nat)|sZ|akJ (f id:Nat)
inductive ki where|v (c:lj)|B6 (l:List lj)
inductive mS where|jH (e:Ty)|cp (t:Ty) (l:List lj)|tU (k v:Ty)|it (k v:Ty)
structure cf where
 N:Nat
 b:List Ty
 d:List (Nat×ki)
 e:List (Nat×mS)
 c:List Nat
structure Sc where
 d:List iK
 c:List (Nat×Option Nat)
 f:W
def Sc.b(x y:Sc):Sc:= ⟨x.d++y.d,x.c++y.c,x.f++y.f⟩
def Sc.e:Sc:= ⟨[],[],[]⟩
def wx(E:aq):lj->aU->RM Sc
 | .aj t,a=>(gX E t a).aB λ x=> .aA ⟨[⟨t,x.1⟩],[],x.2⟩| .pp t,a=>(qu E t a).aB λ x=> .aA ⟨[⟨t,x.1⟩],[],x.2⟩| .iR i,.dj id ver=> .dS id λ|some (cv,.c8 _ _)=>bif cr cv ver then .aA ⟨[],[(i,some id)],[]⟩else .aa|some (cv,.kB _ _ _)=>bif cr cv ver then .aA ⟨[],[(i,some id)],[]⟩else .aa|some (cv,.it _ _ _ _)=>bif cr cv ver then .aA ⟨[],[(i,some id)],[]⟩else .aa|_=> .aa
 | .iR i,.js=> .aA ⟨[],[(i,none)],[]⟩| .cu i off,.dx id ver b=> .dS id λ|some (cv,.eu _ _)=>bif cr cv ver&&cr off b then .aA ⟨[],[(i,some id)],[]⟩else .aa|_=> .aa
 | .j6,.js=> .aA .e| .TN f,.rN f'=>bif cr f f' then .aA .e else .aa| .sZ,.ku=> .aA .e| .akJ f i,.oH f' id ver=> .dS id λ|some (cv,.eu _ _)=>bif cr cv ver&&cr f f' then .aA ⟨[],[(i,some id)],[]⟩else .aa|_=> .aa
 |_,_=> .aa
def sW(E:aq):List lj->List aU->RM Sc| [],[]=> .aA .e|c::l,a::m=>(wx E c a).aB λ x=>(sW E l m).aB λ y=> .aA (x.b y)|_,_=> .aa
def Az(E:aq):ki->bQ->RM Sc| .v (.aj t),s=>(jd E t s).aB λ x=> .aA ⟨[⟨t,x.1⟩],[],x.2⟩| .v c,.v a=>wx E c a| .B6 l,.ju m=>sW E l m| .B6 l,.v (.aE t d)=>bif t.c then sW E l (tn t d)else .aa|_,_=> .aa
def xx(E:aq):List (Nat×ki)->RM Sc| []=> .aA .e| (d,t)::r=> .nh d λ|some ⟨[],_,s⟩=>(Az E t s).aB λ x=>(xx E r).aB λ y=> .aA (x.b y)|_=> .aa
def yg(E:aq)(a:List (Nat×Option Nat))(i:Nat):mS->RM Sc
 | .jH e=>match bn a i with
  |some none=> .aA ⟨[⟨.aH e,([]:List e.b)⟩],[],[]⟩|some (some id)=> .dS id λ|some (_,.c8 b l)=>bif decide (b=e)then .aA ⟨[⟨.aH b,l⟩],[],[]⟩else .aa|_=> .aa
  |none=> .aa
 | .cp t l=>match bn a i with
  |some (some id)=> .dS id λ|some (_,.eu u cells)=>bif decide (u=t)then sW E l cells else .aa|_=> .aa
  |_=> .aa
 | .tU k v=>match bn a i with
  |some (some id)=> .dS id λ|some (_,.kB k' v' l)=>bif decide (k'=k/\v'=v)then .aA ⟨[⟨.cO k' v',l⟩],[],[]⟩else .aa|_=> .aa
  |_=> .aa
 | .it k v=>match bn a i with
  |some (some id)=> .dS id λ|some (_,.it k' v' _ l)=>bif decide (k'=k/\v'=v)then .aA ⟨[⟨.cO k' v',l⟩],[],[]⟩else .aa|_=> .aa
  |_=> .aa
def xH(E:aq):List (Nat×Option Nat)->List (Nat×mS)->RM Sc|_,[]=> .aA .e|a,(i,t)::r=>(yg E a i t).aB λ x=>(xH E (a++x.c) r).aB λ y=> .aA (x.b y)
def Tb(E:aq)(T:cf):=(xx E T.d).aB λ x=>(xH E x.c T.e).aB λ y=> .aA (x.b y)
def Hz(p q:Nat×Option Nat):Bool:=bif cr p.1 q.1 then(match p.2,q.2 with|none,none=>true|some a,some b=>cr a b|_,_=>false)else(match p.2,q.2 with|some a,some b=>!cr a b|_,_=>true)
def Jw(T:cf)(S:Sc):=(S.c.all λ p=>S.c.all (Hz p))&& (S.c.all λ p=>match bn T.e p.1 with|some _=>true|none=>false)&&S.c.all λ p=>match p.2 with|some id=>!S.f.any λ q=>cr q.1 id|none=>true
@[reducible] def cR:List Ty->Type
 | []=>Unit
 |t::ts=>t.b×cR ts
def Ep:(a:List Ty)->List iK->Option (cR a)
 | [],[]=>some ()|t::a,d::ds=>match gN (t:=d.t) (t':=t) d.d,Ep a ds with|some x,some r=>some (x,r)|_,_=>none
 |_,_=>none
def CK:(a:List Ty)->cR a->List iK| [],_=> []|t::a,(x,r)=> ⟨t,x⟩::CK a r
def ot:List Nat->List Nat->Bool| [],[]=>true|a::l,b::m=>cr a b&&ot l m|_,_=>false
theorem EW:{l m:List Nat}->ot l m=true->l=m
 | [],[],_=>rfl|a::l,b::m,h=>by simp only[ot,dr]at h;rw[cU h.1,EW h.2]| [],_::_,h=>by cases h|_::_,[],h=>by cases h
def ky(E:aq)(T:cf)(st:au):=(Tb E T).jT st λ S=>bif Jw T S&&cr st.N T.N&&ot st.c T.c then Ep T.b S.d else none
def DT:lj->List iK->Option (aU×List iK)| .aj _,⟨t,d⟩::r=>some (.aE t d,r)| .pp _,⟨t,d⟩::r=>some (.gB t d,r)| .iR i,r=>some (.dj i 0,r)| .cu i off,r=>some (.dx i 0 off,r)| .j6,r=>some (.js,r)| .TN f,r=>some (.rN f,r)| .sZ,r=>some (.ku,r)| .akJ f i,r=>some (.oH f i 0,r)|_,[]=>none
def AP:List lj->List iK->Option (List aU×List iK)| [],r=>some ([],r)|c::l,r=>match DT c r with
 |some (a,r)=>match AP l r with|some (m,r)=>some (a::m,r)|none=>none
 |none=>none
def yv:ki->List iK->Option (bQ×List iK)
 | .v c,r=>match DT c r with|some (a,r)=>some (.v a,r)|none=>none
 | .B6 l,r=>match AP l r with|some (m,r)=>some (.ju m,r)|none=>none
def pY:List (Nat×ki)->List iK->Option (List (Nat×fX)×List iK)| [],r=>some ([],r)| (d,t)::l,r=>match yv t r with
 |some (s,r)=>match pY l r with|some (m,r)=>some ((d,⟨[],true,s⟩)::m,r)|none=>none
 |none=>none
def Ih:mS->List iK->Option (fJ×List iK)
 | .jH _,⟨.aH e,l⟩::r=>some (.c8 e l,r)| .cp t l,r=>match AP l r with|some (m,r)=>some (.eu t m,r)|none=>none
 | .tU _ _,⟨.cO k v,l⟩::r=>some (.kB k v l,r)| .it _ _,⟨.cO k v,l⟩::r=>some (.it k v none l,r)|_,_=>none
def Ci:List (Nat×mS)->List iK->Option (List (Nat×(Nat×fJ))×List iK)| [],r=>some ([],r)| (i,t)::l,r=>match Ih t r with
 |some (o,r)=>match Ci l r with|some (m,r)=>some ((i,(0,o))::m,r)|none=>none
 |none=>none
def mk(T:cf)(d:cR T.b):au:=match pY T.d (CK T.b d)with
 |some (s,r)=>match Ci T.e r with|some (h,_)=> ⟨T.N,[],s,h,T.c⟩|none=> ⟨T.N,[],[],[],T.c⟩
 |none=> ⟨T.N,[],[],[],T.c⟩
variable{P:Program}{E:aq}{w0:bC}{w:World}{conc:bf}{st:au}{a:Act}
theorem LD:(a:List Ty)->{b:List iK}->{d:cR a}->Ep a b=some d->CK a d=b| [],[],d,h=>rfl| [],_::_,d,h=>by trivial|t::a,[],d,h=>by trivial|t::a,⟨u,y⟩::b,d,h=>by simp[Ep]at h;split at h;rename_i x r g f;cases h;have⟨e,c⟩:=kC g;subst e;subst c;simp[CK,LD a f];trivial
def yK(conc:bf)(b:List (Nat×Option Nat))(a:bf):=∀i s,(i,s)∈b->match s with|none=>a i=some (0,.slice none 0 0,true)|some id=>∃cv c,conc id=some (cv,c,true)/\a i=some (0,c,true)
structure lC(w:ee)(conc:bf)(S:Sc)(F:List Nat)(a:bf):Prop where
 f:∀id∈aV S.f,id∈F
 e:yK conc S.c a
 d:cM w (ae (bB conc F)) (ae a)
 g:a.b=conc.b
theorem lC.b{x y a}(h:lC w conc (x.b y) F a):lC w conc x F a:= ⟨λ id b=>h.f _ (by grind[Sc.b,jZ,gb]),λ i s b=>h.e i s (by grind[Sc.b,gb]),h.d,h.g⟩
theorem lC.c{x y:Sc}{a}(h:lC w conc (x.b y) F a):lC w conc y F a:= ⟨λ id b=>h.f _ (by grind[Sc.b,jZ,hA]),λ i s b=>h.e i s (by grind[Sc.b,hA]),h.d,h.g⟩
theorem aw.c{t d vs w ok ok'}(h:aw P t w ok vs d)(a:cM w ok ok'):aw P t w ok' vs d:=h.b t ⟨b2 _,λ _ _ _=>rfl⟩ a
theorem J3{S a}(h:lC w conc S F a):cM w (ae conc) (ae a):=(sX w _ F).b (b2 _) h.d
def Tu(P:eb)(w:ee)(conc:bf)(c:lj)(S:Sc)(v:df):=∃y,(∀r,DT c (S.d++r)=some (y,r))/\∀F a,lC w conc S F a->bN P w a (ae a) y v
theorem KD(hE:al P E)(h:aD P w0 conc st a w){c x v S}(e:(wx E c x).af st=some S)(l:bN P w conc (ae conc) x v):Tu P w conc c S v:=by
 have named:∀{i id cv:Nat}{o:fJ}{Q:df->Prop}(y:aU),bn st.b id=some (cv,o)->(∀c z,fS P w conc (ae conc) c z o->z=true)->Nm conc id cv v Q->S= ⟨[],[(i,some id)],[]⟩->(∀r,DT c r=some (y,r))->(∀k,Nm k i 0 v Q->bN P w k (ae k) y v)->Tu P w conc c S v:=by intro i id cv o Q y n O l M N U;subst M;have⟨c2,z,k1,C,D⟩:=sR h n l;have:=O _ _ C;subst this;refine⟨y,N,λ F k g=>U k ?_⟩;have⟨J,c3,u,p2⟩:=g.e i (some id) (by simp);rw[k1]at u;cases u;have⟨_,_,_,_,_,G,_⟩:=l;exact⟨0,c2,true,p2,b2 _,G,λ _=>D⟩
 unfold wx at e;split at e;have⟨d,A,B⟩:=bw e;cases B;have⟨us,q,s⟩:=Ca hE h A l;exact⟨_,λ r=>rfl,λ F k g=> ⟨us,q,(s F g.f).2.c g.d⟩⟩;have⟨d,A,B⟩:=bw e;cases B;refine⟨_,λ r=>rfl,λ F k g=>?_⟩;have⟨b,off,cs,T,fr,j,m,H,K,L⟩:=(AQ hE h A l F g.f).2;exact⟨b,off,cs,T,fr,j,g.d b m (eL.1 H).1,H,K,L.c g.d⟩;rename_i i id ver;simp[bV]at e;split at e
 iterate 3
  rename_i n;have⟨j,m⟩:=dE e;have:=cU j;subst this;exact named (.dj i 0) n (λ _ _ h=>h.1) l (by cases m;rfl) (λ _=>rfl) λ _ h=>h
 trivial;rename_i i;cases e;refine⟨_,λ r=>rfl,λ F k g=>?_⟩;have:=g.e i none (by simp);have R:v= .slice none 0 0:=l;subst R;exact⟨0,_,_,this,b2 _,rfl,λ _=>rfl⟩;simp[bV]at e;split at e;rename_i n;have⟨j,m⟩:=dE e;simp only[dr]at j;have q:=cU j.1;have s:=cU j.2;subst q s;exact named _ n (λ _ _ h=>h.1) l (by cases m;rfl) (λ _=>rfl) λ _ h=>h;trivial;cases e;exact⟨_,λ r=>rfl,λ F k g=>l⟩;have⟨j,m⟩:=dE e;cases m;have:=cU j;subst this;exact⟨_,λ r=>rfl,λ F k g=>l⟩;cases e;exact⟨_,λ r=>rfl,λ F k g=>by show v=_;rw[g.g];trivial⟩;rename_i f i f' id ver;simp[bV]at e;split at e;rename_i cv t cells n;have⟨j,m⟩:=dE e;clear e;simp only[dr]at j;have q:=cU j.1;have s:=cU j.2;subst q s;cases m;have⟨p,hp,I⟩:=l;subst hp;have⟨c2,z,k1,C,D⟩:=sR h n I;obtain⟨rfl,_⟩:=C;refine⟨.oH f i 0,λ r=>rfl,λ F k g=>?_⟩;have⟨J,c3,u,p2⟩:=g.e i (some id) (by simp);rw[k1]at u;cases u;have⟨_,_,_,_,_,G,_⟩:=I;exact⟨p,rfl,0,c2,true,p2,b2 _,G,λ _=>D⟩;cases e;trivial
theorem B7(hE:al P E)(h:aD P w0 conc st a w):{cs:List lj}->{xs:List aU}->{vs:List df}->{S:Sc}->(sW E cs xs).af st=some S->bU (bN P w conc (ae conc)) xs vs->∃ys,(∀r,AP cs (S.d++r)=some (ys,r))/\∀F e,lC w conc S F e->bU (bN P w e (ae e)) ys vs
 | [],[],vs,S,b,d=>by cases b;cases vs with|nil=>exact⟨_,λ r=>rfl,λ _ _ _=>trivial⟩|cons _ _=>trivial
 | [],_::_,vs,S,b,d=>by trivial|_::_,[],vs,S,b,d=>by trivial|c::cs,x::xs,[],S,b,d=>d.elim|c::cs,x::xs,v::vs,S,b,d=>by rw[sW]at b;have⟨p,j,k⟩:=bw b;have⟨q,l,m⟩:=bw k;cases m;have⟨y,n,g⟩:=KD hE h j d.1;have⟨ys,o,i⟩:=B7 hE h l d.2;refine⟨y::ys,λ r=>?_,λ F e f=> ⟨g F e f.b,i F e f.c⟩⟩;grind[AP,Sc.b,hN]
theorem afZ(hE:al P E)(h:aD P w0 conc st a w){t S}(f:(Az E t s).af st=some S)(i:di P w conc (ae conc) s v):∃y,(∀r,yv t (S.d++r)=some (y,r))/\∀F c,lC w conc S F c->di P w c (ae c) y v:=by unfold Az at f;split at f;have⟨d,n,o⟩:=bw f;cases o;have⟨us,b,g⟩:=nO hE h n i;exact⟨_,λ r=>rfl,λ F c e=> ⟨_,b,(g F e.f).2.c e.d⟩⟩;have⟨y,b,g⟩:=KD hE h f i;exact⟨.v y,λ r=>by grind[yv],g⟩;have⟨vs,k,b,g⟩:=i;have⟨ys,l,j⟩:=B7 hE h f g;exact⟨.ju _,λ r=>by grind[yv],λ F c e=> ⟨_,k,b,j F _ e⟩⟩;have⟨p,m⟩:=dE f;have⟨vs,k,b⟩:=i;have⟨ys,l,j⟩:=B7 hE h m (Al _ b);exact⟨.ju _,λ r=>by grind[yv],λ F c e=> ⟨_,by grind[Ty.d],b.f,j F _ e⟩⟩;trivial
theorem Mg(hE:al P E)(h:aD P w0 conc st a w):{l:List (Nat×ki)}->{S:Sc}->(xx E l).af st=some S->∃ys,(∀r,pY l (S.d++r)=some (ys,r))/\∀F c,lC w conc S F c->∀d sl,(d,sl)∈ys->sl.L= []/\sl.g=true/\∃v,a.tmps[d]?=some v/\di P w c (ae c) sl.s v| [],S,b=>by cases b;exact⟨_,λ r=>rfl,by grind⟩| (k,t)::l,S,b=>by simp[xx,bV]at b;split at b;rename_i g s u;have⟨D,n,o⟩:=bw b;have⟨G,p,q⟩:=bw o;cases q;have⟨v,x,z⟩:=h.k k _ u;have⟨y,B,j⟩:=afZ hE h n ((z.b (cG _)).2);have⟨ys,C,m⟩:=Mg hE h p;refine⟨(k,⟨[],true,y⟩)::ys,λ r=>?_,λ F c i d sl f=>?_⟩;grind[pY,Sc.b,hN];rcases j2.1 f with e|f;cases e;exact⟨rfl,rfl,v,x,j F _ i.b⟩;exact m F _ i.c d _ f;trivial
theorem Map.ll{v}(h:bn m k=some v):(k,v)∈m:=by induction m with|nil=>cases h|cons p r a=>grind[bn,gF,hD,hh]
theorem Map.RE{α}{m:List (Nat×α)}{k}(h:bn m k=none):∀v,(k,v)∉m:=by induction m with|nil=>simp|cons p r a=>grind[bn,gF]
theorem Wy(hE:al P E)(h:aD P w0 conc st a w){W t S}(d:(yg E W i t).af st=some S):∃o,(∀r,Ih t (S.d++r)=some (o,r))/\∀F f,lC w conc S F f->yK conc W f->∃c,f i=some (0,c,true)/\fS P w f (ae f) c true o:=by
 unfold yg at d;split at d;rename_i e;split at d;rename_i q;cases d;refine⟨_,λ r=>rfl,λ F f g p=> ⟨_,p i _ (Map.ll q),rfl,by grind⟩⟩;rename_i id q;simp[bV]at d;split at d;rename_i cv Y l A;have⟨J,z⟩:=dE d;cases z;refine⟨.c8 Y l,λ r=>rfl,λ F f g p=>?_⟩;have⟨I,c2,n,p2⟩:=p i (some id) (Map.ll q);have⟨c,L,k1,s⟩:=pW h A;rw[k1]at n;cases n;refine⟨_,p2,rfl,?_⟩;obtain⟨_,s| ⟨b,off,cap,cs,T,B,C,D,v,G,M⟩⟩:=s;grind;exact .inr ⟨b,_,_,_,T,B,C,D,v,G,λ j x H=>(M j x H).c (J3 g)⟩;trivial;trivial;rename_i t l;split at d;rename_i id q;simp[bV]at d;split at d;rename_i cv u cells A;have⟨J,z⟩:=dE d;have aa:u=t:=by grind
 subst aa;have⟨c,L,k1,s⟩:=pW h A;obtain⟨rfl,b,cs,T,B,C,D,v,G⟩:=s;have⟨ys,ai,Z⟩:=B7 hE h z G;refine⟨.eu u ys,λ r=>by grind[Ih],λ F f g p=>?_⟩;have⟨I,c2,n,p2⟩:=p i (some id) (Map.ll q);rw[k1]at n;cases n;have V:=Z F f g;exact⟨_,p2,rfl,b,_,T,B,C,by rw[V.b,<-G.b];omega,v,V⟩;trivial;trivial;rename_i k u;split at d;rename_i id q;simp[bV]at d;split at d;rename_i cv k' U l A;have⟨J,z⟩:=dE d;cases z;refine⟨.kB k' U l,λ r=>rfl,λ F f g p=>?_⟩;have⟨I,c2,n,p2⟩:=p i (some id) (Map.ll q);have⟨c,L,k1,s⟩:=pW h A;rw[k1]at n;cases n;refine⟨_,p2,rfl,?_⟩;have⟨_,b,es,clock,B,C,ab,D,v⟩:=s;refine⟨b,es,clock,B,C,ab,D,λ j x e H K=>?_⟩;have⟨⟨ks,N,O⟩,us,Q,R⟩:=v j x e H K;exact⟨⟨_,N,O.c (J3 g)⟩,_,Q,R.c (J3 g)⟩;trivial;trivial;rename_i k u;split at d;rename_i id q;simp[bV]at d;split at d;rename_i cv k' U y l A;have⟨J,z⟩:=dE d;cases z;refine⟨.it k' U none l,λ r=>rfl,λ F f g p=>?_⟩;have⟨I,c2,n,p2⟩:=p i (some id) (Map.ll q);have⟨c,L,k1,s⟩:=pW h A;rw[k1]at n;cases n;refine⟨_,p2,rfl,?_⟩;have⟨_,r,m,es,clock,ah,ag,X,B,C,D,v,G,M,ac,ad,af,_⟩:=s;refine⟨r,m,es,clock,ah,ag,X,B,C,J3 g m D (eL.1 v).1,v,G,M,ac,ad,λ j x e H K=>?_,by simp⟩;have⟨⟨ks,N,O⟩,us,Q,R⟩:=af j x e H K;exact⟨⟨_,N,O.c (J3 g)⟩,_,Q,R.c (J3 g)⟩;trivial;trivial
theorem Lj(hE:al P E)(h:aD P w0 conc st a w):{l:List (Nat×mS)}->{n:List (Nat×Option Nat)}->{S:Sc}->(xH E n l).af st=some S->∃ys,(∀r,Ci l (S.d++r)=some (ys,r))/\(∀F b,lC w conc S F b->yK conc n b->∀i d,(i,d)∈ys->d.1=0/\∃c,b i=some (0,c,true)/\fS P w b (ae b) c true d.2)/\∀i t,(i,t)∈l->∃d,(i,d)∈ys| [],n,S,m=>by cases m;exact⟨_,λ r=>rfl,by grind,by grind⟩| (k,t)::l,n,S,m=>by simp[xH]at m;have⟨G,x,y⟩:=bw m;have⟨H,z,A⟩:=bw y;cases A;have⟨o,B,u⟩:=Wy hE h x;have⟨ys,C,v,D⟩:=Lj hE h z;refine⟨(k,(0,o))::ys,λ r=>?_,λ F b p q i d g=>?_,λ i t' g=>?_⟩;grind[Ci,Sc.b,hN];rcases j2.1 g with e|g;cases e;exact⟨rfl,u F _ p.b q⟩;refine v F b p.c (λ j s f=>?_) i d g;rcases fb.1 f with f|f;exact q j s f;exact p.b.e j s f;grind
def gV(conc:bf)(S:Sc):=∀i id,(i,some id)∈S.c->∃cv c,conc id=some (cv,c,true)
theorem gV.c{x y}(h:gV conc x)(b:gV conc y):gV conc (x.b y):=by intro i id a;rcases fb.1 a with a|a;exact h i _ a;exact b i _ a
theorem gV.b{a b}:gV conc ⟨a,[],b⟩:=λ _ _ h=>(by cases h)
theorem Ry(h:aD P w0 conc st a w){c x S}(b:(wx E c x).af st=some S):gV conc S:=by
 have k:∀{i id cv:Nat}{o:fJ},bn st.b id=some (cv,o)->(∀c l,fS P w conc (ae conc) c l o->l=true)->gV conc ⟨[],[(i,some id)],[]⟩:=by
  intro i id cv o f q j r n;grind[hM,pW]
 unfold wx at b;split at b;have⟨d,m,g⟩:=bw b;cases g;exact gV.b;have⟨d,m,g⟩:=bw b;cases g;exact gV.b;simp[bV]at b;split at b
 iterate 3
  rename_i f;have⟨_,e⟩:=dE b;cases e;exact k f λ _ _ h=>h.1
 trivial;cases b;intro i id n;trivial;simp[bV]at b;split at b;rename_i f;have⟨_,e⟩:=dE b;cases e;exact k f λ _ _ h=>h.1;trivial;cases b;exact gV.b;have⟨p,e⟩:=dE b;cases e;exact gV.b;cases b;exact gV.b;simp[bV]at b;split at b;rename_i f;have⟨_,e⟩:=dE b;cases e;exact k f λ _ _ h=>h.1;cases b;trivial
theorem Bc(h:aD P w0 conc st a w):{cs:List lj}->{xs:List aU}->{S:Sc}->(sW E cs xs).af st=some S->gV conc S| [],[],S,b=>by cases b;exact gV.b| [],_::_,S,b=>by trivial|_::_,[],S,b=>by trivial|c::cs,x::xs,S,b=>by rw[sW]at b;have⟨i,d,e⟩:=bw b;have⟨j,f,g⟩:=bw e;cases g;exact(Ry h d).c (Bc h f)
theorem ah5(h:aD P w0 conc st a w){t S}(b:(Az E t s).af st=some S):gV conc S:=by
 unfold Az at b;split at b;obtain⟨d,g,c⟩:=bw b;cases c;exact gV.b
 grind[Ry]
 grind[Bc]
 obtain⟨e,f⟩:=dE b
 grind[Bc];trivial
theorem KU(h:aD P w0 conc st a w):{l:List (Nat×ki)}->{S:Sc}->(xx E l).af st=some S->gV conc S| [],S,b=>by cases b;exact gV.b| (k,t)::l,S,b=>by simp[xx,bV]at b;split at b;have⟨g,c,d⟩:=bw b;have⟨i,e,f⟩:=bw d;cases f;exact(ah5 h c).c (KU h e);trivial
theorem agn(h:aD P w0 conc st a w){c t S}(b:(yg E c i t).af st=some S):gV conc S:=by unfold yg at b;grind[gV.b,bV,Bc]
theorem O2(h:aD P w0 conc st a w):{l:List (Nat×mS)}->{c:List (Nat×Option Nat)}->{S:Sc}->(xH E c l).af st=some S->gV conc S| [],c,S,b=>by cases b;exact gV.b| (k,t)::l,c,S,b=>by simp[xH]at b;have⟨i,d,e⟩:=bw b;have⟨j,f,g⟩:=bw e;cases g;exact(agn h d).c (O2 h f)
theorem GR(hE:al P E)(h:aD P w0 conc st a w){T:cf}{d:cR T.b}(D:ky E T st=some d):∃A,aD P w0 A (mk T d) a w/\
 ∀i v c b,A i=some (v,c,true)->dB c b->∃aG v' c',conc aG=some (v',c',true)/\dB c' b:=by
 unfold ky at D;rw[RM.sH]at D;cases Q:(Tb E T).af st with
 |none=>rw[Q]at D;cases D
 |some S=>
  rw[Q]at D;simp[gk]at D;cases I:(Jw T S&&cr st.N T.N&&ot st.c T.c)with
  |false=>rw[I]at D;cases D
  |true=>
   rw[I]at D;simp only[dr]at I;have⟨⟨I,O⟩,ab⟩:=I;have ab:=EW ab;unfold Jw at I;simp only[dr]at I;have⟨⟨aA,aB⟩,aC⟩:=I;have⟨x,Y,am⟩:=bw Q;have⟨y,Z,an⟩:=bw am;cases an;have⟨sl,ag,V⟩:=Mg hE h Y;have⟨aI,ah,ai,aj⟩:=Lj hE h Z;have av:mk T d= ⟨T.N,[],sl,aI,T.c⟩:=by
    unfold mk;rw[LD _ D];simp[Sc.b];rw[ag y.d];dsimp only;have:=ah [];rw[ih]at this;rw[this]
   rw[av]
   let F:List Nat:=aV (x.b y).f
   let A:bf:= ⟨λ i=>match bn (x.b y).c i with
    |some none=>some (0,.slice none 0 0,true)
    |some (some id)=>match conc id with
     |some (_,c,K)=>some (0,c,K)
     |none=>none
    |none=>none,conc.B,conc.b⟩
   have aJ:∀i id,(i,some id)∈(x.b y).c->id∉F:=by
    intro i id C ao;have:=ht.1 aC _ C;simp only[hQ,tc]at this;have⟨q,ay,az⟩:=ej.1 ao;exact this q ay (by simp[az])
   have aK:∀i s,(i,s)∈(x.b y).c->bn (x.b y).c i=some s:=by
    intro i s C;cases G:bn (x.b y).c i with
    |none=>exact absurd C (Map.RE G s)
    |some s'=>
     have:=ht.1 (ht.1 aA _ C) _ (Map.ll G);simp[Hz,gF,decide_true,cond_true]at this;cases s<;>cases s'<;>simp at this⊢
     exact this.symm
   have L:∀i c,A i=some (0,c,true)->c= .slice none 0 0\/∃id cv,(i,some id)∈(x.b y).c/\conc id=some (cv,c,true):=by
    intro i c z;simp[A]at z;split at z
    cases z;exact .inl rfl;rename_i id G;split at z;rename_i cv c' K H;cases z;exact .inr ⟨id,cv,Map.ll G,H⟩;cases z;cases z
   have M:∀i v c K,A i=some (v,c,K)->v=0:=by
    intro i v c K z;simp[A]at z;split at z
    cases z;rfl;split at z;cases z;rfl;cases z;cases z
   have aE:cM w (ae (bB conc F)) (ae A):=by
    intro b J _;refine⟨J.1,λ i v c z aa=>?_⟩;have:=M i v c true z;subst this;rcases L i c z with rfl| ⟨id,cv,C,H⟩
    cases aa;refine J.2 id cv c ?_ aa;simp[bB,H,aJ i id C]
   have ac:yK conc (x.b y).c A:=by
    intro i s C;have G:=aK i s C;cases s with
    |none=>simp[A,G]
    |some id=>
     have⟨cv,c,z⟩:=((KU h Y).c (O2 h Z)) i id C;exact⟨cv,c,z,by simp[A,G,z]⟩
   have R:lC w conc (x.b y) F A:= ⟨λ id B=>B,ac,aE,rfl⟩;refine⟨A,{g:=h.g,n:=by rw[h.n,cU O],m:=?_,k:=?_,q:=?_,r:=?_,t:=?_,f:=?_,e:=h.e,u:=h.u,x:=h.x,h:=h.h,l:=λ s aO=>h.l s (by grind)},λ i v c b B J=>?_⟩
   intro N s' U p hp;rw[(V F A R.b N s' (Map.ll U)).1]at hp;trivial;intro N s' U;have⟨W,ak,v,X,aM⟩:=V F A R.b N s' (Map.ll U);exact⟨v,X,by grind,absurd (by rw[W];exact cG _)⟩;intro i v o aw;have⟨W,c,ak,X⟩:=ai F A R.c (λ i s B=>ac i s (by simp only[Sc.b];exact gb _ B)) i (v,o) (Map.ll aw)
   grind
   intro i B;cases G:bn (x.b y).c i with
   |none=>grind
   |some s=>
    have:=ht.1 aB _ (Map.ll G);cases aF:bn T.e i with
    |none=>grind
    |some t=>
     have⟨aS,aP⟩:=aj i t (Map.ll aF)
     grind[absurd,Map.RE]
   intro i j aQ aR c c' b B ad J ap;have e:=M _ _ _ _ B;have af:=M _ _ _ _ ad;subst e;subst af;rcases L i c B with rfl| ⟨id,cv,C,H⟩
   trivial;rcases L j c' ad with rfl| ⟨aH,aL,aN,aq⟩;trivial;have:=h.t id aH _ _ _ _ b H aq J ap
   grind[ht,Hz,gF,decide_true,p7]
   intro i v c b B J;have e:=M _ _ _ _ B;subst e;rcases L i c B with rfl| ⟨id,cv,C,H⟩
   trivial;exact h.f _ _ c b H J;have e:=M _ _ _ _ B;subst e;rcases L i c B with rfl| ⟨id,cv,C,H⟩
   trivial
   grind
theorem Aa(hE:al P E)(h:cT P w0 st a w){T d}(c:ky E T st=some d):cT P w0 (mk T d) a w:=have⟨conc,h⟩:=h;have⟨e,b,_⟩:=GR hE h c;⟨_,b⟩
end
section
variable[Dr]
variable{a:Act}{w:World}{st:au}{n:Nat}{i:Bool}{o:Oper}{r:Option Nat}{s:Nat}{Q:Exit->Act->World->Prop}{l:Nat}{x:bQ}
inductive dN where|ou (id:Nat)|sT
def dN.c:dN->hg->Bool| .ou i,.exit j=>cr i j| .sT,.ret=>true|_,_=>false
def dN.b:dN->hg| .ou i=> .exit i| .sT=> .ret
@[reducible] def iI(R:Type):List (dN×cf)->Type
 | []=>Unit
 |x::r=>(cR x.2.b->Option R)×iI R r
def kK{R:Type}(K:hg->au->Option R):(X:List (dN×cf))->iI R X| []=>()|x::r=>(λ d=>K x.1.b (mk x.2 d),kK K r)
def pB{R:Type}(E:aq):(X:List (dN×cf))->iI R X->hg->au->Option R| [],_,_,_=>none|x::r,k,e,st=>bif x.1.c e then(ky E x.2 st).bind k.1 else pB E r k.2 e st
def cq{D a R:Type}(body:D->(D->Option R)->a->Option R):Nat->D->a->Option R|0,_,_=>none|n+1,d,k=>body d (λ d=>cq body n d k) k
def la{D α a R:Type}(body:D->α->(D->Option R)->a->Option R)(k:a)(done:D->Option R):List α->D->Option R| [],d=>done d|x::r,d=>body d x (λ d=>la body k done r d) k
def mL{R:Type}(E:aq)(T:cf)(X:List (dN×cf))(again:cR T.b->Option R)(k:iI R X):hg->au->Option R| .normal,st=>(ky E T st).bind again|e,st=>pB E X k e st
def mG{R:Type}(n:Nat)(E:aq)(T:cf)(X:List (dN×cf))(body:cR T.b->(cR T.b->Option R)->iI R X->Option R):Ev R:=λ st K=>(ky E T st).bind λ d=>cq body n d (kK K X)
structure lU(s s':bC):Prop where
 k:s'.w.os=s.w.os
 f:s'.w.tape=s.w.tape
 c:eW s.w s'.w
 e:s.w.heap.size<=s'.w.heap.size
 d:∀b,b<s.w.heap.size->¬s.M b->s'.w.heap[b]?=s.w.heap[b]?
 M:∀b,s'.M b->s.M b\/(s.w.heap.size<=b/\b<s'.w.heap.size)
 B:∀b,s'.B b↔s.B b
 m:s'.e=s.e
 p:s'.d=s.d
 q:s'.f=s.f
 g:s'.b=s.b
structure jz(s s':bC):Prop where
 j:s'.w.os=s.w.os
 g:s'.w.tape=s.w.tape
 c:eW s.w s'.w
 d:s.w.heap.size<=s'.w.heap.size
 e:∀b,b<s.w.heap.size->¬s.M b->s'.w.heap[b]?=s.w.heap[b]?
 M:∀b,s'.M b->s.M b\/s.w.heap.size<=b
 q:∀b,b<s.w.heap.size->s.B b->s'.B b
 p:∀b,b<s.d->s'.B b->s.B b
 h:s'.d=s.d
 m:s'.b=s.b
theorem jz.f{a b c}(h:jz a b)(k:jz b c):jz a c where
 j:=k.j.trans h.j
 g:=k.g.trans h.g
 c:=k.c.b h.c
 d:=et h.d k.d
 e:=λ i f o=>(k.e i (hs f h.d) λ r=>by rcases h.M i r with l|l;all_goals grind).trans (h.e i f o)
 M:=λ i f=>by rcases k.M i f with l|l;exact h.M i l;exact .inr (et h.d l)
 q:=λ i f n=>k.q i (hs f h.d) (h.q i f n)
 p:=λ i f n=>h.p i f (k.p i (by rw[h.h];omega) n)
 h:=k.h.trans h.h
 m:=k.m.trans h.m
theorem jz.k(s):jz s s:= ⟨rfl,rfl,⟨rfl,by omega⟩,b2 _,λ _ _ _=>rfl,λ _ h=> .inl h,λ _ _ h=>h,λ _ _ h=>h,rfl,rfl⟩
theorem lU.h{s s'}(h:lU s s'):jz s s':= ⟨h.k,h.f,h.c,h.e,h.d,λ b a=>(h.M b a).imp id λ g=>g.1,λ b _ a=>(h.B b).2 a,λ b _ a=>(h.B b).1 a,h.p,h.g⟩
theorem lU.t(s):lU s s:= ⟨rfl,rfl,⟨rfl,by omega⟩,b2 _,λ _ _ _=>rfl,λ _ h=> .inl h,λ _=>b0,rfl,rfl,rfl,rfl⟩
theorem lU.j{a b c}(h:lU a b)(k:lU b c):lU a c where
 k:=k.k.trans h.k
 f:=k.f.trans h.f
 c:=k.c.b h.c
 e:=et h.e k.e
 d:=λ i l o=>(k.d i (hs l h.e) λ r=>by
  rcases h.M i r with j|j;all_goals grind).trans (h.d i l o)
 M:=λ i l=>by
  rcases k.M i l with j|j;rcases h.M i j with n|n
  grind
  exact .inr ⟨n.1,hs n.2 k.e⟩;exact .inr ⟨et h.e j.1,j.2⟩
 B:=λ i=>(k.B i).trans (h.B i)
 m:=k.m.trans h.m
 p:=k.p.trans h.p
 q:=k.q.trans h.q
 g:=k.g.trans h.g
def cZ(conc:bf)(b:Nat):=∃i v c,conc i=some (v,c,true)/\dB c b
def bC.c(w0:bC)(conc:bf)(a:fu)(w:ee):bC:= ⟨w,w0.B,cZ conc,a.defers,w0.b,w0.e,w0.d⟩
variable{P:Program}{E:aq}{R:Type}
theorem aD.C{w0 conc}(h:aD P w0 conc st a w):lU w0 (w0.c conc a w) where
 k:=h.e.i
 f:=h.e.g
 c:=h.e.f
 e:=h.e.d
 d:=h.e.e
 M:=λ b⟨i,v,c,j,l⟩=>by rcases(h.f i v c b j l).1 with g|g;exact .inr ⟨g,(h.f i v c b j l).2⟩;grind
 B:=λ _=>b0
 m:=rfl
 p:=rfl
 q:=h.g
 g:=rfl
theorem aD.y{w0 conc}(h:aD P w0 conc st a w):aD P (w0.c conc a w) conc st a w:={h with
 g:=rfl
 f:=λ i v c b h1 j=> ⟨.inr ⟨i,v,c,h1,j⟩,(h.f i v c b h1 j).2⟩
 e:= ⟨rfl,rfl,⟨rfl,λ _=>b2 _⟩,b2 _,λ _ _ _=>rfl⟩
 u:=h.u
 x:=h.x
 h:={
  i:=λ b k=>h.h.i b (et h.e.d k)
  e:=λ b⟨i,v,c,h1,j⟩=>h.z h1 j
  f:=λ d o=>have⟨D,e,h1,j⟩:=h.h.f d (by rw[<-h.g];trivial);⟨D,e,(h.e.e D ((eL.1 h1).1) λ n=>j.1 (h.h.e D n)).trans h1,j⟩
  h:=by show a.defers.Nodup;rw[h.g];exact h.h.h
  g:=et h.h.g h.e.d}
 l:=h.l}
structure bT(R:Type)where
 c:List Ty
 d:ax c->Option R->Option R->Option R
def bT.b{R:Type}:bT R:= ⟨[],λ _ _ _=>none⟩
def tG{α:Type}(x:α)(A B:Option (List α)):=A.bind λ ys=>B.bind λ a=>match a with| []=>some (x::ys)|_::_=>none
def yY(st:au)(o:eg):Option (List hS×Nat):=match o.guard,o.op,o.dst with
 |none,.call {callee:= .value (.tmp t),args,.. },some d=>match bn st.a t with|some ⟨[],_,.v .ku⟩=>some (args.toList,d)|_=>none
 |_,_,_=>none
def zJ(E:aq)(H:bT R)(args:List hS)(d:Nat)(st:au)(K:au->Option R):=bif H.c.isEmpty then none else((sb [] args).aB (rl E H.c)).jT st λ x=>match cD st none (.a (some d) [] true (.v (.aE .aO true)) x.2),cD st none (.a (some d) [] true (.v (.aE .aO false)) x.2)with|some b,some c=>H.d x.1 (K b) (K c)|_,_=>none
def Eg(ops:Array eg)(st:au)(o:eg):Option (List hS×Nat×Nat×Bool×Bool):=match o.guard,o.op,o.dst with
 |some (j,want),.call {callee:= .value (.tmp t),args,.. },some d=>match(ops[j]?).bind (·.dst)with
  |some s=>match bn st.a s,bn st.a t with|some ⟨[],_,.v (.aE .aO b)⟩,some ⟨[(q,c)],_,.v .ku⟩=>bif cr q s&& (bif want then c else !c)then some (args.toList,d,s,want,b)else none|_,_=>none
  |none=>none
 |_,_,_=>none
def qe(s:Nat)(want:Bool)(p:Nat×fX):Nat×fX:=match p.2.L with| [(q,c)]=>bif cr q s&& (bif want then c else !c)then(p.1,⟨[],true,p.2.s⟩)else p|_=>p
def xK(st:au)(s:Nat)(want:Bool):au:={N:=st.N,d:=st.d,a:=(Map.jw st.a s ⟨[],true,.v (.aE .aO want)⟩).map (qe s want),b:=st.b,c:=st.c}
def GB(st:au)(s d:Nat)(want:Bool):=cD {N:=st.N,d:=st.d,a:=Map.jw st.a s ⟨[],true,.v (.aE .aO (!want))⟩,b:=st.b,c:=st.c} (some s) (.a (some d) [(s,want)] false (.v (.aE .aO false)) [])
structure Nxt where
 d:Nat
 id:Nat
 cv:Nat
 k:Ty
 v:Ty
 l:List (k.b×v.b)
def aac(st:au)(o:eg):Option Nxt:=match o.guard,o.op,o.dst with
 |none,.next (.tmp t) false,some d=>match bn st.a t with
  |some ⟨[],_,.v (.dj id ver)⟩=>match bn st.b id with|some (cv,.it k v _ l)=>bif cr cv ver then some ⟨d,id,cv,k,v,l⟩else none|_=>none
  |_=>none
 |_,_,_=>none
open Classical in
noncomputable def aag{α:Type}(l:List α)(f:α->List α->Option R)(z:Option R):=match l with| []=>z|_=>if h:∃r,∀i x,l[i]?=some x->f x (l.eraseIdx i)=some r then some h.choose else none
def agp(st:au)(u:er)(K:au->Option R):Option R:=match cD st none u with|some st=>K st|none=>none
noncomputable def alL(st:au)(q:Nxt)(K:au->Option R):=aag q.l (λ x r=>agp st ⟨some (q.d,⟨[],true,.oF [.aE .aO true,.aE q.k x.1,.aE q.v x.2]⟩),[(q.id,(q.cv,.it q.k q.v (some x) r))]⟩ K) (agp st ⟨some (q.d,⟨[],true,.oF [.aE .aO false]⟩),[]⟩ K)
theorem alY{α l}{f:α->List α->Option R}{z r}(h:aag l f z=some r):(l= []/\z=some r)\/(l≠[]/\∀i x,l[i]?=some x->f x (l.eraseIdx i)=some r):=by unfold aag at h;split at h;exact .inl ⟨rfl,h⟩;rename_i a;split at h;rename_i b;cases h;exact .inr ⟨a,b.choose_spec⟩;cases h
theorem aor{α l}{f:α->List α->Option R}{z r}(e:l= []->z=some r)(h:∀i x,l[i]?=some x->f x (l.eraseIdx i)=some r):aag l f z=some r:=by unfold aag;split;exact e rfl;rename_i c;have b:∃r,∀i x,l[i]?=some x->f x (l.eraseIdx i)=some r:= ⟨r,h⟩;rw[dif_pos b];have⟨x,d⟩:=List.exists_mem_of_ne_nil l c;have⟨i,a⟩:=r3 d;exact(b.choose_spec i x a).symm.trans (h i x a)
noncomputable def uJ(E:aq)(H:bT R)(ops:Array eg):List eg->au->(au->Option R)->Option R| [],st,K=>K st|o::r,st,K=>match yY st o with|some p=>zJ E H p.1 p.2 st λ st=>uJ E H ops r st K|none=>match Eg ops st o with
   |some q=>bif (bif q.2.2.2.1 then q.2.2.2.2 else !q.2.2.2.2)then zJ E H q.1 q.2.1 (xK st q.2.2.1 q.2.2.2.1) λ st=>uJ E H ops r st K else match GB st q.2.2.1 q.2.1 q.2.2.2.1 with|some st=>uJ E H ops r st K|none=>none
   |none=>match aac st o with|some q=>alL st q λ st=>uJ E H ops r st K|none=>Ge E ops o st λ st=>uJ E H ops r st K
noncomputable def NY(E:aq)(H:bT R)(ops:Array eg)(a:Bool)(st:au)(K:au->Option R):Option R:=bif a then(bif yq 0 ops.toList then(match tA E E.N st with|some st=>Bd E ops (qo ops.toList []) ops.toList [] st λ st=>K (jO st)|none=>none)else none)else uJ E H ops ops.toList st λ st=>K (jO st)
def gP:ef->Nat| .seq a b=>gP a+gP b| .cond _ a b=>gP a+gP b| .block _ c| .scope c=>gP c| .loop _=>1| .rangeFunc .. =>1|_=>0
noncomputable def dv(E:aq)(H:bT R):ef->List (Ev R)->Ev R
 | .skip,_=>λ st K=>K .normal st| .region _ ops d,_=>λ st K=>NY E H ops d st (K .normal)| .seq a b,O=>λ st K=>dv E H a (O.take (gP a)) st λ| .normal,st=>dv E H b (O.drop (gP a)) st K|e,st=>K e st
 | .cond c a b,O=>λ st K=>Oq c st (dv E H a (O.take (gP a)) st K) (dv E H b (O.drop (gP a)) st K)| .block id c,O=>λ st K=>dv E H c O st λ| .exit i,st=>bif cr i id then K .normal st else K (.exit i) st|e,st=>K e st
 | .loop _,O=>match O with| [f]=>f|_=>λ _ _=>none
 | .rangeFunc ..,O=>match O with| [f]=>f|_=>λ _ _=>none
 | .scope c,O=>λ st K=>dv E H c O st λ| .goto _,_=>none|e,st=>K e st
 | .label _,_=>λ st K=>K .normal st| .exit i,_=>λ st K=>K (.exit i) st| .ret,_=>λ st K=>K .ret st|_,_=>λ _ _=>none
def bC.g(s:bC)(w':ee):={s with w:=w',B:=λ b=>(b<s.w.heap.size/\s.B b)\/w'.heap.size<=b}
structure oB(P:eb){R:Type}(H:bT R)(i:Bool)(h:bC->R->Prop):Prop where
 d:∀s s' a,h s a->lU s s'->h s' a
 c:H.c≠[]->∀s a,h s a->s.f= []
 g:i=false->H.c= []->∃m l,∀s b,h s b↔(b=l/\jz m s)
 f:H.c≠[]->∀s a x A B k,h s a->sQ s->H.d x A B=some a->fe P s.w (λ b=>s.B b/\¬s.M b) H.c k x->
  YieldAt j1 5 P s.e k.toArray s.w λ e w'=>Le s.B s.w w'/\∃b,e= .returned (.bool b)/\∃j,(bif b then A else B)=some j/\h (s.g w') j
def eS(P:eb){R:Type}(H:bT R)(i:Bool)(c:ef)(f:Ev R):=∀r,r.isSome=i->∀b,oB P H i b->∀K d st a w w0,f st K=some d->cT P w0 st a w->b w0 d->c.wpIn (Fr r) 7 P (λ e a' w'=>∃h g st',cT P h st' a' w'/\b h g/\K e st'=some g) a w
def nN(P:eb){R:Type}(H:bT R)(i:Bool):ef->List (Ev R)->Prop| .seq a b,O=>nN P H i a (O.take (gP a))/\nN P H i b (O.drop (gP a))| .cond _ a b,O=>nN P H i a (O.take (gP a))/\nN P H i b (O.drop (gP a))| .block _ c,O| .scope c,O=>nN P H i c O| .loop c,O=>∀f,O= [f]->eS P H i (.loop c) f| .rangeFunc g ps x y,O=>∀f,O= [f]->eS P H i (.rangeFunc g ps x y) f|_,_=>True
theorem yy{w0 a w}(hE:al P E):(l:List Nat)->{st st':au}->cT P w0 st a w->tA E l st=some st'->cT P w0 st' a w| [],st,st',h,b=>by cases b;exact h|n::r,st,st',h,b=>by unfold tA at b;cases f:hJ 1000000 n with|false=>rw[f]at b;exact yy hE r h b|true=>
   rw[f]at b;split at b;rename_i g id ver j;split at b;rename_i cv u cells o;have⟨conc,e⟩:=h;cases c:(qu E u (.dx id ver 0)).af st with|none=>rw[c]at b;cases b|some d=>rw[c]at b;have⟨v,p,m⟩:=e.k _ _ j;have i:=(AQ hE e c ((m.b (cG _)).2) (aV d.2) λ _ h=>h).1;exact yy hE r ⟨_,e.A i⟩ b
   exact yy hE r h b;exact yy hE r h b
theorem aaJ{w0 conc}(hE:al P E)(h:aD P w0 conc st a w){c t}(i:((c9 [] c).aB pL).af st=some t):a.eval c= .bool t:=by
 have⟨x,g,b⟩:=bw i;cases x<;>simp[pL]at b<;>try(cases b;done)
 rename_i u d;cases u<;>simp[pL]at b<;>try(cases b;done)
 cases b;have⟨vs,e,f⟩:=dQ h (cG _) g;exact tM e f
theorem QM(hE:al P E){w0 K}{c:R}{e st a w}(g:cT P w0 st a w):(X:List (dN×cf))->pB E X (kK K X) e st=some c->∃st',cT P w0 st' a w/\K e st'=some c| [],h=>by cases h|x::r,h=>by simp[pB,kK]at h;cases b:x.1.c e with
  |true=>rw[b]at h;cases f:ky E x.2 st with|none=>rw[f]at h;cases h|some d=>
   rw[f]at h;have j:x.1.b=e:=by cases i:x.1<;>cases e<;>simp[i,dN.c]at b<;>simp[dN.b,b]
   grind[Aa]|false=>rw[b]at h;exact QM hE g r h
theorem ab5{n H i}(hE:al P E){c O T X}{body:cR T.b->(cR T.b->Option R)->iI R X->Option R}(s:eS P H i c (dv E H c O))(q:∀d again k,dv E H c O (mk T d) (mL E T X again k)=body d again k):eS P H i (.loop c) (mG n E T X body):=by intro r x j p K l st a w w0 h g t;unfold mG at h;cases b:ky E T st with|none=>rw[b]at h;cases h|some d=>
 rw[b]at h;simp[gk]at h;have g:=Aa hE g b;clear b;refine wpIn_loop_rounds n ?_
 induction n generalizing d a w st w0 l with|zero=>cases h|succ n A=>rw[cq,<-q]at h;refine hy (s r x j p _ _ _ _ _ _ h g t) ?_;rintro e a' w'⟨w1,y,st',v,u,f⟩;cases e with
  |normal=>show Code.roundsIn (Fr r) 7 P c _ n a' w';simp[mL]at f;cases b:ky E T st' with|none=>rw[b]at f;cases f|some z=>grind[Aa]
  |_=>have⟨st2,m,o⟩:=QM hE v X f;exact⟨_,_,_,m,u,o⟩
theorem adu{f args tys}(c:o.op= .call {callee:= .value f,args:=args,argTypes:=tys})(b:a.eval f= .func (.yield l) #[] #[]):ea a.eval o=vR l (args.map a.eval):=by grind[ea,resolve,o0,invoke]
theorem UX{m f a assign body Q}(h:RoundIn j1 n P l f a assign body w Q):RoundIn (Fr r) m P l f a assign body w Q:= ⟨trivial,λ c cs _=>h.2 c _ (room_wide _)⟩
theorem Lm(hE:al P E){H r i L}(hI:oB P H i L){o:eg}{st a w w0}{t d:Nat}{g args tys K}{Y:R}{n} (ai:o.op= .call {callee:= .value (.tmp t),args:=args,argTypes:=tys}) (aB:o.dst=some d) (aL:bn st.a t=some ⟨[],g,.v .ku⟩) (h:zJ E H args.toList d st K=some Y) (y:cT P w0 st a w) (aF:L w0 Y) {next} {Q} (ah:∀a' w' st' ao C,cT P ao st' a' w'->L ao C->K st'=some C->next a' w'):o.wpIn (Fr r) n P a w next Q:=by
 have⟨conc,y⟩:=y;have⟨v,aN,aP⟩:=y.k t _ aL;have aM:v= .func (.yield conc.b) #[] #[]:=(aP.b (cG _)).2;have aC:a.eval (.tmp t)= .func (.yield conc.b) #[] #[]:=by simp[ko,aN,aM]
 unfold zJ at h;cases s:H.c.isEmpty with
 |true=>rw[s]at h;cases h|false=>
 rw[s]at h;have s:H.c≠[]:=λ e=>by rw[e]at s;cases s
 rw[RM.sH]at h;cases V:((sb [] args.toList).aB (rl E H.c)).af st with|none=>rw[V]at h;cases h|some x=>rw[V]at h;simp[gk]at h;cases F:cD st none (.a (some d) [] true (.v (.aE .aO true)) x.2)with|none=>simp only[F]at h;cases h|some am=>cases N:cD st none (.a (some d) [] true (.v (.aE .aO false)) x.2)with|none=>simp only[F,N]at h;cases h|some an=>
    simp[F,N]at h;have⟨l,av,aw⟩:=bw V;have⟨ar,Z⟩:=(DF hE y H.c aw (yZ y (cG _) av)) (aV x.2) λ _ h=>h;obtain⟨conc1,rfl,m1,m2,aX⟩:=wG y ar;have p:=m1.y;have U:=hI.d _ _ _ aF m1.C;have az:(bB conc (aV x.2)).B=w0.B:=m1.u;have ax:fe P w (λ b=>(w0.c (bB conc (aV x.2)) a w).B b/\¬(w0.c (bB conc (aV x.2)) a w).M b) H.c (args.toList.map a.eval) x.1:=by
     have aH:∀b,ae (bB conc (aV x.2)) b↔(w0.B b/\¬cZ (bB conc (aV x.2)) b):=by
      intro b;unfold ae cZ;rw[az];refine and_congr b0 ⟨λ T⟨i,v,c,k1,j⟩=>T i v c k1 j,λ T i v c k1 j=>T ⟨i,v,c,k1,j⟩⟩
     have:ae (bB conc (aV x.2))=λ b=>w0.B b/\¬cZ (bB conc (aV x.2)) b:=funext λ b=>propext (aH b);rw[this]at Z;exact Z
    have⟨fn,aU,assign,body,X,ap⟩:=hI.f s _ _ _ _ _ _ U p.h h ax;have aQ:(w0.c (bB conc (aV x.2)) a w).e=conc.b:=by show w0.e=conc.b;rw[<-y.x]
    rw[aQ]at X ap;have aA:∀c,o.op≠ .defer c:=by intro c I;rw[ai]at I;cases I
    refine⟨λ _ _=>trivial,?_⟩;rw[Oper.semAt_eq _ _ _ aA,adu ai aC];have ay:(args.toList.map a.eval).toArray=args.map a.eval:=by grind
    rw[ay]at X;have aJ:(vR conc.b (args.map a.eval)).run P w= .ok (.round conc.b fn aU assign body) w:=X;rw[aJ,Oper.uponIn_round];refine⟨λ e=>by trivial,(UX ap).mono ?_⟩;rintro e w'⟨J,b,rfl,C,aa,ac⟩;rw[aB];have ad:∀b,b<w.heap.size->w0.B b->w'.heap[b]?=w.heap[b]?:=J.e;let A:bf:= ⟨(bB conc (aV x.2)).m,λ b=>(b<w.heap.size/\w0.B b)\/w'.heap.size<=b,(bB conc (aV x.2)).b⟩;have ag:fU (bB conc (aV x.2)) A:= ⟨rfl,λ id cv c W I=> ⟨cv,c,W,I,.inr ⟨rfl,rfl⟩⟩⟩;have aI:∀b,ae (bB conc (aV x.2)) b->b<w.heap.size->ae A b:=λ b B D=> ⟨.inl ⟨D,by have:=B.1;grind⟩,B.2⟩;have ak:fN (ae (bB conc (aV x.2))) w w':= ⟨J.d,λ b B D=>ad b D (by have:=B.1;grind)⟩;have aj:cM w (ae (bB conc (aV x.2))) (ae A):=λ b B D=>aI b B D;have aS:aD P ((w0.c (bB conc (aV x.2)) a w).g w') A {st with b:=eX st.b x.2} a w':={
     g:=rfl
     n:=p.n
     m:=p.m
     k:=λ M sl O=>by
      have⟨u,k1,j⟩:=p.k M sl O;exact⟨u,k1,λ af=> ⟨(j.b af).1,(j.b af).2.b ak aj ag⟩,j.d⟩
     q:=λ id ver aT aG=>by
      have⟨c,W,k1,j⟩:=p.q id ver aT aG;refine⟨c,W,k1,j.b ak aj ag λ aq z G=>?_⟩;subst aq;exact ad _ (p.f id ver c z k1 G).2 (m1.z k1 G)
     r:=p.r
     t:=p.t
     f:=λ i v c z k1 j=> ⟨.inr ⟨i,v,c,k1,j⟩,hs (p.f i v c z k1 j).2 J.d⟩
     e:= ⟨rfl,rfl,⟨rfl,λ _=>b2 _⟩,b2 _,λ _ _ _=>rfl⟩
     u:=rfl
     x:=m1.x
     h:={
      i:=λ z G=> .inr G
      e:=λ z⟨i,v,c,k1,j⟩=> .inl ⟨(p.f i v c z k1 j).2,m1.z k1 j⟩
      f:=λ M O=>by
       have S:(w0.c (bB conc (aV x.2)) a w).f= []:=hI.c s _ _ U;have ab:M∈(w0.c (bB conc (aV x.2)) a w).f:=O;rw[S]at ab;cases ab
      h:=by
       show(w0.c (bB conc (aV x.2)) a w).f.Nodup;rw[hI.c s _ _ U];exact jA
      g:=et p.h.g J.d}
     l:=m1.l};have fin:∀c s',cD st none (.a (some d) [] true (.v (.aE .aO c)) x.2)=some s'->cT P ((w0.c (bB conc (aV x.2)) a w).g w') s' (a.put (some d) (.bool c)) w':=λ c s' aK=>
     nM (W0:=x.2) (conc1:=A) aS aK (lR (conc:=A) c);cases b with|true=>exact ah _ _ am _ C (fin true am F) ac (by simpa using aa)|false=>exact ah _ _ an _ C (fin false an N) ac (by simpa using aa)
theorem ZD(hE:al P E){H b}(hI:oB P H i b){w0 p K}{c:R}(k:yY st o=some p)(h:zJ E H p.1 p.2 st K=some c)(g:cT P w0 st a w)(f:b w0 c){next}(j:∀a' w' st' e d,cT P e st' a' w'->b e d->K st'=some d->next a' w'):o.wpIn (Fr r) n P a w next Q:=by grind[yY,Lm]
theorem abu{ops l d want b}(h:Eg ops st o=some (l,d,s,want,b)):∃j t args tys g a,o.guard=some (j,want)/\o.op= .call {callee:= .value (.tmp t),args:=args,argTypes:=tys}/\o.dst=some d/\l=args.toList/\(ops[j]?).bind (·.dst)=some s/\bn st.a s=some ⟨[],g,.v (.aE .aO b)⟩/\bn st.a t=some ⟨[(s,want)],a,.v .ku⟩:=by grind[Eg,cr,cU]
theorem ad1(s)(want)(p):(qe s want p).1=p.1:=by grind[qe,cr]
theorem CX(s)(want):∀l k,bn (l.map (qe s want)) k=(bn l k).map λ sl=>(qe s want (k,sl)).2| [],_=>rfl| (k',v)::r,k=>by simp[hG];have a:=ad1 s want (k',v);obtain⟨b,v2,hp⟩:∃b v2,qe s want (k',v)=(b,v2):= ⟨_,_,rfl⟩;rw[hp]at a⊢;subst a;simp[bn];cases c:cr _ k with|true=>simp_all|false=>exact CX s _ r k
theorem LW{want k sl}:(qe s want (k,sl)).2=sl\/(sl.L= [(s,want)]/\(qe s want (k,sl)).2= ⟨[],true,sl.s⟩):=by grind[qe,cr,cU]
theorem R9{w0 conc}(f:aD P w0 conc st a w){c g}(i:bn st.a s=some ⟨[],g,x⟩)(hc:a.tmps[s]?=some (.bool c)):aD P w0 conc {N:=st.N,d:=st.d,a:=Map.jw st.a s ⟨[],true,.v (.aE .aO c)⟩,b:=st.b,c:=st.c} a w:={f with
 m:=λ k sl e=>by simp[Map.lq]at e;split at e;grind;exact f.m k _ e
 k:=λ k sl e=>by simp[Map.lq]at e;split at e;rename_i h;subst h;cases e;exact⟨_,hc,λ _=> ⟨rfl,lR (conc:=conc) c⟩,absurd (cG _)⟩;exact f.k k _ e}
theorem Yh{w0 conc}(n:aD P w0 conc st a w){c g}(o:bn st.a s=some ⟨[],g,x⟩)(j:a.tmps[s]?=some (.bool c)):aD P w0 conc (xK st s c) a w:=have h:=R9 n o j;{h with
 m:=λ k sl b=>by
  simp[xK,CX,mr]at b;obtain⟨d,h0,rfl⟩:=b;rcases LW (s:=s) (want:=c) (k:=k) (sl:=d)with e| ⟨_,e⟩
  rw[e];exact h.m k _ h0;grind
 k:=λ k sl b=>by
  simp[xK,CX,mr]at b;obtain⟨d,h0,rfl⟩:=b;have⟨v,g1,i⟩:=h.k k d h0;refine⟨v,g1,?_⟩;rcases LW (s:=s) (want:=c) (k:=k) (sl:=d)with e| ⟨f,e⟩
  grind
  rw[e];have l:eO a.tmps d.L:=by
   rw[f];intro p hp
   grind
  exact⟨λ _=> ⟨rfl,(i.b l).2⟩,absurd (cG _)⟩}
theorem amQ{l:List Go.MapEntry}{i e}(f:(l.map (·.born)).Nodup)(b:l[i]?=some e):l.filter (λ x=>!(x.born==e.born))=l.eraseIdx i:=by induction l generalizing i with|nil=>rfl|cons x r j=>have⟨a,d⟩:=k7.1 f;cases i with
  |zero=>
   cases b;rw[u0];simp only[beq_self_eq_true,p7,hY,if_false,List.eraseIdx_cons_zero];exact List.filter_eq_self.2 λ y h=>by have:y.born≠e.born:=λ q=>a (ej.2 ⟨y,h,q⟩);simpa using this|succ i=>have c:r[i]?=some e:=b;rw[u0,if_pos (by simpa using (λ q=>a (ej.2 ⟨e,List.mem_of_getElem? c,q.symm⟩))),j d c];rfl
theorem amz(es)(a)(b):(fR es (a.push b)).toList=(fR es a).toList.filter (λ x=>!(x.born==b)):=by unfold fR;rw[o1,o1,List.filter_filter];congr 1;funext x;rw[Array.contains_push];cases a.contains x.born<;>cases(x.born==b)<;>rfl
theorem alz{es c}(h:x4 es c)(a):((fR es a).toList.map (·.born)).Nodup:=by unfold fR;rw[o1];exact(List.filter_sublist.map _).nodup h.1
theorem ani{st a w w0 o q K}{ab:R}(z:aac st o=some q)(h:alL st q K=some ab)(C:cT P w0 st a w):o.guard=none/\∀next Q,(∀a' w' st',cT P w0 st' a' w'->K st'=some ab->next a' w')->o.wp P a w next Q:=by
 unfold aac at z;split at z
 ·rename_i t d aF al ag;split at z
  ·rename_i g id ver Z;split at z;rename_i cv k v y l aI;have N:=z;clear z;cases G:cr cv ver with|false=>rw[G]at N;cases N|true=>
    rw[G,cond_true]at N;have:=cU G;subst this;cases N;refine⟨aF,λ next Q ak=>?_⟩;have⟨conc,C⟩:=C;have⟨x,aN,aP⟩:=C.k t _ Z;have J:a.eval (.tmp t)=x:=by simp[ko,aN]
    have⟨c,aR,k1,aQ,ad⟩:=sR C aI ((aP.b (cG _)).2);obtain⟨rfl,r,m,es,clock,A,p,ac,T,aa,aT,F,U,aU,an,aV,ao,a6⟩:=aQ
    have J:a.eval (.tmp t)= .pointer (some ⟨r,0,none⟩):=by rw[J,<-T];first|exact ad|exact ad.symm
    rcases run_next_at (P:=P) w o.type r m A ac p es clock aa F U.2 aU with⟨h0,Y⟩|⟨e,ah,w1,I,Y⟩
    have aG:l= []:=List.eq_nil_of_length_eq_zero (by omega);rcases alY h with⟨_,n⟩|⟨n,_⟩;unfold agp at n;split at n;rename_i V W;refine cz.b (w':=w) (v:= .tuple #[.bool false]) (by simp only[ea,al,J];rw[dk,Y];rfl) ?_ next Q λ a' w' X=>ak a' w' V X n
    rw[ag];exact nM (W0:= []) C W ⟨_,rfl,⟨_,rfl,rfl⟩,trivial⟩;cases n;exact absurd aG n;have⟨i,L⟩:=r3 ah;have ai:i<l.length:=by
     have:=(eQ.1 L).1;rw[hB]at this;omega
    have aj:l[i]?=some l[i]:=lB ai;rcases alY h with⟨n,_⟩|⟨_,n⟩;exact absurd ai (by rw[show l= [] from n];simp)
    replace n:=n i _ aj;unfold agp at n;split at n
    rename_i V W;refine cz.b (v:= .tuple #[.bool true,e.key,e.val]) (w':=hz w1 r (.mapIter (some m) A (p.push e.born) clock)) (by simp only[ea,al,J];rw[dk,Y];rfl) ?_ next Q λ a' w' X=>ak a' w' V X n
    have aB:(fR es p)[i]?=some e:=by simpa using L
    have⟨⟨ks,ap,aq⟩,us,ar,av⟩:=ao i _ e aj aB;have B:r<w.heap.size:=(eL.1 aa).1;have O:w1.heap=w.heap:=by rcases I with rfl|rfl<;>rfl
    have aH:m≠r:=λ q=>by rw[q,aa]at F;cases F
    have am:∀b,b≠r->(hz w1 r (.mapIter (some m) A (p.push e.born) clock)).heap[b]?=w.heap[b]?:=λ b u=>by simp[hz,O,Ne.symm u]
    have aK:(hz w1 r (.mapIter (some m) A (p.push e.born) clock)).heap[r]?=some (.mapIter (some m) A (p.push e.born) clock):=by simp[hz,O,B]
    have aC:e∈es.toList:=by
     have:e∈fR es p:=by simpa using ah
     unfold fR at this;simp at this;simpa using this.1
    have aA:∀b,dB c b->b=r:=λ b u=>by rw[T]at u;exact(by first|exact u|exact u.symm|(cases u;rfl))
    have aJ:eW w (hz w1 r (.mapIter (some m) A (p.push e.born) clock)):=by
     obtain rfl|rfl:=I;exact⟨rfl,λ _=>b2 _⟩;exact⟨rfl,(eW.f w).e⟩
    have⟨ay,a0,a8,a9,aw,ax⟩:=C.I (id:=id) (ver:=cv) (c:=c) (o:= .it k v (some l[i]) (l.eraseIdx i)) (w':=hz w1 r (.mapIter (some m) A (p.push e.born) clock)) (λ a2 ac aR af=>by rw[k1]at af;cases af;exact .inr ⟨rfl,rfl⟩)
     (by rcases I with rfl|rfl<;>rfl) (by rcases I with rfl|rfl<;>rfl) aJ (by simp[hz,O])
     (λ b u az=>am b λ q=>az cv c k1 (by rw[T,q];rfl)) (λ b u=> ⟨.inr ⟨cv,c,k1,u⟩,by rw[aA b u];simp[hz,O];exact B⟩)
     (λ a1 G a3 H D a4=>by
      refine⟨rfl,r,m,es,clock,A,p.push e.born,clock,T,aK,D m aT (eL.1 F).1,(am m aH).trans F,U,an,an,?_,λ j x f M aD=>?_,λ x aM=>?_⟩;rw[<-hB,amz,amQ (alz U p) L,r4,r4,hB,aV];have E:(fR es (p.push e.born)).toList[j]?=some f:=by simpa using aD
      rw[amz,amQ (alz U p) L,re]at E;rw[re]at M;have key:∃S:Nat,l[S]?=some x/\(fR es p)[S]?=some f:=by
       split at M;rename_i B;rw[if_pos B]at E;exact⟨j,M,by simpa using E⟩;rename_i B;rw[if_neg B]at E;exact⟨j+1,M,by simpa using E⟩
      have⟨S,aS,p2⟩:=key;have⟨⟨a5,aW,aX⟩,a7,aY,aZ⟩:=ao S x f aS p2;exact⟨⟨_,aW,aX.b k H D⟩,_,aY,aZ.b v H D⟩;cases aM;exact⟨rfl,e,aC,p,rfl,⟨_,ap,aq.b k H D⟩,_,ar,av.b v H D⟩)
    have Z:=nM (st:=st) (W0:= [(id,(cv,.it k v (some l[i]) (l.eraseIdx i)))]) (d:=some d) (s:= .oF [.aE .aO true,.aE k l[i].1,.aE v l[i].2]) (st':=V) (v:= .tuple #[.bool true,e.key,e.val]) (conc1:=ay) (a:=a) (w0:=w0) (P:=P) a0 W ⟨[.bool true,e.key,e.val],rfl,⟨_,rfl,rfl⟩,⟨_,ap,aq.b k aw ax⟩,⟨_,ar,av.b v aw ax⟩,trivial⟩;rw[ag];exact Z;cases n
   ·cases z
  ·cases z
 ·cases z
theorem am2{st o q}(h:aac st o=some q):∀c,o.op≠ .defer c:=by intro c a;unfold aac at h;rw[a]at h;split at h;rename_i e _;cases e;cases h
theorem wU(hE:al P E){H r i I}(hI:oB P H i I){ops K n Q}:∀x l,x.map (λ i=>ops[i]?)=l.map some->∀{st:au}{a:fu}{w:ee}{w0:bC}{B:R},uJ E H ops l st K=some B->cT P w0 st a w->I w0 B->(∀a' w' st' G C,cT P G st' a' w'->I G C->K st'=some C->Q .normal a' w')->y9 (Fr r) n P ops Q x a w
 | [],l,z,st,a,w,w0,B,h,c,f,k=>by
  have:l= []:=by simp_all
  subst this;exact k a w _ _ _ c f h|i::x,l,z,st,a,w,w0,B,h,c,f,k=>by cases l with|nil=>trivial|cons o l=>simp[hG,List.cons.injEq]at z;have⟨aa,y⟩:=z;simp[uJ]at h;simp[y9,aa];cases T:yY st o with
   |some p=>
    rw[T]at h;have e:eH o (eV ops a.tmps)=true:=by
     grind[yY,eH]
    simp[e,if_true];exact ZD hE hI T h c f λ a' w' st' G C u N m=>wU hE hI _ l y m u N k|none=>rw[T]at h;cases J:Eg ops st o with
    |some q=>
     have⟨l',d,s,want,b⟩:=q;rw[J]at h;dsimp only at h;obtain⟨j,t,args,tys,g,ai,V,ac,U,rfl,A,O,aj⟩:=abu J;have⟨conc,c⟩:=c;have⟨v,S,ae⟩:=c.k s _ O;have⟨us,Y,Z⟩:=(ae.b (cG _)).2;have af:=tM Y Z;subst af;have e:eH o (eV ops a.tmps)=(some b==some want):=by
      grind[eH,eV]
     cases L:(bif want then b else !b)with
     |true=>
      have M:b=want:=by grind
      subst M;simp[cond_true]at h;rw[e];simp[BEq.rfl,if_true];have ad:bn (xK st s b).a t=some ⟨[],true,.v .ku⟩:=by
       grind[xK,CX,Map.lq,qe,gF]
      exact Lm hE hI ac U ad h ⟨_,Yh c O S⟩ f λ a' w' st' G C u N m=>wU hE hI _ l y m u N k
     |false=>
      rw[L]at h;have M:b=!want:=by cases want<;>cases b<;>first|rfl|cases L
      subst M;have ag:eH o (eV ops a.tmps)=false:=by rw[e];cases want<;>rfl
      rw[ag];cases F:GB st s d want with
      |none=>rw[F]at h;cases h
      |some X=>
       rw[F]at h;have m:=R9 c O S;have ab:cT P w0 X (a.put o.dst gE) w:=by
        rw[U];refine uO (W0:= []) m (cm.h w) rfl F (λ p hp=>?_) ⟨λ z=>?_,λ _=>rfl⟩
        simp[hM]at hp;subst hp;exact .inl rfl;have:=z (s,want) hD;rw[S]at this;cases want<;>cases this
       exact⟨λ _ _=>trivial,wU hE hI x l y h ab f k⟩
    |none=>
    rw[J]at h;cases D:aac st o with
    |some q=>
     rw[D]at h;have⟨V,ah⟩:=ani D h c;have e:eH o (eV ops a.tmps)=true:=by simp[eH,V]
     rw[e];exact H7 (am2 D) (ah _ Q λ a' w' st' u m=>wU hE hI x l y m u f k)
    |none=>
    rw[D]at h;dsimp only at h;rw[aey]at h;cases A:tS E ops o st with
    |none=>rw[A]at h;cases h
    |some X=>
     rw[A]at h;simp[gk]at h;have W:=aeQ hE c A;cases e:eH o (eV ops a.tmps)with
     |true=>
      simp[if_true];exact H7 (Xc A) (W.1 e _ Q λ a' w' u=>wU hE hI x l y h u f k)
     |false=>
      simp[hY,if_false];exact⟨λ _ _=>trivial,wU hE hI x l y h (W.2 e) f k⟩
theorem TV{P}{b:Frame}{a k cs w c}:step P (lone (b.atR a (.code (.scope c)::k)) cs w)= .next (lone (b.atR a (.code c:: .inScope c::k)) cs w):=step_lone_go (by simp[stepG,x2,ym])
theorem anG{P}{b:Frame}{a k cs w c}:step P (lone (b.atR a (.inScope c::k)) cs w)= .next (lone (b.atR a k) cs w):=step_lone_go (by simp[stepG,x2,ym])
theorem aoN{F n P Q a w c}(h:c.wpIn F n P (λ e a w=>match e with|.goto _=>False|e=>Q e a w) a w):(Code.scope c).wpIn F n P Q a w:=by intro b k cs t i m;have h0:(lone (b.atR a (.code (.scope c)::k)) cs w).fenced P F:=fenced_calm i m rfl;have⟨e,g,w₁,f,d⟩:=h b (.inScope c::k) cs t i m;cases e with
 |normal=>exact⟨.normal,g,w₁,f,.head h0 TV (StepsIn.trans d (.one (fenced_calm i m rfl) anG))⟩|exit o=>
  have p:exitTo o (.inScope c::k)=exitTo o k:=by simp[exitTo]
  exact⟨.exit o,g,w₁,f,λ k' j=> .head h0 TV (d.1 k' (by rw[p];exact j)),λ s j=>let⟨u,q,r⟩:=d.2 s (by rw[p];exact j); ⟨u,q,.head h0 TV r⟩⟩|goto l=>exact f.elim|ret=>exact⟨_,g,w₁,f,.of_steps (.one h0 TV) d⟩|panic v=>exact⟨_,g,w₁,f,.of_steps (.one h0 TV) d⟩|outgrown=>exact⟨_,g,w₁,f,.of_steps (.one h0 TV) d⟩
theorem ji(hE:al P E)(A:P.follows .mixedOrders=true){H i}:(c:ef)->(O:List (Ev R))->nN P H i c O->eS P H i c (dv E H c O)
 | .skip,O,_=>λ r _ m j K n st a w w0 h b d=>wpIn_skip ⟨w0,n,st,b,d,h⟩| .ret,O,_=>λ r _ m j K n st a w w0 h b d=>wpIn_ret ⟨w0,n,st,b,d,h⟩| .exit i,O,_=>λ r _ m j K n st a w w0 h b d=>wpIn_exit ⟨w0,n,st,b,d,h⟩| .seq x y,O,q=>λ r p m j K n st a w w0 h b d=>by simp[dv]at h;refine Go.wpIn_seq (hy (ji hE A x _ q.1 r p m j _ _ _ _ _ _ h b d) ?_);rintro e a' w'⟨w1,z,st',u,v,s⟩;cases e with
  |normal=>exact ji hE A y _ q.2 r p m j _ _ _ _ _ _ s u v|_=>exact⟨w1,z,st',u,v,s⟩
 | .cond c x y,O,q=>λ r p m j K n st a w w0 h b d=>by simp[dv,Oq,RM.sH]at h;cases J:((c9 [] c).aB pL).af st with
  |none=>rw[J]at h;cases h|some t=>rw[J]at h;have⟨conc,C⟩:=b;refine wpIn_cond (aaJ hE C J) ?_;cases t with|true=>exact ji hE A x _ q.1 r p m j _ _ _ _ _ _ h ⟨conc,C⟩ d|false=>exact ji hE A y _ q.2 r p m j _ _ _ _ _ _ h ⟨conc,C⟩ d
 | .block id c,O,q=>λ r p m j K n st a w w0 h b d=>by simp[dv]at h;refine wpIn_block (hy (ji hE A c _ q r p m j _ _ _ _ _ _ h b d) ?_);rintro e a' w'⟨w1,z,st',u,v,s⟩;cases e with
  |exit i=>simp[gF]at s;by_cases D:i=id;simp[D,decide_true,cond_true]at s;simp[vj,D,if_true];exact⟨w1,z,st',u,v,s⟩;simp[D,decide_false,cond_false]at s;simp[vj,D,if_false];exact⟨w1,z,st',u,v,s⟩|_=>exact⟨w1,z,st',u,v,s⟩
 | .loop c,O,q=>λ r p m j K n st a w w0 h b d=>by cases O with|nil=>cases h|cons f O=>cases O with|nil=>exact q f rfl r p m j K n st a w w0 h b d|cons _ _=>cases h
 | .rangeFunc g ps x y,O,q=>λ r p m j K n st a w w0 h b d=>by cases O with|nil=>cases h|cons f O=>cases O with|nil=>exact q f rfl r p m j K n st a w w0 h b d|cons _ _=>cases h
 | .region id ops N,O,_=>λ r p m j K n st a w w0 h b d=>by simp[dv,NY]at h;cases N with|false=>simp[cond_false]at h;exact wpIn_region (wU hE j _ _ (ahz ops) h b d λ a' w' st' W z u v I=> ⟨W,z,_,LM u,v,I⟩)|true=>simp[cond_true]at h;cases G:yq 0 ops.toList with|false=>rw[G]at h;cases h|true=>
    rw[G]at h;split at h
    rotate_left;cases h;rename_i M L;have b:=yy hE _ b L;clear L;have⟨T,st2,Z,Q,S,aa⟩:=Ln ops.toList [] M (λ k o I=>by simpa using I) h;have⟨ad,X,Y⟩:=Sl ops.toList [];have V:cT P w0 M a {w with drawn:=w.drawn+1}:=have⟨conc,C⟩:=b;⟨_,C.D (cm.k w)⟩
    let F:Nat->FP:=λ i=>T.getD i ⟨[],[]⟩;have ac:=S F (λ k g ab=>by grind);refine wpIn_region_any A ?_;refine T9 hE (F:=F) (B:=λ i=>(qo ops.toList []).getD i 0) (st2:=st2) ?_ ?_ ?_ (λ a' w' u=> ⟨_,_,_,LM u,d,Q⟩) _ _ (List.range ops.size) (by simp) (List.pairwise_lt_range) (by simp) ?_ ?_ V ?_;grind;intro i o q;have:=SJ ops.toList 0 G i o (by grind);grind;grind;all_goals simp_all[Array.getD,absurd,r5]
 | .scope c,O,q=>λ r p m j K n st a w w0 h b d=>by simp[dv]at h;refine aoN (hy (ji hE A c _ q r p m j _ _ _ _ _ _ h b d) ?_);rintro e a' w'⟨w1,z,st',u,v,s⟩;cases e with|goto l=>cases s|_=>exact⟨w1,z,st',u,v,s⟩
 | .label _,O,_=>λ r _ m j K n st a w w0 h b d=>wpIn_label ⟨w0,n,st,b,d,h⟩| .goto _,O,_=>λ r p m j K n st a w w0 h b d=>by cases h| .refuse _,O,_=>λ r p m j K n st a w w0 h b d=>by cases h
end
section
variable[Dr]
variable{P:Program}{E:aq}{R:Type}
variable{w:World}{A S:Nat->Prop}{W:World}{T:cf}{K:Exit->au->Option R}{F:List Nat}
def A9:List Nat->(es:List Ty)->ax es->List (Nat×fX)->List (Nat×fX)| [p],[e],x,m=>Map.jw m p ⟨[],true,.v (.aE e x)⟩|p::q::ps,e::u::es,(x,y),m=>A9 (q::ps) (u::es) y (Map.jw m p ⟨[],true,.v (.aE e x)⟩)|_,_,_,m=>m
def oz(F:List Nat)(st:au):au:={N:=st.N,d:= [],a:=st.a.filter λ p=>F.any (cr p.1),b:=st.b,c:= []}
def yO(T:cf)(F ps:List Nat)(es:List Ty)(d:cR T.b)(x:ax es):au:={N:=T.N,d:= [],a:=A9 ps es x (mk T d).a,b:=(mk T d).b,c:=F}
def wR(E:aq)(T:cf)(F:List Nat)(X:List (dN×cf))(again:cR T.b->Option R)(k:iI R X):hg->au->Option R| .normal,st=>bif ot st.c F&&cr st.N T.N then(ky E T (oz F (jO st))).bind again else none|e,st=>bif ot st.c F&&cr st.N T.N then pB E X k e (oz F (jO st))else none
def tH(K:au->Option R):hg->au->Option R| .normal,st=>K st|_,_=>none
theorem qw(d):(mk T d).N=T.N/\(mk T d).d= []/\(mk T d).c=T.c:=by grind[mk]
theorem aca{α}(F:List Nat)(m:List (Nat×α))(k):bn (m.filter λ p=>F.any (cr p.1)) k=if F.any (cr k)then bn m k else none:=Map.afw (λ n=>F.any _) m k
theorem aD.G{s s' conc st st' a a' w w'}(h:aD P s conc st a w)(y)(O:st'.N=st.N)(E:∀d sl,bn st'.a d=some sl->bn st.a d=some sl/\sl.L= []/\a'.tmps[d]?=a.tmps[d]?)(C:∀id,bn st'.b id=bn st.b id)(Z:a'.tmps.size=a.tmps.size)(S:a'.defers=s'.f)(T:∀d∈st'.c,a'.tmps[d]?=s'.b[d]?)(I:w.heap.size<=w'.heap.size)(G:∀b,b<w.heap.size->conc.B b->w'.heap[b]?=w.heap[b]?)(N:∀b,b<w.heap.size->conc.B b->y b)(X:s'.w=w')(V:s'.B=y)(W:∀b,cZ conc b->s'.M b)(Y:s'.e=s.e)(Q:sQ s'):aD P s' ⟨conc.m,y,conc.b⟩ st' a' w':=have D:fU conc ⟨conc.m,y,conc.b⟩:= ⟨rfl,λ id cv c ow R=> ⟨cv,c,ow,R,.inr ⟨rfl,rfl⟩⟩⟩;have J:fN (ae conc) w w':= ⟨I,λ b j A=>G b A j.1⟩;have H:cM w (ae conc) (ae ⟨conc.m,y,conc.b⟩):=λ b j A=> ⟨N b A j.1,j.2⟩;{
 g:=S
 n:=by rw[Z,O];exact h.n
 m:=λ d sl z p hp=>by have:=(E d sl z).2.1;rw[this]at hp;cases hp
 k:=λ d sl z=>by have⟨L,g2,M⟩:=E d sl z;have⟨v,k1,B⟩:=h.k d sl L;refine⟨v,M.trans k1,λ _=>?_,λ U=>absurd (by grind[cG]) U⟩;have:=B.b (by grind[cG]);exact⟨this.1,this.2.b J H D⟩
 q:=λ id ver o F=>by rw[C]at F;have⟨c,ow,k1,B⟩:=h.q id ver o F;refine⟨c,ow,k1,B.b J H D λ K b j=>?_⟩;subst K;exact G b (h.f id ver c b k1 j).2 (by rw[h.u];exact h.z k1 j)
 r:=λ id z=>h.r id (by rw[<-C];exact z)
 t:=h.t
 f:=λ i v c b hi j=> ⟨.inr (W b ⟨i,v,c,hi,j⟩),hs (h.f i v c b hi j).2 I⟩
 e:=by rw[<-X];exact⟨rfl,rfl,⟨rfl,λ _=>b2 _⟩,b2 _,λ _ _ _=>rfl⟩
 u:=V.symm
 x:=h.x.trans Y.symm
 h:=Q
 l:=T}
theorem aD.H{s s' conc st a w w'}(h:aD P s conc st a w)(p)(E:w.heap.size<=w'.heap.size)(D:∀b,b<w.heap.size->conc.B b->w'.heap[b]?=w.heap[b]?)(H:∀b,b<w.heap.size->conc.B b->p b)(Q:s'.w=w')(N:s'.B=p)(O:∀b,cZ conc b->s'.M b)(R:s'.e=s.e)(L:a.defers=s'.f)(S:s'.b=s.b)(I:sQ s'):aD P s' ⟨conc.m,p,conc.b⟩ st a w':=have C:fU conc ⟨conc.m,p,conc.b⟩:= ⟨rfl,λ id cv c ow J=> ⟨cv,c,ow,J,.inr ⟨rfl,rfl⟩⟩⟩;have F:fN (ae conc) w w':= ⟨E,λ b j A=>D b A j.1⟩;have z:cM w (ae conc) (ae ⟨conc.m,p,conc.b⟩):=λ b j A=> ⟨H b A j.1,j.2⟩;{
 g:=L
 n:=h.n
 m:=h.m
 k:=λ d sl K=>have⟨v,k1,y⟩:=h.k d sl K;⟨v,k1,λ B=> ⟨(y.b B).1,(y.b B).2.b F z C⟩,y.d⟩
 q:=λ id ver o M=>by have⟨c,ow,k1,y⟩:=h.q id ver o M;refine⟨c,ow,k1,y.b F z C λ G b j=>?_⟩;subst G;exact D b (h.f id _ c b k1 j).2 (by rw[h.u];exact h.z k1 j)
 r:=h.r
 t:=h.t
 f:=λ i v c b hi j=> ⟨.inr (O b ⟨i,v,c,hi,j⟩),hs (h.f i v c b hi j).2 E⟩
 e:=by rw[<-Q];exact⟨rfl,rfl,⟨rfl,λ _=>b2 _⟩,b2 _,λ _ _ _=>rfl⟩
 u:=N.symm
 x:=h.x.trans R.symm
 h:=I
 l:=λ s z=>by rw[S];exact h.l s z}
structure iE(P:eb)(w0:bC)(wb:ee)(D l:Nat)(own0:Nat->Prop)(a:fu)(fn:Go.FuncId)(ps:Array Tmp)(ca cb:ef)(stt:yt)(pe:Option ef)(A S:Nat->Prop)(conc:bf)(st:au)(W:ee):Prop where
 c:aD P ⟨W,λ b=>(b<wb.heap.size/\w0.B b)\/((wb.heap.size<=b/\b≠D/\b≠l)/\¬S b),cZ conc,a.defers,a.tmps,w0.e,w0.d⟩ conc st a W
 m:wb.heap.size<=D/\wb.heap.size<=l/\D≠l
 g:W.heap[l]?=some (.loop {state:=stt,pending:=pe,fn,tmps:=a.tmps,params:=ps,assign:=ca,body:=cb,defers:=D})
 n:W.heap[D]?=some (.deferred (some []))
 p:W.os=wb.os
 i:W.tape=wb.tape
 d:eW wb W
 f:D<W.heap.size/\l<W.heap.size
 h:∀b,b<wb.heap.size->¬own0 b->W.heap[b]?=wb.heap[b]?
 j:∀b,cZ conc b->own0 b\/(wb.heap.size<=b/\b≠D/\b≠l)
 e:∀b,cZ conc b->¬A b
 o:∀b,S b->A b
 k:∀b,A b->(wb.heap.size<=b/\b≠D/\b≠l)/\b<W.heap.size
section
variable{w0:bC}{wb:World}{D l:Nat}{own0:Nat->Prop}{a:Act}{fn:FuncId}{ps:Array Tmp}{ca cb:Code}{stt:LoopState}{pe:Option Code}{conc:bf}{st:au}
theorem iE.r{A' t z}(h:iE P w0 wb D l own0 a fn ps ca cb stt pe A S conc st W)(R:st.d= []/\∀d sl,bn st.a d=some sl->sl.L= [])(Q:st.c= [])(r:wm A S W A' t z)(K:∀d∈a.defers,∃D,d={target:= .collected D,args:= #[]}/\wb.heap[D]?=some (.deferred (some []))/\¬own0 D/\¬w0.B D/\w0.d<=D):∃B,B.m=conc.m/\iE P w0 wb D l own0 a fn ps ca cb stt pe A' t B st z:=by
 have L:=h.m;have T:=h.f;have N:=r.f;have O:∀b,b<wb.heap.size\/b=D\/b=l->¬S b:=λ b q s=>by have:=(h.k b (h.o b s)).1;omega
 have H:conc.B=λ b=>(b<wb.heap.size/\w0.B b)\/((wb.heap.size<=b/\b≠D/\b≠l)/\¬S b):=h.c.u;have I:∀b,conc.B b->¬S b:=λ b q=>by grind
 have C:∀b,b<W.heap.size->conc.B b->(b<wb.heap.size/\w0.B b)\/((wb.heap.size<=b/\b≠D/\b≠l)/\¬t b):=λ b w q=>by
  rw[H]at q;obtain q| ⟨h1,h2⟩:=q
  grind
  refine .inr ⟨h1,λ s=>?_⟩;rcases r.k b s with E|E
  all_goals grind
 have x:∀b,b<wb.heap.size\/b=D\/b=l->z.heap[b]?=W.heap[b]?:=λ b q=>r.d b (by omega) (O b q);refine⟨⟨conc.m,λ b=>(b<wb.heap.size/\w0.B b)\/((wb.heap.size<=b/\b≠D/\b≠l)/\¬t b),conc.b⟩,rfl,?_⟩;exact{
  c:=h.c.G _ rfl (by grind) (λ _=>rfl) rfl rfl (by grind) N (λ b w q=>r.d b w (I b q)) C rfl rfl (λ b q=>q) rfl ({
  i:=λ b q=> .inr ⟨by grind,λ s=>by
   have:=r.i b (r.h b s);grind⟩
  e:=λ b⟨i,v,c,g1,u⟩=>C b (h.c.f i v c b g1 u).2 (by rw[h.c.u];exact h.c.z g1 u)
  f:=λ d J=>by have⟨y,e,h1,h2,F⟩:=K d J;have w:=(eL.1 h1).1;refine⟨y,e,((x y (by omega)).trans (h.h y w h2)).trans h1,λ q=>?_,F.2⟩;grind
  h:=h.c.h.h
  g:=by have:=h.c.h.g;grind})
  m:=L
  g:=(x _ (by omega)).trans h.g
  n:=(x _ (by omega)).trans h.n
  p:=r.l.trans h.p
  i:=r.g.trans h.i
  d:=r.e.b h.d
  f:=by omega
  h:=λ b q M=>(x b (by omega)).trans (h.h b q M)
  j:=h.j
  e:=λ b q G=>by
   rcases r.j b G with h1|h1;exact h.e b q h1;obtain⟨i,v,c,g1,u⟩:=q;have:=(h.c.f i v c b g1 u).2;omega
  o:=r.h
  k:=λ b q=> ⟨by
   rcases r.j b q with h1|h1;exact(h.k b h1).1;omega,r.i b q⟩}
end
theorem Oy:{l:List (Nat×ki)}->{r:List iK}->{m:List (Nat×fX)}->{r':List iK}->pY l r=some (m,r')->∀p∈m,p.2.L= []| [],r,m,r',h=>by grind[pY,Option.some.injEq,Prod.mk.injEq]| (d,t)::l,r,m,r',h=>by simp[pY]at h;split at h;split at h;rename_i m' b a;simp[Option.some.injEq,Prod.mk.injEq]at h;have⟨rfl,_⟩:=h;intro p hp;rcases j2.1 hp with rfl|hp;rfl;exact Oy a p hp;trivial;trivial
theorem xS(d){k sl}(h:bn (mk T d).a k=some sl):sl.L= []:=by unfold mk at h;split at h;rename_i s r a;split at h;exact Oy a _ (Map.ll h);trivial;trivial
theorem IW(hE:al P E){w0 K}{k:R}{e conc st a w}(l:aD P w0 conc st a w):(X:List (dN×cf))->pB E X (kK K X) e st=some k->∃x∈X,∃d f,e=x.1.b/\aD P w0 f (mk x.2 d) a w/\(∀b,cZ f b->cZ conc b)/\K e (mk x.2 d)=some k| [],h=>by cases h|x::r,h=>by simp[pB,kK]at h;cases g:x.1.c e with
  |true=>rw[g]at h;cases j:ky E x.2 st with|none=>rw[j]at h;cases h|some d=>
   rw[j]at h;have o:x.1.b=e:=by cases p:x.1<;>cases e<;>simp[p,dN.c,gF]at g<;>simp[dN.b,g]
   have⟨f,m,n⟩:=GR hE l j;exact⟨x,hD,d,f,o.symm,m,λ b⟨i,v,c,k1,q⟩=>n i v c b k1 q,by grind⟩
  |false=>rw[g]at h;have⟨y,s,r⟩:=IW hE l r h;grind
def Cl:hg->ef| .exit i=> .exit i|_=> .ret
theorem ahw(F)(st)(k):bn (oz F st).a k=if F.any (cr k)then bn st.a k else none:=aca F _ k
theorem iE.s{w0 wb D l own0 a x fn ps ca cb conc MO st s W3 W4 stt pe} {R} {Q} (h:iE P w0 wb D l own0 a fn ps ca cb stt pe A S conc st W) {sE} (t:aD P sE MO s x W3) (al:s.c=F) (ai:∀k∈F,sE.b[k]?=a.tmps[k]?) (ag:x.tmps.size=a.tmps.size) (ab:∀k sl,bn s.a k=some sl->F.any (cr k)=true->sl.L= []) (U:sE.B=λ b=>(b<wb.heap.size/\w0.B b)\/((wb.heap.size<=b/\b≠D/\b≠l)/\¬S b)) (aj:sE.e=w0.e) (an:sE.d=w0.d) (ae:W3.os=W.os) (ah:W3.tape=W.tape) (L:eW W W3) (ao:W.heap.size<=W3.heap.size) (Y:∀b,b<W.heap.size->¬cZ conc b->b≠l->W3.heap[b]?=W.heap[b]?) (M:∀b,cZ MO b->cZ conc b\/W.heap.size<=b) (Z:∀d∈a.defers,∃D,d={target:= .collected D,args:= #[]}/\wb.heap[D]?=some (.deferred (some []))/\¬own0 D/\¬w0.B D/\w0.d<=D) (B:W4=W3.putObj l (.loop {state:=R,pending:=Q,fn,tmps:=a.tmps,params:=ps,assign:=ca,body:=cb,defers:=D})):∃G,G.m=MO.m/\iE P w0 wb D l own0 a fn ps ca cb R Q A S G (oz F s) W4:=by
 have N:=h.f;have ad:=h.m;have O:∀b,b<wb.heap.size\/b=D\/b=l->¬own0 b->¬cZ conc b:=λ b q u C=>by rcases h.j b C with h1|h1;all_goals grind
 have H:∀b,b≠l->W4.heap[b]?=W3.heap[b]?:=λ b q=>by grind[lA]
 have ap:W4.heap.size=W3.heap.size:=by simp_all
 have am:l<W3.heap.size:=by omega
 have ak:MO.B=λ b=>(b<wb.heap.size/\w0.B b)\/((wb.heap.size<=b/\b≠D/\b≠l)/\¬S b):=t.u.trans U;have V:¬MO.B l:=by grind
 have af:∀d sl,bn (oz F s).a d=some sl->bn s.a d=some sl/\sl.L= []/\a.tmps[d]?=x.tmps[d]?:=by
  intro d sl r;rw[ahw]at r;split at r;rename_i X;have ac:d∈F:=by simp_all
  refine⟨r,ab d _ r X,?_⟩;rw[t.l d (by grind),ai d ac];trivial
 have E:∀b,b<wb.heap.size\/b=D\/b=l->¬cZ conc b->b≠l->W4.heap[b]?=W.heap[b]?:=λ b q u K=>(H b K).trans (Y b (by omega) u K);have aa:∀b,cZ MO b->MO.B b:=λ b⟨i,v,c,y,z⟩=>by rw[t.u];exact t.z y z
 refine⟨⟨MO.m,λ b=>(b<wb.heap.size/\w0.B b)\/((wb.heap.size<=b/\b≠D/\b≠l)/\¬S b),MO.b⟩,rfl,?_⟩;refine{
  c:=t.G _ rfl af (λ _=>rfl) ag.symm rfl (λ d r=>by rfl) (by omega) (λ b J q=>H b λ e=>V (by grind)) (λ b _ q=>by grind) rfl rfl (λ b q=>q) aj.symm ?_
  m:=ad
  g:=by grind[q0]
  n:=(E _ (by omega) (λ C=>?_) (by omega)).trans h.n
  p:=by rw[B];exact ae.trans h.p
  i:=by rw[B];exact ah.trans h.i
  d:=by rw[B];exact eW.b (⟨L.d,L.e⟩) h.d
  f:=by omega
  h:=λ b q u=>(E b (by omega) (O b (by omega) u) (by omega)).trans (h.h b q u)
  j:=λ b q=>by rcases M b q with h1|h1;all_goals grind
  e:=λ b q I=>by rcases M b q with h1|h1;exact h.e b h1 I;have:=(h.k b I).2;omega
  o:=h.o
  k:=λ b q=> ⟨(h.k b q).1,by have:=(h.k b q).2;omega⟩};exact{
  i:=λ b q=> .inr ⟨by grind,λ N=>by have:=(h.k b (h.o b N)).2;grind⟩
  e:=λ b q=>by have:=aa b q;grind
  f:=λ d r=>by have⟨w,e,h1,h2,T⟩:=Z d r;have J:=(eL.1 h1).1;refine⟨w,e,((E w (by omega) (O w (by omega) h2) (by omega)).trans (h.h w J h2)).trans h1,λ q=>?_,T.2⟩;grind
  h:=h.c.h.h
  g:=by have:=h.c.h.g;grind};have⟨i,v,c,y,z⟩:=C;have q:=h.c.z y z;omega
theorem iE.q{w0 wb D l own0 a fn ps ca cb conc r st st' stt pe}(h:iE P w0 wb D l own0 a fn ps ca cb stt pe A S conc st W)(t:aD P ⟨W,λ b=>(b<wb.heap.size/\w0.B b)\/((wb.heap.size<=b/\b≠D/\b≠l)/\¬S b),cZ conc,a.defers,a.tmps,w0.e,w0.d⟩ r st' a W)(s:∀b,cZ r b->cZ conc b):∃u,iE P w0 wb D l own0 a fn ps ca cb stt pe A S u st' W:=by have v:r.B=λ b=>(b<wb.heap.size/\w0.B b)\/((wb.heap.size<=b/\b≠D/\b≠l)/\¬S b):=t.u;refine⟨_,{
 c:=aD.H t _ (b2 _) (λ _ _ _=>rfl) (by grind) rfl rfl (λ b q=>q) rfl rfl rfl {
  i:=h.c.h.i
  e:=λ b q=>h.c.h.e b (s b q)
  f:=h.c.h.f
  h:=h.c.h.h
  g:=h.c.h.g}
 m:=h.m
 g:=h.g
 n:=h.n
 p:=h.p
 i:=h.i
 d:=h.d
 f:=h.f
 h:=h.h
 j:=λ b q=>h.j b (s b q)
 e:=λ b q=>h.e b (s b q)
 o:=h.o
 k:=h.k}⟩
def vq(a:Array df):List Nat->List df->Array df|p::ps,v::vs=>vq (a.setIfInBounds p v) ps vs|_,_=>a
theorem aaW:∀ps vs a,(ps.toArray.zip vs.toArray).foldl (λ c(x:Nat×df)=>c.setIfInBounds x.1 x.2) a=vq a ps vs:=by
 intro ps vs a;rw[<-Array.foldl_toList,Array.toList_zip];show(ps.zip vs).foldl _ _=_
 induction ps generalizing vs a with|nil=>rfl|cons p ps b=>cases vs with|nil=>rfl|cons v vs=>exact b _ _
theorem SH:∀ps vs a{k:Nat},k∉ps->(vq a ps vs)[k]?=a[k]?| [],_,_,_,_=>by rfl|_::_,[],_,_,_=>rfl|p::ps,v::vs,a,k,h=>by simp[j2,not_or]at h;rw[vq,SH _ _ _ h.2,Array.getElem?_setIfInBounds_ne (by omega)]
theorem fe.b{ok}:{a:List Ty}->{vs:List df}->{x:ax a}->fe P w ok a vs x->vs.length=a.length| [],_,_,h=>by rw[h];rfl| [t],_,_,⟨_,h,_⟩=>by grind|t::u::a,_,(_,_),⟨_,_,h,_,h2⟩=>by rw[h,l8,fe.b h2];rfl
theorem abP:∀ps es{x:ax es}{m:List (Nat×fX)},(∀k sl,bn m k=some sl->sl.L= [])->∀k sl,bn (A9 ps es x m) k=some sl->sl.L= []:=by
 intro ps;have one:∀{m:List (Nat×fX)}{p:Nat}{s:bQ},(∀k sl,bn m k=some sl->sl.L= [])->∀k sl,bn (Map.jw m p ⟨[],true,s⟩) k=some sl->sl.L= []:=by grind[Map.lq]
 induction ps with|nil=>intro es x m h;trivial|cons p ps a=>
  intro es x m h
  match ps,es,x with
  | [],[e],x=>exact one h| [],[],_=>exact h| [],_::_::_,_=>exact h|_::_,[],_=>exact h|_::_,[_],_=>exact h|q::ps,e::u::es,(x,y)=>exact a _ (one h)
theorem aD.J{s conc}:∀{st:au}{a:fu},aD P s conc st a w->st.d= []->∀ps es{vs:List df}{x:ax es},fe P w (ae conc) es vs x->ps.length=es.length->(∀p∈ps,p<st.N/\p∉st.c)->aD P s conc {st with a:=A9 ps es x st.a} {a with tmps:=Go.Abs.vq a.tmps ps vs} w:=by
 intro st a h c ps;have one:∀{st:au}{a:fu}{p:Nat}{e:Ty}{x:e.b}{cs:List df},aD P s conc st a w->st.d= []->p<st.N/\p∉st.c->aw P e w (ae conc) cs x->aD P s conc {st with a:=Map.jw st.a p ⟨[],true,.v (.aE e x)⟩} (a.put (some p) (e.d cs)) w:=λ h c hp b=>h.K (pa.2 ⟨hp.1,by grind,hp.2⟩) (λ _ f=>f) (λ _ k=>by trivial) ⟨λ _=> ⟨rfl,_,rfl,b⟩,λ g=>absurd (cG _) g⟩
 induction ps generalizing st a with|nil=>intro es vs x b d _;trivial|cons p ps j=>
  intro es vs x b d hp
  match ps,es,x,d with
  | [],[e],x,_=>obtain⟨cs,rfl,b⟩:=b;exact one h c (hp p (by simp)) b|q::ps,e::u::es,(x,y),d=>obtain⟨cs,r,rfl,b,i⟩:=b;exact j (one h c (hp p (by simp)) b) c _ i (by grind) (by grind)
structure qp(P:eb){R:Type}(E:aq)(es:List Ty)(ps:List Nat)(ca cb:ef)(Oa Ob:List (Ev R))(T:cf)(F:List Nat)(X:List (dN×cf))(body:cR T.b->ax es->(cR T.b->Option R)->iI R X->Option R):Prop where
 c:T.c= []
 g:∀p∈ps,p<T.N/\p∉F
 e:ps.length=es.length
 f:∀x∈X,x.2.c= []
 a:eS P (bT.b (R:=R)) true ca (dv E bT.b ca Oa)
 b:eS P (bT.b (R:=R)) true cb (dv E bT.b cb Ob)
 h:∀d x again k,dv E bT.b ca Oa (yO T F ps es d x) (tH λ st=>dv E bT.b cb Ob st (wR E T F X again k))=body d x again k
theorem aiR(hE:al P E){es ps ca cb Oa Ob T F X body} (J:qp P E es ps ca cb Oa Ob T F X body) {w0} {wb} {D l} {own0} {a} {fn} {A S} {conc} {W} {d} {x} {vs} (h:iE P w0 wb D l own0 a fn ps.toArray ca cb .ready none A S conc (mk T d) W) (bm:∀d∈a.defers,∃D,d={target:= .collected D,args:= #[]}/\wb.heap[D]?=some (.deferred (some []))/\¬own0 D/\¬w0.B D/\w0.d<=D) (ao:fe P W (ae conc) es vs x) {K} {again} {ah:R} (aS:body d x again (kK K X)=some ah):YieldAt j1 5 P l vs.toArray W λ aP N=>(∀b,b<W.heap.size->¬cZ conc b->b≠l->N.heap[b]?=W.heap[b]?)/\W.heap.size<=N.heap.size/\N.os=W.os/\N.tape=W.tape/\eW W N/\(
   (aP= .returned (.bool true)/\∃H o,iE P w0 wb D l own0 a fn ps.toArray ca cb .ready none A S H (mk T o) N/\again o=some ah)\/
   (aP= .returned (.bool false)/\∃H,∃y∈X,∃o,iE P w0 wb D l own0 a fn ps.toArray ca cb .done (some (Cl y.1.b)) A S H (mk y.2 o) N/\K y.1.b (mk y.2 o)=some ah)):=by
 have a6:=h.f;have bN:=h.m;have a2:=h.g;have bA:=run_yield (P:=P) (args:=vs.toArray) a2 (by simp[J.e.trans ao.b.symm]);refine⟨_,_,_,_,bA,?_⟩;dsimp only;have aX:¬cZ conc l:=λ⟨i,v,c,g1,O⟩=>by rcases h.c.z g1 O with⟨bi,_⟩| ⟨bi,_⟩<;>omega
 have⟨aF,bs,aV⟩:=qw d;let aN:Act:={tmps:=a.tmps,defers:= []};let aw:Act:={aN with tmps:=vq a.tmps ps vs};let B:Nat->Prop:=λ b=>(b<wb.heap.size/\w0.B b)\/((wb.heap.size<=b/\b≠D/\b≠l)/\¬S b);let bI:bC:= ⟨W,B,cZ conc,[],a.tmps,w0.e,w0.d⟩;let aK:bC:= ⟨W,B,cZ conc,[],aw.tmps,w0.e,w0.d⟩;have a9:∀bb,sQ ⟨W,B,cZ conc,[],bb,w0.e,w0.d⟩:=λ bb=>{
  i:=h.c.h.i
  e:=h.c.h.e
  f:=λ _ V=>by cases V
  h:=jA
  g:=h.c.h.g};have aU:conc.B=B:=h.c.u;have bE:aD P bI ⟨conc.m,B,conc.b⟩ (mk T d) aN W:=h.c.G B rfl (λ k sl G=> ⟨G,xS d G,rfl⟩) (λ _=>rfl) rfl rfl (λ k G=>absurd G (by rw[aV,J.c];simp)) (b2 _) (λ _ _ _=>rfl) (λ b _ j=>by rw[<-aU];exact j) rfl rfl (λ b j=>j) rfl (a9 _);have L:ae (⟨conc.m,B,conc.b⟩:bf)=ae conc:=by funext b;unfold ae;rw[aU]
 have m1:=bE.J bs ps es (by rw[L];exact ao) J.e (λ p hp=> ⟨by rw[aF];exact(J.g p hp).1,by rw[aV,J.c];simp⟩);rw[<-J.h]at aS;have bc:∀(c:ef)Q a w n m,c.wpIn (Fr (some l)) n P Q a w->c.wpIn (Fence.wide.inRound l) m P Q a w:=λ c Q a w n m bo=>aaz bo;rw[aaW ps vs a.tmps];refine roundIn_of_wpIn trivial (bc _ _ _ _ 7 5 ?_);have a7:∀s,s.f= []->oB P (bT.b (R:=R)) true (λ s' b=>b=ah/\lU s s'):=λ s _=>{
  d:=λ bR bS b j aC=> ⟨j.1,j.2.j aC⟩
  c:=λ M=>absurd rfl M
  g:=λ L=>by cases L
  f:=λ M=>absurd rfl M};refine hy (J.a (some l) rfl _ (a7 aK rfl) _ ah _ _ _ aK aS ⟨_,m1.G B aF.symm (λ k sl G=> ⟨G,abP ps es (λ k sl=>xS d) k sl G,rfl⟩) (λ _=>rfl) rfl rfl (λ k _=>rfl) (b2 _) (λ _ _ _=>rfl) (λ b _ j=>j) rfl rfl (λ b j=>j) rfl (a9 _)⟩ ⟨rfl,lU.t _⟩) ?_;rintro be aO w1⟨Z,bd,bJ,⟨conc1,ab⟩,⟨rfl,aa⟩,aB⟩;cases be with
 |normal=>
  simp[tH]at aB;have ad:=aa.j ab.C;have a8:∀b,b<W.heap.size->¬cZ conc b->w1.heap[b]?=W.heap[b]?:=ad.d;have bP:W.heap.size<=w1.heap.size:=ad.e;refine⟨_,run_beginRound ((a8 _ (by omega) aX).trans a2) rfl,bc _ _ _ _ 7 5 ?_⟩;generalize av:w1.putObj l _=w2;have aQ:∀b,b≠l->w2.heap[b]?=w1.heap[b]?:=λ b j=>by rw[<-av];exact lA j
  have bO:w2.heap.size=w1.heap.size:=by rw[<-av];simp[vo]
  have aG:w2.os=w1.os/\w2.tape=w1.tape/\eW w1 w2:=by rw[<-av];exact⟨rfl,rfl,rfl,λ _=>b2 _⟩
  have bv:w2.heap[l]?=some (.loop {state:= .busy,pending:=none,fn,tmps:=a.tmps,params:=ps.toArray,assign:=ca,body:=cb,defers:=D}):=by
   rw[<-av];exact q0 (by omega)
  have aA:conc1.B=B:=by
   rw[ab.u];funext b;exact propext (aa.B b)
  have bk:¬B l:=by
   rintro(⟨bH,_⟩| ⟨bH,_⟩)<;>omega
  let aL:bC:= ⟨w2,B,cZ conc1,[],Z.b,Z.e,Z.d⟩
  have br:Z.d=w0.d:=aa.p;have bK:∀b,w2.heap.size<=b->B b:=λ b j=> .inr ⟨by omega,λ a6=>by have:=(h.k b (h.o b a6)).2;omega⟩;have bG:aD P aL ⟨conc1.m,B,conc1.b⟩ bJ aO w2:=by
   refine aD.H ab B ?_ (λ b bM j=>aQ b λ e=>bk (by rw[<-e,<-aA];exact j)) (λ b _ j=>by rw[<-aA];exact j) rfl rfl (λ b j=>j) rfl (ab.g.trans aa.q) rfl {
    i:=bK
    e:=λ b⟨i,v,c,g1,O⟩=>by
     have:=ab.z g1 O;rw[<-ab.u,aA]at this;exact this
    f:=λ _ V=>by cases V
    h:=jA
    g:=by
     have:w0.d<=W.heap.size:=h.c.h.g;show Z.d<=w2.heap.size;omega}
   omega
  refine hy (J.b (some l) rfl _ (a7 aL rfl) _ bd _ _ _ aL aB ⟨_,bG⟩ ⟨rfl,lU.t _⟩) ?_;rintro bg bL w3⟨ba,ai,q,⟨aM,aE⟩,⟨rfl,am⟩,ar⟩;have Y:=am.j aE.C;have bQ:w2.heap.size<=w3.heap.size:=Y.e;have aY:∀b,cZ conc1 b->cZ conc b\/W.heap.size<=b:=λ b j=>(ad.M b j).imp id λ g=>g.1;have bt:∀b,cZ aM b->cZ conc b\/W.heap.size<=b:=λ b j=>by
   rcases Y.M b j with g|g
   exact aY b g;have g':w2.heap.size<=b:=g.1;exact .inr (by omega)
  have aW:∀b,b<W.heap.size->¬cZ conc b->¬cZ conc1 b:=λ b j ac C=>by
   rcases aY b C with g|g
   exact ac g;omega
  have aT:∀b,b<W.heap.size->¬cZ conc b->b≠l->w3.heap[b]?=W.heap[b]?:=λ b j ac M=>by
   have I:w3.heap[b]?=w2.heap[b]?:=Y.d b (by show b<w2.heap.size;omega) (aW b j ac);exact I.trans ((aQ b M).trans (a8 b j ac))
  have a4:w3.heap[l]?=some (.loop {state:= .busy,pending:=none,fn,tmps:=a.tmps,params:=ps.toArray,assign:=ca,body:=cb,defers:=D}):=by
   have I:w3.heap[l]?=w2.heap[l]?:=Y.d _ (by show _<w2.heap.size;omega) (aW _ (by omega) aX);exact I.trans bv
  have aH:w3.os=W.os:=by have I:w3.os=w2.os:=Y.k;have ak:w1.os=W.os:=ad.k;rw[I,aG.1,ak]
  have aJ:w3.tape=W.tape:=by have I:w3.tape=w2.tape:=Y.f;have ak:w1.tape=W.tape:=ad.f;rw[I,aG.2.1,ak]
  have an:eW W w3:=by exact Y.c.b (eW.b aG.2.2 ad.c)
  have bx:ba.b=vq a.tmps ps vs:=am.g.trans aa.g;have aI:∀ag af,q.c=F->q.N=T.N->∃aj,aj.m=aM.m/\iE P w0 wb D l own0 a fn ps.toArray ca cb ag af A S aj (oz F (jO q))
   (w3.putObj l (.loop {state:=ag,pending:=af,fn,tmps:=a.tmps,params:=ps.toArray,assign:=ca,body:=cb,defers:=D})):=λ ag af t u=>
   h.s (S7 aE) t (λ k G=>by rw[bx,SH ps vs _ λ hp=>(J.g k hp).2 G]) (by rw[h.c.n.trans aF,aE.n,u]) (λ k sl G _=>ahy G) (funext λ b=>propext (am.B b)) (am.m.trans aa.m) (am.p.trans br) aH aJ an (by omega) aT bt bm rfl
  have a5:∀ag(af:Option ef)b,b<W.heap.size->¬cZ conc b->b≠l->
   (w3.putObj l (.loop {state:=ag,pending:=af,fn,tmps:=a.tmps,params:=ps.toArray,assign:=ca,body:=cb,defers:=D})).heap[b]?=W.heap[b]?:=λ ag af b j ac M=>
   (lA M).trans (aT b j ac M)
  have aZ:∀v,(w3.putObj l v).heap.size=w3.heap.size:=λ v=>by simp[vo]
  have out:∀ex ap,Cl ex=ap->(∀c,ex≠ .panic c)->pB E X (kK K X) ex (oz F (jO q))=some ai->q.c=F->q.N=T.N->
   ∃v w',(Instr.endRound l (some ap)).run P w3= .ok v w'/\((∀b,b<W.heap.size->¬cZ conc b->b≠l->w'.heap[b]?=W.heap[b]?)/\W.heap.size<=w'.heap.size/\w'.os=W.os/\w'.tape=W.tape/\eW W w'/\
   (
    (l4 v= .returned (.bool true)/\∃H o,iE P w0 wb D l own0 a fn ps.toArray ca cb .ready none A S H (mk T o) w'/\again o=some ai)\/
    (l4 v= .returned (.bool false)/\∃H,∃y∈X,∃o,iE P w0 wb D l own0 a fn ps.toArray ca cb .done (some (Cl y.1.b)) A S H (mk y.2 o) w'/\K y.1.b (mk y.2 o)=some ai))):=by
   intro ex ap bp _ aC t u;refine⟨_,_,run_endRound (some ap) a4,a5 _ _,by rw[aZ];omega,aH,aJ,(⟨an.d,an.e⟩),.inr ⟨rfl,?_⟩⟩;have⟨aj,_,U⟩:=aI .done (some ap) t u;have⟨x,ao,o,H,L,g1,O,bh⟩:=IW hE U.c X aC;have⟨ay,az⟩:=U.q g1 O;refine⟨ay,x,ao,o,?_,by rw[<-L];exact bh⟩;rw[<-L,bp];exact az
  have aq:∀{z:Option R},(bif ot q.c F&&cr q.N T.N then z else none)=some ai->q.c=F/\q.N=T.N/\z=some ai:=by
   intro z r;cases C:(ot q.c F&&cr q.N T.N)with
   |false=>rw[C]at r;cases r
   |true=>
    rw[C]at r;simp only[dr]at C;exact⟨EW C.1,cU C.2,r⟩
  cases bg with
  |normal=>
   have⟨t,u,r⟩:=aq (z:=(ky E T (oz F (jO q))).bind again) ar;refine⟨_,_,run_endRound none a4,a5 _ _,by rw[aZ];omega,aH,aJ,(⟨an.d,an.e⟩),.inl ⟨rfl,?_⟩⟩;have⟨aj,_,U⟩:=aI .ready none t u;cases V:ky E T (oz F (jO q))with
   |none=>rw[V]at r;cases r
   |some o=>
    rw[V]at r;have⟨H,g1,O⟩:=GR hE U.c V;have⟨ay,az⟩:=U.q g1 λ b⟨i,v,c,k1,bD⟩=>O i v c b k1 bD;exact⟨ay,o,az,r⟩
  |ret=>
   have⟨t,u,r⟩:=aq (z:=pB E X (kK K X) .ret (oz F (jO q))) ar;exact out .ret .ret rfl (λ c C=>by cases C) r t u
  |exit i=>
   have⟨t,u,r⟩:=aq (z:=pB E X (kK K X) (.exit i) (oz F (jO q))) ar;exact out (.exit i) (.exit i) rfl (λ c C=>by cases C) r t u
  |_=>
   have⟨t,u,r⟩:=aq ar;have⟨aj,_,U⟩:=aI .ready none t u;have⟨x,ao,o,H,L,_⟩:=IW hE U.c X r;cases bz:x.1<;>simp[bz,dN.b]at L
 |_=>cases aB
end
section
variable[Dr]
variable{P:Program}{E:aq}{R:Type}
variable{ca cb:Code}{H:bT R}{g:Operand}{Oa Ob:List (Ev R)}{T:cf}{F:List Nat}{X:List (dN×cf)}{w0:bC}{a:Act}
theorem iE.t{r D l u fn ps A S conc st xa W I pe}(h0:aD P w0 u xa a r)(h:iE P w0 r D l (cZ u) a fn ps ca cb I pe A S conc st W)(H:∀d sl,bn st.a d=some sl->sl.L= [])(L:st.c= [])(o):∃F,cT P F st {a with defers:= [{target:= .collected D,args:= #[]}]++a.defers} (W.putObj l o)/\jz w0 F:=by
 have E:=h.f;have Q:=h.m;have w:∀b,b≠l->(W.putObj l o).heap[b]?=W.heap[b]?:=λ b k=>lA k;have U:(W.putObj l o).heap.size=W.heap.size:=by simp
 have K:conc.B=λ b=>(b<r.heap.size/\w0.B b)\/((r.heap.size<=b/\b≠D/\b≠l)/\¬S b):=h.c.u;have G:∀b,cZ conc b->(b<r.heap.size/\w0.B b)\/((r.heap.size<=b/\b≠D/\b≠l)/\¬S b):=λ b⟨i,v,c,x,y⟩=>by have:=h.c.z x y;omega
 have J:∀b,cZ u b->w0.w.heap.size<=b\/w0.M b:=λ b⟨i,v,c,x,y⟩=>(h0.f i v c b x y).1;have t:=h0.e;have N:=h0.h.g;have T:=t.d;refine⟨⟨W.putObj l o,λ b=>(b<r.heap.size/\w0.B b)\/((r.heap.size<=b/\b≠D/\b≠l)/\¬S b),cZ conc,[{target:= .collected D,args:= #[]}]++a.defers,w0.b,w0.e,w0.d⟩,⟨_,h.c.G _ rfl (λ d sl n=> ⟨n,H d sl n,rfl⟩) (λ _=>rfl) rfl rfl (λ d n=>absurd n (by grind)) (by omega) (λ b C k=>w b λ e=>?_) (λ b _ k=>by grind) rfl rfl (λ b k=>k) rfl ?_⟩,?_⟩
 grind
 exact{
  i:=λ b k=> .inr ⟨by
   grind,λ E=>by
   have:=(h.k b (h.o b E)).2
   grind⟩
  e:=G
  f:=λ d n=>by
   rcases fb.1 n with n|n;simp only[hM]at n;subst n;refine⟨_,rfl,(w _ (by omega)).trans h.n,λ k=>?_,by grind⟩;omega;obtain⟨s,e,h1,B⟩:=h0.h.f d (by rw[<-h0.g];omega);have C:=(eL.1 h1).1;have z:¬w0.M s:=λ g=>B.1 (h0.h.e s g);have n0:¬cZ u s:=λ k=>by
    grind
   refine⟨s,e,(w _ (by omega)).trans ((h.h s (by omega) n0).trans ((t.e s C z).trans h1)),λ k=>?_,B.2⟩
   grind
  h:=by
   rw[List.singleton_append,k7];refine⟨λ O=>?_,by rw[h0.g];exact h0.h.h⟩;obtain⟨s,e,h1,_⟩:=h0.h.f _ (by rw[<-h0.g];omega)
   grind
  g:=by
   grind}
 exact{
  j:=h.p.trans t.i
  g:=h.i.trans t.g
  c:= ⟨(eW.b h.d t.f).d,(eW.b h.d t.f).e⟩
  d:=by
   grind
  e:=λ b k z=>by
   have n0:¬cZ u b:=λ R=>by
    grind
   exact(w b (by omega)).trans ((h.h b (by omega) n0).trans (t.e b k z))
  M:=λ b k=>by
   rcases h.j b k with g|g
   all_goals grind
  q:=λ b k h1=> .inl ⟨by omega,h1⟩
  p:=λ b k h1=>by
   grind
  h:=rfl
  m:=rfl}
theorem M5(hE:al P E)(aO:H.c= []){es ps body} (Q:qp P E es ps ca cb Oa Ob T F X body) {Y} (hI:oB P H false Y) {K} {M} {w l} {conc} {d} {xs} (h:la body (kK K X) (λ d=>K .normal (mk T d)) xs d=some M) (I:aD P w0 conc (mk T d) a w) (aT:Y w0 M) {fid} {aa} (bi:a.eval g= .func (.func fid) #[] aa) (bh:lE P fid) (a2:w.heap.size<=l.heap.size) (aX:∀b,b<w.heap.size->l.heap[b]?=w.heap[b]?) (Z:l.os=w.os/\l.tape=w.tape/\eW w l) {A0} (aM:∀b,A0 b->w.heap.size<=b/\b<l.heap.size) (aZ:∀s,s.heap.size=l.heap.size+2->(∀b,b<l.heap.size->s.heap[b]?=l.heap[b]?)->ET P (λ W o aF x=>∃vs,aF=vs.toArray/\fe P W o es vs x) fid aa A0 s (λ b=>ae conc b/\b<w.heap.size) xs):(Code.rangeFunc g ps.toArray ca cb).wpIn (Fr none) 7 P (λ e a' w'=>(∃V N st',cT P V st' a' w'/\Y V N/\K e st'=some N)/\a'.tmps=a.tmps) a l:=by
 have⟨bl,bd,ay⟩:=hI.g rfl aO;let done:cR T.b->Option R:=λ d=>K .normal (mk T d);refine wpIn_rangeFunc λ fn _=>?_;have an:=run_enterLoop_outer (P:=P) (w:=l) fn a.tmps ps.toArray ca cb;generalize U:(l.alloc (.deferred (some []))).alloc (.loop {state:= .ready,pending:=none,fn,tmps:=a.tmps,params:=ps.toArray,assign:=ca,body:=cb,defers:=l.heap.size})=s at an;refine⟨_,_,_,{target:= .fn (.func fid) aa,args:= #[.func (.yield (l.heap.size+1)) #[] #[]]},s,fid,#[.func (.yield (l.heap.size+1)) #[] #[]]++aa,s,an,?_,λ _ _=>trivial,?_,λ _=>by decide,?_⟩;show(o0 _ _).run P _=_;simp_all[rangeCall,ko,o0];grind[invoke,Hk];have a1:s.heap.size=l.heap.size+2:=by rw[<-U];simp
 have aw:∀b,b<l.heap.size->s.heap[b]?=l.heap[b]?:=λ b q=>by rw[<-U];show((l.heap.push _).push _)[b]?=_;grind
 have aN:s.heap[l.heap.size]?=some (.deferred (some [])):=by rw[<-U];show((l.heap.push _).push _)[l.heap.size]?=_;grind
 have aQ:s.heap[l.heap.size+1]?=some (.loop {state:= .ready,pending:=none,fn,tmps:=a.tmps,params:=ps.toArray,assign:=ca,body:=cb,defers:=l.heap.size}):=by rw[<-U];show((l.heap.push _).push _)[l.heap.size+1]?=_;grind
 have af:s.os=w.os/\s.tape=w.tape/\eW w s:=by rw[<-U];exact⟨Z.1,Z.2.1,Z.2.2.d,Z.2.2.e⟩
 have aR:conc.B=w0.B:=I.u;have⟨_,_,bj⟩:=qw d;have aq:∀r,∀k sl,bn (mk T r).a k=some sl->sl.L= []:=λ r k sl C=>xS r C;have az:∀b,cZ conc b->b<w.heap.size/\w0.B b:=λ b⟨i,v,c,t,z⟩=> ⟨(I.f i v c b t z).2,I.z t z⟩;have ac:∀dd∈a.defers,∃D,dd={target:= .collected D,args:= #[]}/\w.heap[D]?=some (.deferred (some []))/\¬cZ conc D/\¬w0.B D/\w0.d<=D:=λ dd am=>have⟨D,aJ,aj,O⟩:=I.y.h.f dd am;⟨D,aJ,aj,λ q=>O.1 (I.y.h.e D q),O⟩
 have ab:∃conc1,iE P w0 w l.heap.size (l.heap.size+1) (cZ conc) a fn ps.toArray ca cb .ready none A0 A0 conc1 (mk T d) s:=by refine⟨_,{
   c:=I.y.G _ rfl (by grind) (λ _=>rfl) rfl rfl (by grind) (by omega) (by grind) (by grind) rfl rfl (λ b q=>q) rfl {
    i:=λ b q=> .inr ⟨by grind,λ g=>by
     grind⟩
    e:=λ b q=> .inl (az b q)
    f:=λ dd am=>by
     grind
    h:=I.y.h.h
    g:=by
     have aj:=I.h.g;have O:=I.e.d
     grind}
   m:= ⟨a2,by omega,by omega⟩
   g:=aQ
   n:=aN
   p:=af.1
   i:=af.2.1
   d:=af.2.2
   f:=by omega
   h:=λ b q _=>(λ b q=>(aw b (by omega)).trans (aX b q)) b q
   j:=λ b q=> .inl q
   e:=λ b q g=>by
    have:=aM b g;have:=(az b q).1;omega
   o:=λ _ h=>h
   k:=λ b g=>by grind}⟩
 have⟨conc1,ab⟩:=ab;let a5:Nat->Prop:=λ b=>ae conc b/\b<w.heap.size;let J:Nat->(Nat->Prop)->(Nat->Prop)->ee->Prop:=λ k A S W=>∃u r,iE P w0 w l.heap.size (l.heap.size+1) (cZ conc) a fn ps.toArray ca cb .ready none A S u (mk T r) W/\la body (kK K X) done (xs.drop k) r=some M;let aG:(Nat->Prop)->(Nat->Prop)->ee->Prop:=λ A S W=>∃u,∃y∈X,∃r,iE P w0 w l.heap.size (l.heap.size+1) (cZ conc) a fn ps.toArray ca cb .done (some (Cl y.1.b)) A S u (mk y.2 r) W/\K y.1.b (mk y.2 r)=some M;have aS:=aZ s a1 aw (l.heap.size+1) J aG (λ k A S W A' aH L⟨u,r,q,G⟩ag=>by have⟨aI,_,O⟩:=q.r ⟨(qw r).2.1,aq r⟩ ((qw r).2.2.trans Q.c) ag ac;grind) (λ A S W A' aH L⟨u,y,ah,r,q,G⟩ag=>by
   have⟨aI,_,O⟩:=q.r ⟨(qw r).2.1,λ k sl C=>xS r C⟩ ((qw r).2.2.trans (Q.f y ah)) ag ac
   grind) (λ k x A S W aF⟨u,r,q,G⟩C⟨cs,aK,aY⟩=>by
   subst aK;rw[kH ((eQ.1 C).1)]at G;rw[(eQ.1 C).2]at G;have ak:u.B=λ b=>(b<w.heap.size/\w0.B b)\/((w.heap.size<=b/\b≠l.heap.size/\b≠l.heap.size+1)/\¬S b):=q.c.u;have a0:cM W (λ b=>(a5 b/\b<s.heap.size)\/(A b/\¬S b)) (ae u):=λ b B ad=>by
    have av:¬cZ u b->∀id ver c,u id=some (ver,c,true)->¬dB c b:=λ aV i v c t z=>aV ⟨i,v,c,t,z⟩;obtain⟨⟨t,z⟩,_⟩| ⟨t,z⟩:=B
    refine⟨by rw[ak];exact .inl ⟨z,by rw[<-aR];exact t.1⟩,av λ B=>?_⟩;rcases q.j b B with⟨i,v,c,k1,ai⟩|k1
    exact t.2 i v c k1 ai;omega;exact⟨by rw[ak];exact .inr ⟨(q.k b t).1,z⟩,av λ B=>q.e b B t⟩
   have⟨dP,bm,be,bg,bb,bc⟩:=aiR hE Q (again:=λ d=>la body (kK K X) done (xs.drop (k+1)) d) q ac (iL.b.CJ ⟨b2 _,λ _ _ _=>rfl⟩ a0 es aY) G;refine⟨_,_,_,_,bb,bc.mono ?_⟩;rintro aL L⟨aB,a6,a7,a8,a9,ba⟩;refine⟨{h:=a7,g:=a8,f:=a9,d:=a6,e:=λ b ad B=>?_},ba⟩;obtain⟨⟨t,z⟩,_⟩|t:=B
   refine aB b ad (λ B=>?_) (by omega);rcases q.j b B with⟨i,v,c,k1,ai⟩|k1
   exact t.2 i v c k1 ai;omega;exact aB b ad (λ B=>q.e b B t) (by have:=(q.k b t).1;omega)) ⟨conc1,d,ab,h⟩;refine QE (aS.mono ?_);have fin:∀{A S:Nat->Prop}{u:bf}{st':au}{L:ee}{aE:yt}{aA:Option ef}(q:iE P w0 w l.heap.size (l.heap.size+1) (cZ conc) a fn ps.toArray ca cb aE aA A S u st' L)(ex:hg)(ar:∀d sl,bn st'.a d=some sl->sl.L= [])(ap:st'.c= [])(C:K ex st'=some M)(o:Obj),(∃V N aC,cT P V aC {a with defers:= [{target:= .collected l.heap.size,args:= #[]}]++a.defers} (L.putObj (l.heap.size+1) o)/\Y V N/\K ex aC=some N)/\({a with defers:= [{target:= .collected l.heap.size,args:= #[]}]++a.defers}:fu).tmps=a.tmps:=by intro A S u st' L aE aA q ex ar ap C o;have⟨bk,t,z⟩:=iE.t I q ar ap o;exact⟨⟨_,_,_,t,(ay _ _).2 ⟨by grind,((ay _ _).1 aT).2.f z⟩,C⟩,rfl⟩
 rintro aL L⟨⟨v,rfl⟩,aP⟩;obtain⟨A,S,u,r,q,G⟩| ⟨A,S,u,y,ah,r,q,G⟩:=aP;refine⟨none,_,run_endLoop q.g (by simp),?_⟩;rw[u1]at G;exact fin q _ (aq _) ((qw _).2.2.trans Q.c) G _;refine⟨some _,_,run_endLoop q.g (by simp),?_⟩;have:=fin q y.1.b (λ k sl C=>xS r C) ((qw r).2.2.trans (Q.f y ah)) G;cases a3:y.1<;>rw[a3]at this<;>first|exact wpIn_exit (this _)|exact wpIn_ret (this _)
def T1(e e2:Ty):aU->RM (List (e.b×e2.b))| .aE u d=> .nS (gN (t:=u) (t':= .dX e e2) d)|_=> .aa
abbrev GP(T:cf)(F:List Nat)(p q:Nat)(e e2:Ty)(d:cR T.b)(x:e.b×e2.b):=yO T F [p,q] [e,e2] d x
def qX(E:aq)(e e2:Ty)(g:hS)(T:cf)(X:List (dN×cf))(body:cR T.b->e.b×e2.b->(cR T.b->Option R)->iI R X->Option R):Ev R:=λ st K=>(ky E T st).bind λ d=>((c9 [] g).aB (T1 e e2)).jT (mk T d) λ xs=>la body (kK K X) (λ d=>K .normal (mk T d)) xs d
theorem Pv(hE:al P E)(D:H.c= []){e c p q}{body:cR T.b->e.b×c.b->(cR T.b->Option R)->iI R X->Option R}(G:qp P E [e,c] [p,q] ca cb Oa Ob T F X body)(r)(s:r.isSome=false)(i)(hI:oB P H false i)(K)(n)(st)(a)(w)(w0)(h:qX E e c g T X body st K=some n)(f:cT P w0 st a w)(Q:i w0 n):Code.wpIn (Fr r) 7 P (.rangeFunc g #[p,q] ca cb) (λ e a' w'=>(∃t o st',cT P t st' a' w'/\i t o/\K e st'=some o)/\a'.tmps=a.tmps) a w:=by
 have s:r=none:=by simp_all
 subst s;have⟨d,M,h⟩:=q7.1 h;have⟨conc,f⟩:=Aa hE f M;rw[RM.sH]at h;have⟨xs,V,h⟩:=q7.1 h;have⟨x,Y,m⟩:=bw V;have ag:=dQ f (cG _) Y;have O:∃vs,a.eval g=(Ty.dX e c).d vs/\aw P (.dX e c) w (ae conc) vs xs:=by
  cases x<;>simp[T1]at m<;>try(cases m;done)
  obtain⟨rfl,rfl⟩:=kC (RM.Ae m);trivial
 obtain⟨vs,N,fid,ah,rfl,L,U⟩:=O;refine M5 (es:= [e,c]) (ps:= [p,q]) (T:=T) (X:=X) (body:=body) (xs:=xs) hE D G hI h f Q N L (b2 _) (λ _ _=>rfl) ⟨rfl,rfl,rfl,λ _=>b2 _⟩ (A0:=λ _=>False) (λ _ h=>h.elim) λ u af C=>?_;have:=U u (λ b=>ae conc b/\b<w.heap.size) ⟨by omega,λ b _ j=>C b j⟩ λ b I j=> ⟨I,j⟩;intro l J ac k1 Z aa ab;exact this l J _ k1 Z (λ k x A S W ai v y⟨cs,ad,z,c,B⟩=>aa k x A S W _ v y ⟨_,z,_,_,rfl,c,_,rfl,B⟩) ab
theorem ahE(hE:al P E)(b:H.c= []){e e2 p q}{body:cR T.b->e.b×e2.b->(cR T.b->Option R)->iI R X->Option R}(d:qp P E [e,e2] [p,q] ca cb Oa Ob T F X body):eS P H false (.rangeFunc g #[p,q] ca cb) (qX E e e2 g T X body):=λ r j k c K l st a w w0 h i f=>hy (Pv hE b d r j _ c K _ _ a w _ h i f) λ _ _ _ h=>h.1
variable{w:World}{conc:bf}{st:au}
variable{ok:Nat->Prop}{n:Nat}{fn:Func}{α:Type}{vs:List Value}{f:FuncId}{v:Value}{cs:List Value}{w1:World}{N:Nat}{bs:List Nat}{ts:List Ty}{c:Code}{r:ax ts}
theorem aaG{T:Nat}{u}(h:(Instr.loadAt T v).run P w= .ok u w):(do loadVar T (<-asAddr v):Sem df).run P w= .ok u w:=by cases v with
 |pointer p=>cases p with|none=>trivial|some q=>exact h
 |_=>trivial
def vY(a:fu):y0->Sem df| .tmp t=>pure (a.tmps.getD t gE)| .cell c t=>do loadVar t (<-asAddr (a.tmps.getD c gE))
theorem EK(hE:al P E)(h:aD P w0 conc st a w):{n:List y0}->{l:List bQ}->(po E n).af st=some l->∃vs,(n.mapM (vY a)).run P w= .ok vs w/\bU (di P w conc (ae conc)) l vs/\vs.length=n.length
 | [],l,d=>by cases d;exact⟨[],by simp,trivial,rfl⟩| .tmp t::r,l,d=>by
  have⟨s,f,g⟩:=bw d;have⟨m,i,j⟩:=bw g;cases j;have:=jJ h (cG _) f;have⟨vs,o,e,p⟩:=EK hE h i;refine⟨a.eval (.tmp t)::vs,?_,⟨this,e⟩,by simp[p]⟩;have k:a.eval (.tmp t)=a.tmps.getD t undef:=by simp[ko]
  simp[w6,vY,k,o]| .cell c T::r,l,d=>by simp[po]at d;cases hT:E.b T with|none=>rw[hT]at d;cases d|some t=>
   rw[hT]at d;have⟨b,h0,d⟩:=bw d;have⟨s,f,g⟩:=bw d;have⟨m,i,j⟩:=bw g;cases j;have⟨u,v,x⟩:=Rr hE h hT f (dQ h (cG _) h0);have q:=aaG v;have⟨vs,o,e,p⟩:=EK hE h i;refine⟨u::vs,?_,⟨x,e⟩,by grind⟩;have k:a.eval (.tmp c)=a.tmps.getD c undef:=by rfl
   rw[k]at q;have:(vY a (.cell c T)).run P w= .ok u w:=q;simp_all
theorem JP(h:(fn.results.toList.mapM (vY a)).run P w= .ok vs w):(lk fn a.tmps).run P w= .ok (if vs.length=1 then vs.headD gE else .tuple vs.toArray) w:=by
 unfold lk;have e:∀g,(∀r,g r=vY a r)->fn.results.mapM g=Functor.map List.toArray (fn.results.toList.mapM (vY a)):=by intro g b;rw[Array.mapM_eq_mapM_toList,(funext b)]
 rw[e _ (λ r=>by rfl)];simp only[map_eq_pure_bind,bind_assoc,pure_bind];rw[dk,h]
 match vs with| []=>rfl| [v]=>rfl|v::u::r=>simp
theorem CC:(l:List aU)->(n d:Nat)->{sl:fX}->bn (yA n l) d=some sl->∃i x,d=n+i/\l[i]?=some x/\sl= ⟨[],true,.v x⟩| [],n,d,sl,h=>by cases h|x::r,n,d,sl,h=>by simp[yA,bn,gF]at h;by_cases b:n=d;simp_all;simp[b]at h;have⟨i,y,c,e,a⟩:=CC r (n+1) d h;exact⟨i+1,y,by omega,by trivial,a⟩
theorem CS:(ts:List Ty)->(x:ax ts)->(mh ts x).length=ts.length| [],_=>rfl| [t],x=>rfl|t::u::ts,(x,y)=>by simp[mh,CS (u::ts) y]
theorem GA:(ts:List Ty)->{vs:List df}->{x:ax ts}->oO P w ok ts vs x->bU (bN P w conc ok) (pA (mh ts x)) vs| [],vs,x,h=>by cases h;trivial| [t],vs,x,⟨v,a,b⟩=>by subst a;trivial|t::u::ts,vs,x,⟨v,r,a,b,h3⟩=>by subst a;exact⟨b,GA _ h3⟩
theorem Ix:∀l,(pA l).length=l.length| []=>rfl|a::l=>by cases a<;>simp[pA,Ix l]
theorem Kr(ok)(w)(c)(l):sQ ⟨w,ft ok w,λ _=>False,[],c,l,w.heap.size⟩ where
 i:=λ b a=> .inr a
 e:=λ b a=>a.elim
 f:=(λ _ h=>(by cases h))
 h:=jA
 g:=b2 _
theorem L8{ins caps x y}(M:ins.length+caps.length<=N)(I:fe P w ok ins vs x)(J:oO P w ok caps cs y)(K):cT P ⟨w,ft ok w,λ _=>False,[],K,0,w.heap.size⟩ (uN N ins caps x y) {tmps:=(vs++cs).toArray++k8 (N- (vs++cs).toArray.size) gE,defers:= []} w:=by let conc:bf:= ⟨λ _=>none,ft ok w,0⟩;have B:∀b,ok b->ae conc b:=λ b c=> ⟨.inl c,(λ _ _ _ h=>(by cases h))⟩;have z:bU (bN P w conc (ae conc)) (mh ins x) vs:=(HA (conc:=conc) ins I).e λ a b h=>bN.b ⟨b2 _,λ _ _ _=>rfl⟩ (λ b c _=>B b c) (fU.b _) a h;have A:bU (bN P w conc (ae conc)) (pA (mh caps y)) cs:=(GA (conc:=conc) caps J).e λ a b h=>bN.b ⟨b2 _,λ _ _ _=>rfl⟩ (λ b c _=>B b c) (fU.b _) a h;have G:=z.b;have H:=A.b;rw[CS]at G;rw[Ix,CS]at H;refine⟨conc,{g:=rfl,n:=?_,m:=?_,k:=?_,q:=(λ id ver o h=>(by cases h)),r:=λ _ _=>rfl,t:=(λ _ _ _ _ _ _ _ h=>(by cases h)),f:=(λ _ _ _ _ h=>(by cases h)),e:= ⟨rfl,rfl,⟨rfl,by grind⟩,b2 _,λ _ _ _=>rfl⟩,u:=rfl,x:=rfl,h:=Kr _ w _ 0,l:=(λ _ h=>(by cases h))}⟩;grind[uN];intro d sl j p hp;have⟨i,a,_,_,e⟩:=CC _ _ _ j;grind;intro d sl j;have⟨i,a,s,C,D⟩:=CC _ _ _ j;rw[hv]at s;subst s;have⟨v,L,E⟩:=bU.h d a (z.d A) C;refine⟨v,?_,?_⟩;grind;rw[D];exact⟨λ _=> ⟨rfl,E⟩,absurd (cG _)⟩
def AX(N:Nat)(caps:List Ty)(y:ax caps):au:={N,d:= [],a:=(0,⟨[],true,.v .ku⟩)::yA 1 (pA (mh caps y)),b:= [],c:= []}
theorem abf{caps y}(l)(I:1+caps.length<=N)(F:oO P w ok caps cs y)(G):cT P ⟨w,ft ok w,λ _=>False,[],G,l,w.heap.size⟩ (AX N caps y) {tmps:=(#[np (.yield l) #[] #[]]++cs.toArray)++k8 (N- (#[np (.yield l) #[] #[]]++cs.toArray).size) gE,defers:= []} w:=by
 let conc:bf:= ⟨λ _=>none,ft ok w,l⟩;have E:∀b,ok b->ae conc b:=λ b c=> ⟨.inl c,(λ _ _ _ h=>(by cases h))⟩;have p:bU (bN P w conc (ae conc)) (pA (mh caps y)) cs:=(GA (conc:=conc) caps F).e λ a b h=>bN.b ⟨b2 _,λ _ _ _=>rfl⟩ (λ b c _=>E b c) (fU.b _) a h;have D:=p.b;rw[Ix,CS]at D;have C:∀d sl,bn (AX N caps y).a d=some sl->(d=0/\sl= ⟨[],true,.v .ku⟩)\/∃i a,d=1+i/\(pA (mh caps y))[i]?=some a/\sl= ⟨[],true,.v a⟩:=by grind[AX,bn,gF,CC]
 refine⟨conc,{g:=rfl,n:=?_,m:=?_,k:=?_,q:=(λ id ver o h=>(by cases h)),r:=λ _ _=>rfl,t:=(λ _ _ _ _ _ _ _ h=>(by cases h)),f:=(λ _ _ _ _ h=>(by cases h)),e:= ⟨rfl,rfl,⟨rfl,by grind⟩,b2 _,λ _ _ _=>rfl⟩,u:=rfl,x:=rfl,h:=Kr _ w _ l,l:=(λ _ h=>(by cases h))}⟩;grind[AX];grind;intro d sl B;rcases C d sl B with⟨j,e⟩| ⟨i,a,j,s,z⟩;subst j e;refine⟨.func (.yield l) _ _,?_,λ _=> ⟨rfl,rfl⟩,absurd (cG _)⟩;grind;have⟨v,H,A⟩:=bU.h i a p s;refine⟨v,?_,?_⟩;grind[eQ,nB,Array.getElem?_append_right];rw[z];exact⟨λ _=> ⟨rfl,A⟩,absurd (cG _)⟩
theorem Su:(ts:List Ty)->{vs:List df}->{x:ax ts}->fe P w ok ts vs x->vs.length=ts.length| [],vs,x,h=>by cases h;rfl| [t],vs,x,⟨cs,a,b⟩=>by grind|t::u::ts,vs,x,⟨cs,r,a,b,h3⟩=>by subst a;simp[Su (u::ts) h3]
theorem IZ{ok'}(c:cM w ok ok'):(ts:List Ty)->{vs:List df}->{x:ax ts}->fe P w ok ts vs x->fe P w ok' ts vs x| [],vs,x,h=>h| [t],vs,x,⟨cs,a,b⟩=> ⟨cs,a,b.c c⟩|t::u::ts,vs,x,⟨cs,r,a,b,h3⟩=> ⟨cs,r,a,b.c c,IZ c (u::ts) h3⟩
theorem Vr:(ts:List Ty)->{vs:List df}->{x:ax ts}->fe P w ok ts vs x->iL P w ok ts (if vs.length=1 then vs.headD gE else .tuple vs.toArray) x| [],vs,x,h=>by cases h;rfl| [t],vs,x,⟨cs,a,b⟩=>by subst a;exact⟨_,rfl,b⟩|t::u::ts,vs,x,h=>by have c:=Su _ h;simp[l8]at c;rw[if_neg (by omega)];exact⟨_,rfl,h⟩
theorem kP.b{n ok ok'}(j:cM w ok ok')(t){vs d bs}(h:kP P n w ok t vs d bs):kP P n w ok' t vs d bs:=by induction t generalizing vs bs with|aH e=>obtain h| ⟨b,off,cap,cs,T,c,f,g,m,o,p,q,r⟩:=h;exact .inl h;exact .inr ⟨b,_,_,_,T,c,f,g,m,o,p,q,λ i x v=>(r i x v).c j⟩|aF a b s u=>have⟨k,l,c,f,g⟩:=h;exact⟨k,l,c,s f,u g⟩|_=>exact⟨h.1,h.2.c j⟩
theorem kP.d{ok'}(j:cM w ok ok')(u:∀b,n<=b->ok' b)(t){d}(h:kP P n w ok t vs d bs):aw P t w ok' vs d:=by induction t generalizing vs bs with|aH e=>obtain⟨rfl,rfl,_⟩| ⟨b,off,cap,cs,T,f,g,c,k,l,m,o,p⟩:=h;exact aw.h;exact⟨_,_,f,l,.inr ⟨b,_,_,T,_,rfl,u b c,k,o,.inr m,λ i y s=>(p i y s).c j⟩⟩|aF a b q r=>have⟨v,x,f,g,c⟩:=h;exact⟨q g,r c⟩|_=>exact h.2.c j
def rX(conc:bf)(id:Nat):=(conc id).bind λ p=>oi p.2.1
theorem H6{t}(o:∀w ok vs d bs,kP P n w ok t vs d bs↔bs= []/\aw P t w ok vs d){x r us q}(a:(zV t x r).af st=some q)(i:t.a=1)(hp:t.c=false)(b:bU (bN P w conc (ae conc)) (x::r) us):∃vs g bs,us=vs++g/\bU (bN P w conc (ae conc)) q.2 g/\vs.length=t.a/\kP P n w (ae conc) t vs q.1.1 bs/\bs=q.1.2.filterMap (rX conc)/\∀id∈q.1.2,∃cv c,conc id=some (cv,c,true):=by
 unfold zV at a;split at a;split at a;rename_i y j;cases a;obtain⟨e,m⟩:=kC j;subst e
 match us,b with
 |v::us,b=>
  obtain⟨k,l,h⟩:=b.1;have f:=h.d;rw[i]at f
  match k,f with
  | [z],_=>
   have:v=z:=by grind[Ty.d]
   subst this;exact⟨[v],_,_,rfl,b.2,by omega,by grind,rfl,by grind⟩
 trivial;trivial
theorem FZ(h:aD P w0 conc st a w)(j:∀b,cZ conc b->n<=b):(t:Ty)->{l:List aU}->{us:List df}->{q:(t.b×List Nat)×List aU}->(vt t l).af st=some q->bU (bN P w conc (ae conc)) l us->∃vs u bs,us=vs++u/\bU (bN P w conc (ae conc)) q.2 u/\vs.length=t.a/\kP P n w (ae conc) t vs q.1.1 bs/\bs=q.1.2.filterMap (rX conc)/\∀id∈q.1.2,∃cv c,conc id=some (cv,c,true)
 | .aH e,.dj id ver::r,v::us,q,d,f=>by
  simp[vt,bV]at d;split at d
  ·rename_i cv S l G;have⟨i,g⟩:=dE d;have:=cU i;subst this;split at g
   ·rename_i x m;cases g;have⟨F,m⟩:=kC m;cases F;subst m;have⟨c,ad,k1,o⟩:=pW h G;have⟨R,c',af,m1,m2,ac,J⟩:=f.1;rw[k1]at m1;cases m1;have H:=J rfl;subst H;obtain⟨rfl,o⟩:=o;obtain⟨p,s⟩| ⟨b,off,cap,cs,T,p,s,K,L,M,N⟩:=o
    ·refine⟨[v],_,[],rfl,f.2,rfl,.inl (by grind),?_,?_⟩;all_goals grind[rX,oi,hM]
    ·refine⟨[v],_,_,rfl,f.2,rfl,.inr ⟨b,_,_,_,T,by rw[p],rfl,j b ⟨_,_,v,k1,by rw[p];rfl⟩,s,K,L,M,N⟩,?_,?_⟩;all_goals grind[rX,oi,hM]
   trivial
  trivial| .aH e,.js::r,v::us,q,d,f=>by cases d;have I:v= .slice none 0 0:=f.1;subst I;exact⟨[_],_,_,rfl,f.2,rfl,.inl (by grind),rfl,by grind⟩| .aF x y,l,us,q,d,f=>by simp[vt]at d;have⟨ag,i,d⟩:=bw d;have⟨p2,g,d⟩:=bw d;cases d;have⟨O,ah,z,U,B,C,V,W,X⟩:=FZ h j x i f;have⟨Q,ai,A,Y,D,E,Z,aa,ab⟩:=FZ h j y g B;refine⟨O++Q,_,_,by grind,D,by simp[Ty.a,C,E],⟨z,A,rfl,?_,?_⟩,by grind,?_⟩;all_goals grind| .ay k,x::r,us,q,d,f=>H6 (λ _ _ _ _ _=>b0) d rfl rfl f| .aO,x::r,us,q,d,f=>H6 (λ _ _ _ _ _=>b0) d rfl rfl f| .aJ,x::r,us,q,d,f=>H6 (λ _ _ _ _ _=>b0) d rfl rfl f| .aH e,.dj id ver::r,[],q,d,f=>f.elim| .aH e,.js::r,[],q,d,f=>f.elim| .aH e,.aE _ _::_,_,_,d,_| .aH e,.dx _ _ _::_,_,_,d,_| .aH e,.gB _ _::_,_,_,d,_| .aH e,.rD _ _ _ _::_,_,_,d,_| .aH e,.rN _::_,_,_,d,_| .aH e,.nX::_,_,_,d,_| .aH e,.ku::_,_,_,d,_=>by trivial| .ay _,[],_,_,d,_| .aO,[],_,_,d,_| .aJ,[],_,_,d,_| .aH _,[],_,_,d,_=>by trivial| .dP _ _,l,_,_,d,_| .dX _ _,l,_,_,d,_| .cO _ _,l,_,_,d,_| .ec _,l,_,_,d,_=>by trivial
theorem Mx:{l:List Nat}->DZ l=true->l.Nodup| [],_=>jA|i::r,h=>by simp[DZ,dr,hQ,tc]at h;refine k7.2 ⟨λ a=>h.1 i a (by simp),Mx h.2⟩
theorem Mu(h:aD P w0 conc st a w):{l:List Nat}->l.Nodup->(∀id∈l,∃cv c,conc id=some (cv,c,true))->(l.filterMap (rX conc)).Nodup| [],_,_=>jA|i::r,hn,ho=>by rw[k7]at hn;have o:=Mu h hn.2 λ id k=>ho id (hh _ k);rw[List.filterMap_cons];split;omega;rename_i b d;refine k7.2 ⟨λ n=>?_,o⟩;have⟨j,m,e⟩:=sy.1 n;have⟨cv,c,f⟩:=ho i hD;have⟨p,c',g⟩:=ho j (hh _ m);simp[rX,f,gk]at d;simp[rX,g,gk]at e;have:=h.t i j _ _ _ _ b f g (HE d) (HE e);grind
theorem abl{n ok}(h:aD P w0 conc st a w)(z:∀b,cZ conc b->n<=b)(N:∀b,n<=b->ok b)(O:∀b,conc.B b->ok b):(o:List Ty)->{l:List bQ}->{vs:List df}->{r:ax o}->(zH o l).af st=some r->bU (di P w conc (ae conc)) l vs->∃v,vs= [v]/\iL P w ok o v r/\kz P n w conc.B o v r:=by
 intro o l vs r f d;unfold zH at f;split at f;rename_i e id ver
 match vs,d with
 | [v],d=>
  simp[bV]at f;split at f;rename_i cv aj l Y;have⟨t,j⟩:=dE f;have:=cU t;subst this;split at j;rename_i x A;cases j;have⟨U,A⟩:=kC A;have⟨c,al,k1,s⟩:=pW h Y;have⟨ai,c',am,m1,m2,ak,af⟩:=d.1;rw[k1]at m1;cases m1;have ac:=af rfl;subst ac;cases U;subst A;obtain⟨rfl,s⟩:=s;refine⟨v,rfl,?_,?_⟩;refine⟨[v],rfl,?_⟩;obtain⟨g,m⟩| ⟨b,off,cap,cs,T,g,m,B,C,D,E⟩:=s;refine⟨none,0,?_,?_,.inl rfl⟩;rw[g,m];rfl;rw[m];exact b2 _;refine⟨some ⟨b,off,none⟩,cap,by rw[g],B,.inr ⟨b,off,cs,T,_,rfl,?_,m,?_,.inr C,λ i y u=>?_⟩⟩;exact N b (z b ⟨id,cv,v,k1,by rw[g];rfl⟩);exact D;exact(E i y u).c λ b k _=>O b k.1;obtain q| ⟨b,off,cap,cs,T,g,m,B,C,D,E⟩:=s;exact .inl q;refine .inr ⟨b,off,cap,cs,T,g,z b ⟨id,cv,v,k1,by rw[g];rfl⟩,m,B,C,D,λ i y u=>(E i y u).c λ ah J _=> ⟨J.1,λ e=>?_⟩⟩;subst e;exact J.2 id _ v k1 (by rw[g];rfl);trivial;trivial| [],d=>trivial|_::_::_,d=>exact d.2.elim
 match vs,d with| [v],d=>cases f;have ad:v= .slice none 0 0:=d.1;subst ad;exact⟨_,rfl,⟨_,rfl,aw.h⟩,.inl ⟨rfl,rfl⟩⟩| [],d=>exact d.elim|_::_::_,d=>exact d.2.elim
 rename_i x y l
 match vs,d with
 | [v],d=>
  have⟨q,t,j⟩:=bw f;have⟨us,Z,aa,ab⟩:=d.1;have⟨cs,ag,bs,F,p,R,G,H,I⟩:=FZ h z _ t ab;split at j;rename_i X;have⟨W,S⟩:=dE j;cases S;rw[X]at p
  match ag,p with
  | [],_=>
   rw[ih]at F;subst F;have Q:v=(Ty.aF x y).d us:=by rw[Z];simp[Ty.d,Ty.c]
   refine⟨v,rfl,⟨us,Q,G.d (λ b k _=>O b k.1) N⟩,us,bs,Q,aa,?_,R,G.b λ b k _=> ⟨k.1,λ M=>?_⟩⟩;rw[H];exact Mu h (Mx W) I;rw[H]at M;have⟨id,V,K⟩:=sy.1 M;have⟨cv,c,L⟩:=I id V;simp[rX,L,gk]at K;exact k.2 id cv c L (HE K)|_::_,p=>exact p.elim
  cases j| [],d=>exact d.elim|_::_::_,d=>exact d.2.elim
 cases f
theorem kz.b{ok'}(k:cM w ok ok')(h:kz P n w ok ts v r):kz P n w ok' ts v r:=by unfold kz at h⊢;split at h;obtain h| ⟨b,off,cap,cs,T,c,d,e,f,g,m,o⟩:=h;exact .inl h;exact .inr ⟨b,_,_,_,T,c,d,e,f,g,m,λ i x p=>(o i x p).c λ l a j=> ⟨k _ a.1 j,a.2⟩⟩;have⟨vs,bs,c,d,e,f,g⟩:=h;exact⟨_,_,c,d,e,f,g.b λ l a j=> ⟨k _ a.1 j,a.2⟩⟩;omega
theorem agJ{ok'}(a:cM w ok ok')(h:iL P w ok ts v r):iL P w ok' ts v r:=iL.b ⟨b2 _,λ _ _ _=>rfl⟩ a _ h
theorem aD.O{s}(h:aD P s conc st a w)(r)(b:sQ {s with f:=r}):aD P {s with f:=r} conc st {a with defers:=r} w:={g:=rfl,n:=h.n,m:=h.m,k:=h.k,q:=h.q,r:=h.r,t:=h.t,f:=h.f,e:= ⟨h.e.i,h.e.g,h.e.f,h.e.d,h.e.e⟩,u:=h.u,x:=h.x,h:=b,l:=h.l}
theorem aeH{n s}(A:jz n s)(Q:n.d=n.w.heap.size)(h:aD P s conc st a w){d r}(E:a.defers=d::r):∃D,d={target:= .collected D,args:= #[]}/\(Instr.takeDeferred D).run P w= .ok [] (w.putObj D (.deferred none))/\∃s',jz n s'/\cT P s' st {a with defers:=r} (w.putObj D (.deferred none)):=by
 have G:s.f=d::r:=h.g.symm.trans E;have⟨D,e,z,u,N⟩:=h.h.f d (by grind);have C:w.heap[D]?=some (.deferred (some [])):=(h.e.e D ((eL.1 z).1) λ g=>u (h.h.e D g)).trans z;have x:=h.h.h;rw[G,k7]at x;have y:∀b,b≠D->(w.putObj D (.deferred none)).heap[b]?=w.heap[b]?:=λ b l=>lA l;have R:(w.putObj D (.deferred none)).heap.size=w.heap.size:=by simp
 have O:=h.e.d;refine⟨D,e,run_takeDeferred C,⟨w.putObj D (.deferred none),s.B,cZ conc,r,s.b,s.e,s.d⟩,?_,?_⟩;have k:=A.f h.C.h;exact{
  j:=k.j
  g:=k.g
  c:= ⟨k.c.d,k.c.e⟩
  d:=by
   have:=k.d;show n.w.heap.size<=(w.putObj D _).heap.size;have u:n.w.heap.size<=w.heap.size:=this;omega
  e:=λ b l J=>(y b λ g=>by
   have:=A.h;omega).trans (k.e b l J)
  M:=k.M
  q:=k.q
  p:=k.p
  h:=k.h
  m:=k.m}
 have K:aD P {s with f:=r} conc st {a with defers:=r} w:=h.O r {
  i:=h.h.i
  e:=h.h.e
  f:=λ t F=>h.h.f t (by grind)
  h:=x.2
  g:=h.h.g}
 refine⟨_,aD.H K _ (by omega) (λ b _ l=>y b λ g=>u (by rw[<-g,<-h.u];omega)) (λ b _ l=>by rw[<-h.u];omega) rfl rfl (λ b l=>l) rfl rfl rfl {
  i:=λ b l=>h.h.i b (by
   grind)
  e:=λ b⟨i,v,c,g1,B⟩=>h.z g1 B
  f:=λ t F=>by
   obtain⟨o,e',k1,k2,L⟩:=h.h.f t (by grind);refine⟨o,e',(y o λ g=>?_).trans ((h.e.e o ((eL.1 k1).1) λ g=>k2 (h.h.e o g)).trans k1),k2,L⟩
   grind
  h:=x.2
  g:=by
   grind}⟩
theorem Gp(hE:al P E){fn f fresh ex j ok w1 O n}:∀A{s:bC}{a:fu}{w:ee},a.defers=A->jz ⟨w1,ft ok w1,λ _=>False,[],O,0,w1.heap.size⟩ s->cT P s st a w->xj E fresh fn.results.toList f ex st=some j->LeavesInM j1 n P fn a.tmps (λ e w'=>∃v,e= .returned v/\cm w1 w'/\iL P w' (ft ok w1) f v j/\(fresh=true->kz P w1.heap.size w' (ft ok w1) f v j)) A .returning w
 |d::r,s,a,w,B,p,⟨conc,i⟩,h=>by have⟨D,e,N,s',J,K⟩:=aeH p rfl i B;subst e;exact⟨by simp,.inl ⟨D,_,rfl,N,Gp hE r (a:={a with defers:=r}) rfl J K h⟩⟩| [],s,a,w,B,p,⟨conc,i⟩,h=>by
  have m:=p.f i.C.h;have C:cm w1 w:= ⟨m.j,m.g,m.c,m.d,λ b c=>m.e b c id⟩;have z:cM w conc.B (ft ok w1):=λ b c _=>by rw[i.u]at c;by_cases o:b<w1.heap.size;exact p.p b o c;exact .inr (by omega)
  have L:∀b,cZ conc b->w1.heap.size<=b:=λ b c=>by rcases m.M b c with g|g;exact g.elim;exact g
  have key:(bif fresh then((po E fn.results.toList).aB λ l=>zH f l).jT st some else((po E fn.results.toList).aB λ l=>rl E f l).jT st λ x=>some x.1)=some j->∃v,(lk fn a.tmps).run P w= .ok v w/\∃v',l4 v= .returned v'/\cm w1 w/\iL P w (ft ok w1) f v' j/\(fresh=true->kz P w1.heap.size w (ft ok w1) f v' j):=by intro h;cases fresh with
   |true=>simp[cond_true]at h;rw[RM.sH]at h;cases k:((po E fn.results.toList).aB λ l=>zH f l).af st with|none=>rw[k]at h;cases h|some x=>
     rw[k]at h;cases h;have⟨l,u,y⟩:=bw k;have⟨vs,q,t,F⟩:=EK hE i u;have⟨v,G,H,I⟩:=abl (ok:=λ b=>conc.B b\/w1.heap.size<=b) i L (λ b c=> .inr c) (λ b c=> .inl c) f y t;refine⟨_,JP q,v,?_,C,agJ (λ b c o=>?_) H,λ _=>I.b z⟩;rw[G];rfl
     obtain c|c:=c;exact z b c o;exact .inr c|false=>simp[cond_false]at h;rw[RM.sH]at h;cases k:((po E fn.results.toList).aB λ l=>rl E f l).af st with|none=>grind|some x=>rw[k]at h;cases h;have⟨l,u,y⟩:=bw k;have⟨vs,q,t,F⟩:=EK hE i u;have M:fe P w (ft ok w1) f vs x.1:=IZ (λ b c o=>z b c.1 o) f ((DF hE i f y t (aV x.2) λ _ h=>h).2);exact⟨_,JP q,_,rfl,C,Vr _ M,by grind⟩
  cases ex<;>simp[xj]at h<;>first|exact key h|cases h
noncomputable def oI(E:aq)(fn:qz)(ins caps a:List Ty)(fresh:Bool)(O:List (Ev (ax a)))(x:ax ins)(y:ax caps):=match fn.body with|some c=>bif hJ (ins.length+caps.length) fn.ntmps then dv E bT.b c O (uN fn.ntmps ins caps x y) (xj E fresh fn.results.toList a)else none|none=>none
theorem TO(hE:al P E)(m:P.funcs[f]?=some fn)(A:(fn.name== "runtime.NumGoroutine")=false)(v:fn.body=some c) {ins caps a} {g} {fresh} {ev} (z:eS P (bT.b (R:=ax a)) false c ev) (C:hJ (ins.length+caps.length) fn.ntmps=true) (heq:∀x y,ev (uN fn.ntmps ins caps x y) (xj E fresh fn.results.toList a)=g x y):jf P f ⟨ins,caps,a,g,fresh⟩:=by
 refine⟨⟨_,m,A,by grind⟩,?_⟩;intro w ok vs cs x y r p q j;dsimp only at p q j;rw[<-heq]at j;let t:bC:= ⟨w,ft ok w,λ _=>False,[],#[],0,w.heap.size⟩;refine pS.1 (rm (n:=7) m v trivial (hy (z _ rfl _ ({
  d:=λ s s' b l i=> ⟨l.1,l.2.f i.h⟩
  c:=λ h=>absurd rfl h
  g:=λ _ _=> ⟨t,r,λ _ _=>b0⟩
  f:=λ h=>absurd rfl h}) _ _ _ _ _ _ j (L8 (by simp_all) p q _) ⟨rfl,jz.k _⟩) ?_));rintro e a' w'⟨s',B,st',o,⟨rfl,i⟩,k⟩;cases e with|normal=>exact Gp hE _ rfl i o k|ret=>exact Gp (ex:= .ret) hE _ rfl i o k|_=>trivial
theorem acR(hE:al P E)(i:P.follows .mixedOrders=true){f:Go.FuncId}{fn}(d:P.funcs[f]?=some fn)(e:(fn.name== "runtime.NumGoroutine")=false){ins caps a g fresh O}(h:∀c,fn.body=some c->nN P (bT.b (R:=ax a)) false c O)(heq:∀x y,oI E fn ins caps a fresh O x y=g x y)(j:fn.body.isSome=true):jf P f ⟨ins,caps,a,g,fresh⟩:=by have⟨c,b⟩:=q3.1 j;unfold oI at heq;cases k:hJ (ins.length+caps.length) fn.ntmps with|true=>exact TO hE d e b (ji hE i c O (h c b)) k λ x y=>by grind|false=>refine⟨⟨fn,d,e,by grind⟩,λ w ok vs cs x y r m n l=>?_⟩;grind
def Cb:hg->au->Option (List α)| .normal,_=>some []| .ret,_=>some []|_,_=>none
def jP(tys:List Ty):bT (List (ax tys)):= ⟨tys,λ x A B=>tG x A B⟩
noncomputable def Bb(E:aq)(fn:qz)(tys caps:List Ty)(O:List (Ev (List (ax tys))))(y:ax caps):=match fn.body with|some c=>bif fn.results.toList.isEmpty&&hJ (1+caps.length) fn.ntmps then dv E (jP tys) c O (AX fn.ntmps caps y) Cb else none|none=>none
theorem adT{b x}{y:α}(h:(bif b then x else none)=some y):b=true/\x=some y:=by grind
theorem ahK{α x A B}{a:List α}(h:tG x A B=some a):∃ys,A=some ys/\B=some []/\a=x::ys:=by unfold tG at h;cases A with|none=>cases h|some ys=>cases B with|none=>cases h|some b=>grind
def xX(l:Nat)(w1:ee)(ok:Nat->Prop)(xs:List α)(J:Nat->(Nat->Prop)->(Nat->Prop)->ee->Prop)(c:(Nat->Prop)->(Nat->Prop)->ee->Prop)(s:bC)(a:List α):=s.f= []/\s.e=l/\w1.heap.size<=s.w.heap.size/\∃A,(∀b,A b->b<s.w.heap.size)/\(∀b,s.M b->A b)/\(∀b,b<s.w.heap.size->s.B b->ok b\/A b)/\((∃k,k<=xs.length/\xs.drop k=a/\J k A s.M s.w)\/(a= []/\c A s.M s.w))
theorem xX.b{l xs J p}(E:∀k A S W A' n o,J k A S W->wm A S W A' n o->J k A' n o)(F:∀A S W A' n o,p A S W->wm A S W A' n o->p A' n o){s s'}{q:List α}(h:xX l w1 ok xs J p s q)(c:lU s s'):xX l w1 ok xs J p s' q:=by
 have⟨r,t,B,A,C,u,v,D⟩:=h;have z:=c.e;have y:wm A s.M s.w (λ b=>A b\/(s.w.heap.size<=b/\b<s'.w.heap.size)) s'.M s'.w:={
  l:=c.k
  g:=c.f
  e:=c.c
  f:=z
  d:=c.d
  m:=λ b a=> .inl a
  j:=λ b a=>a.imp id λ g=>g.1
  i:=λ b a=>by grind
  k:=λ b a=>(c.M b a).imp id λ g=>g.1
  h:=λ b a=>(c.M b a).imp (u b) id};refine⟨c.q.trans r,c.m.trans t,by omega,_,λ b a=>?_,y.h,λ b a w=>?_,?_⟩
 grind
 by_cases x:b<s.w.heap.size;exact(v b x ((c.B b).1 w)).imp id .inl;omega;grind
theorem Q2{tys}(ac:tys≠[]){AR}(K:∀W o m x,fe P W o tys m x->AR W o m.toArray x) (Y:P.funcs[f]?=some fn) (R:fn.body=some c) (ai:fn.results.toList= []) {ev} (X:eS P (jP tys) false c ev) {A0} {xs} {xa} (I:∀b,A0 b->b<w1.heap.size) (V:∀l,cT P ⟨w1,λ b=>(ok b\/A0 b)\/w1.heap.size<=b,A0,[],#[],l,w1.heap.size⟩ xa {tmps:=(#[np (.yield l) #[] #[]]++cs.toArray)++k8 (fn.ntmps- (#[np (.yield l) #[] #[]]++cs.toArray).size) gE,defers:= []} w1) (ad:ev xa Cb=some xs):ET P AR f cs.toArray A0 w1 ok xs:=by
 intro l J r F G N h0;have M:oB P (jP tys) false (xX l w1 (λ b=>ok b/\b<w1.heap.size) xs J r):={
  d:=λ s s' C h ab=>h.b F G ab
  c:=λ _ s C h=>h.1
  g:=λ _ h=>absurd h ac
  f:=λ _ s C x A B m q ah U Q=>by
   obtain⟨ys,rfl,rfl,rfl⟩:=ahK U;have⟨h1,h2,h3,A,h4,h5,h6,w⟩:=q;obtain⟨k,q1,q2,z⟩| ⟨q1,_⟩:=w;have hlt:k<xs.length:=by
    grind
   rw[kH hlt]at q2;have q2:=List.cons.inj q2;have aa:xs[k]?=some x:=by rw[lB hlt];exact congrArg _ q2.1
   have⟨dP,tm1,as1,bd1,y1,ae⟩:=N k x A s.M s.w m.toArray z aa (K _ _ _ _ (IZ (λ b i hlt=>(h6 b hlt i.1).imp id λ g=> ⟨g,i.2⟩) tys Q));rw[h2];refine⟨_,_,_,_,y1,ae.mono ?_⟩;rintro e t⟨k1,j⟩;have y:=k1.d;have hA':∀b,A b->b<t.heap.size:=λ b i=>hs (h4 b i) y;have hB':∀b,b<t.heap.size->(s.g t).B b->(ok b/\b<w1.heap.size)\/A b:=λ b i p=>by
    obtain⟨af,ag⟩|g:=p
    all_goals grind
   refine⟨⟨k1.h,k1.g,k1.f,k1.d,λ b i p=>k1.e b i (h6 b i p)⟩,?_⟩;obtain⟨rfl,j⟩| ⟨rfl,j⟩:=j
   exact⟨_,rfl,_,rfl,h1,h2,et h3 y,A,hA',h5,hB',.inl ⟨_,hlt,q2.2,j⟩⟩;exact⟨_,rfl,_,rfl,h1,h2,et h3 y,A,hA',h5,hB',.inr ⟨rfl,j⟩⟩
   trivial};refine pS.1 (callsIn_of_wp (n:=7) Y R trivial (hy (X none rfl _ M _ _ _ _ _ _ ad (V l) ⟨rfl,rfl,b2 _,A0,I,(λ _ h=>h),λ b i p=>?_,.inl ⟨0,y3 _,rfl,h0⟩⟩) ?_));grind;rintro e a' w'⟨s',D,st',⟨conc,H⟩,q,E⟩;have key:D= []->a'.defers= []/\∃v,(lk fn a'.tmps).run P w'= .ok v w'/\((∃u,l4 v= .returned u)/\((∃A S,J xs.length A S w')\/∃A S,r A S w')):=by
  intro O;subst O;refine⟨H.g.trans q.1,_,JP (a:=a') (vs:= []) (by simp_all),⟨_,rfl⟩,?_⟩;have⟨h1,h2,h3,A,h4,h5,h6,w⟩:=q.b F G H.C;obtain⟨k,q1,q2,z⟩| ⟨_,q2⟩:=w;have:k=xs.length:=by
   grind[List.drop_eq_nil_iff]
  subst this;exact .inl ⟨_,_,z⟩;exact .inr ⟨_,_,q2⟩
 cases e with|normal=>exact key (by cases E;rfl)|ret=>exact key (by cases E;rfl)|_=>trivial
theorem aap(hE:al P E)(p:P.follows .mixedOrders=true)(k:P.funcs[f]?=some fn)(u:(fn.name== "runtime.NumGoroutine")=false){a b caps}{g:ax caps->Option (List (a.b×b.b))}{O}(n:∀c,fn.body=some c->nN P (jP [a,b]) false c O)(heq:∀y,Bb E fn [a,b] caps O y=g y)(s:fn.body.isSome=true):yk P f ⟨caps,.dX a b,g⟩:=by
 have⟨c,j⟩:=q3.1 s;refine⟨rfl,λ w ok cs y xs m i=>?_⟩;refine⟨f,cs.toArray,rfl,⟨fn,k,u,by grind⟩,λ w' ok' t v=>?_⟩;have d:=(heq y).trans i;unfold Bb at d;rw[j]at d;have⟨q,d⟩:=adT d;refine Q2 (tys:= [a,b]) (A0:=λ _=>False) (by simp) (λ W o F x i=>?_) k j (by grind) (ji hE p c O (n c j)) (λ _ h=>h.elim) (λ l=>by
  have e:ft ok' w'=λ b=>(ok' b\/False)\/w'.heap.size<=b:=by grind[ft]
  rw[<-e];exact abf l (by simp_all) (m.b t v _) _) d;have⟨us,r,z,A,D,B,C⟩:=i;grind
theorem akp{b}(j:b.d=b.w.heap.size){R n}:∀g{s:bC}{a:fu}{w:ee},a.defers=g->jz b s->cT P s st a w->(∀s a' w,a'.tmps=a.tmps->jz b s->cT P s st a' w->∃v,(lk fn a.tmps).run P w= .ok v w/\R (.returned v) w)->LeavesInM j1 n P fn a.tmps R g .returning w|d::r,s,a,w,i,c,⟨conc,f⟩,h=>by have⟨D,e,m,s',k,l⟩:=aeH c j f i;subst e;exact⟨by simp,.inl ⟨D,_,rfl,m,akp j r (a:={a with defers:=r}) rfl k l h⟩⟩| [],s,a,w,i,c,f,h=>h s a w rfl c f
def akE(N:Nat)(t:Ty)(ins:List Ty)(d:t.b)(x:ax ins):au:={N,d:= [],a:=yA 0 (mh ins x++ [.dx N 0 0]),b:= [(N,(0,.eu t (tn t d)))],c:= [ins.length]}
def al7(E:aq)(t:Ty)(k:Nat):hg->au->Option t.b
 | .normal,st| .ret,st=>bif ot st.c [k]then((c9 [] (.tmp k)).aB λ
  | .dx id ver 0=> .dS id λ|some (cv,.eu u cells)=>bif cr cv ver then(iD E u cells).aB λ p=>bif p.2.isEmpty&&p.1.2.isEmpty then .nS (gN (t:=u) (t':=t) p.1.1)else .aa else .aa|_=> .aa
  |_=> .aa).af st else none|_,_=>none
theorem aoC{v ok y N o al F}(Y:eY v=true)(U:∀b,dB v b->¬ok b)(T:∀b,dB v b->b<w.heap.size) (O:∀conc,(∀b,ok b->ae conc b)->fS P w conc (ae conc) v true o) (Q:∀conc,conc N=some (0,v,true)->(∀b,ok b->ae conc b)->bU (bN P w conc (ae conc)) al y)(W:y.length<=N):cT P ⟨w,λ b=>ft ok w b\/dB v b,dB v,[],y.toArray++k8 (N- y.toArray.size) gE,0,w.heap.size⟩ {N,d:= [],a:=yA 0 al,b:= [(N,(0,o))],c:=F} {tmps:=y.toArray++k8 (N- y.toArray.size) gE,defers:= []} w:=by
 let conc:bf:= ⟨λ i=>if i=N then some (0,v,true)else none,λ b=>ft ok w b\/dB v b,0⟩;have B:∀i ver c D,conc i=some (ver,c,D)->i=N/\ver=0/\c=v/\D=true:=λ i ver c D h=>by show _;simp only[conc]at h;split at h;rename_i e;cases h;exact⟨e,rfl,rfl,rfl⟩;cases h
 have J:∀b,ok b->ae conc b:=λ b s=> ⟨.inl (.inl s),λ id ver c h R=>have⟨_,_,rfl,_⟩:=B _ _ _ _ h;U b R s⟩;have I:conc N=some (0,v,true):=by simp[conc]
 have H:=Q conc I J;refine⟨conc,{g:=rfl,n:=?_,m:=?_,k:=?_,q:=?_,r:=?_,t:=?_,f:=?_,e:= ⟨rfl,rfl,⟨rfl,λ _=>b2 _⟩,b2 _,λ _ _ _=>rfl⟩,u:=rfl,x:=rfl,h:=?_,l:=λ _ _=>rfl}⟩;simp;omega;intro d sl z p hp;have⟨i,a,_,_,e⟩:=CC _ _ _ z;subst e;cases hp;intro d sl z;have⟨i,a,E,K,L⟩:=CC _ _ _ z;rw[hv]at E;subst E;have⟨u,G,M⟩:=bU.h d a H K;refine⟨u,?_,?_⟩;have:d<y.length:=(eQ.1 G).1;simpa[nB,this]using G;rw[L];exact⟨λ _=> ⟨rfl,M⟩,absurd (cG _)⟩;intro id ver Z A;simp[bn,gF]at A;by_cases e:N=id;subst e;simp only[decide_true,cond_true]at A;cases A;exact⟨v,true,I,O conc J⟩;simp only[e,decide_false,cond_false]at A;cases A;intro id z;simp[bn,gF]at z;by_cases e:N=id;subst e;simp at z;simp only[conc];rw[if_neg (Ne.symm e)];intro i j V aa c c' b C S _ _;exact(B _ _ _ _ C).1.trans (B _ _ _ _ S).1.symm;intro i V c b C s;have⟨_,_,rfl,_⟩:=B _ _ _ _ C;exact⟨.inr s,T b s⟩;exact{i:=λ b s=> .inl (.inr s),e:=λ b s=> .inr s,f:=(λ _ h=>(by cases h)),h:=jA,g:=b2 _}
theorem anM(l:List df)(r){i:Nat}{v}(h:l[i]?=some v):(l.toArray++r)[i]?=some v:=by rw[nB (by simpa using ((eQ.1 h).1))];simpa using h
theorem apc{s v ok k conc a w' id ver}(f:jz ⟨w,λ b=>ft ok w b\/dB v b,dB v,[],k,0,w.heap.size⟩ s)(g:aD P s conc st a w')(j:conc id=some (ver,v,true)):aeE v w w'/\cM w' (ae conc) (ft ok w):=by
 have c:=f.f g.C.h;refine⟨⟨c.j,c.g,c.c,c.d,c.e⟩,λ b e l=>?_⟩;by_cases h:b<w.heap.size;have i:s.B b:=by rw[<-g.u];exact e.1
 rcases f.p b h i with d|d;exact d;exact absurd d (e.2 id ver v j);exact .inr (by omega)
theorem aoA(hE:al P E)(ag:P.follows .mixedOrders=true)(H:P.funcs[f]?=some fn)(aq:(fn.name== "runtime.NumGoroutine")=false)(G:fn.body=some c)(az:fn.results.toList= []) {t ins g O}(af:nN P (bT.b (R:=t.b)) false c O)(ao:hJ (ins.length+1) fn.ntmps=true)(K:t.h=true) (heq:∀d x,dv E (bT.b (R:=t.b)) c O (akE fn.ntmps t ins d x) (al7 E t ins.length)=g d x):aiT P f ⟨t,ins,g⟩:=by
 refine⟨⟨_,H,aq,by rw[G];rfl⟩,?_⟩;intro w ok p vs d x r hp B ar A;dsimp only at hp B A r;rw[<-heq]at A;obtain⟨l,cs0,U,rfl,J,ay⟩:=hp;have ap:∀b,dB (.pointer (some ⟨l,0,none⟩)) b->b<w.heap.size:=λ b k=>by cases k;exact(eL.1 J).1
 have aC:=Su ins B;let v:Value:= .pointer (some ⟨l,0,none⟩);let Q:Array Value:=(vs++ [v]).toArray++k8 (fn.ntmps- (vs++ [v]).toArray.size) gE;let m:bC:= ⟨w,λ b=>ft ok w b\/dB v b,dB v,[],Q,0,w.heap.size⟩;have aj:cT P m (akE fn.ntmps t ins d x) {tmps:=Q,defers:= []} w:=aoC (o:= .eu t (tn t d)) rfl ar ap (λ conc I=>have C:aw P t w (ae conc) cs0.toList d:=ay.e t K;have L:=Al (conc:=conc) t C;⟨rfl,l,cs0,U,rfl,J,by rw[L.b];exact C.d,C.f,L⟩) (λ conc ah I=>((HA (conc:=conc) ins B).e λ a b h=>bN.b ⟨b2 _,λ _ _ _=>rfl⟩ (λ b k _=>I b k) (fU.b _) a h).d ⟨⟨0,v,true,ah,b2 _,rfl,λ _=> ⟨l,rfl,rfl⟩⟩,trivial⟩) (by have:=n1 ao;simp;omega);refine pS.1 (rm (n:=7) H G trivial (hy (ji hE ag c O af _ rfl _ ({
  d:=λ s s' b k j=> ⟨k.1,k.2.f j.h⟩
  c:=λ h=>absurd rfl h
  g:=λ _ _=> ⟨m,r,λ _ _=>b0⟩
  f:=λ h=>absurd rfl h}) _ _ _ _ _ _ A aj ⟨rfl,jz.k _⟩) ?_));rintro ex a' w'⟨s',aM,st',i,⟨k,j⟩,e⟩;rw[k]at e;have key:∀{st':au}{a:fu}{w':ee}{s':bC},cT P s' st' a w'->jz m s'->(bif ot st'.c [ins.length]then((c9 [] (.tmp ins.length)).aB λ
  | .dx id ver 0=>RM.dS id λ|some (cv,.eu u cells)=>bif cr cv ver then(iD E u cells).aB λ p=>bif p.2.isEmpty&&p.1.2.isEmpty then .nS (gN (t:=u) (t':=t) p.1.1)else .aa else .aa|_=> .aa
  |_=> .aa).af st' else none)=some r->∃u,(lk fn a.tmps).run P w'= .ok u w'/\l4 u= .returned (.tuple #[])/\aeE v w w'/\adL P w' (ft ok w) t v r:=by
  rintro st' a w' s'⟨conc,i⟩j e;have⟨X,e⟩:=adT e;have⟨b,Y,e⟩:=bw e;split at e;rename_i id ver;simp[bV]at e;split at e;rename_i cv u cells av;have⟨Z,D⟩:=dE e;clear e;have:=cU Z;subst this;have⟨q,ab,F⟩:=bw D;have⟨y,ac⟩:=dE F;clear D F;simp[dr]at y;have⟨ai,an⟩:=kC (RM.Ae ac);cases ai;subst an;have V:q.2= []:=by simpa using y.1
  have W:q.1.2= []:=by simpa using y.2
  obtain⟨c',aO,k1,⟨rfl,b,cs,T,aH,aI,aP,aJ,aK⟩,aN,aF,N⟩:=sR i av (dQ i (cG _) Y);have aA:a.tmps[ins.length]?=some v:=(i.l _ (by rw[EW X];simp)).trans (by rw[j.m];exact anM _ _ (by rw[<-aC];simp));have ak:a.eval (.tmp ins.length)=v:=by simp[ko,aA]
  rw[ak]at N;subst aF;cases aH;have aG:Value.pointer (some ⟨l,0,none⟩)=_:=N;cases aG;have⟨aL,aQ⟩:=apc (v:=v) j i k1;have⟨us,S,aD,aE,M⟩:=CY hE i _ ab aK aJ;have aB:S= []:=by rw[V]at M;cases S with|nil=>rfl|cons _ _=>exact M.elim
  refine⟨_,JP (vs:= []) (by rw[az];rfl),rfl,aL,l,cs,T,rfl,aI,?_⟩;rw[aD,aB,ih];exact((aE [] (by simp[W,aV])).2).e _ K;cases e;cases e
 cases ex with
 |normal=>exact akp rfl _ rfl j i λ s a' w z j i=>by rw[<-z];exact key i j e|ret=>exact akp rfl _ rfl j i λ s a' w z j i=>by rw[<-z];exact key i j e|_=>cases e
end
section
variable[Dr]
variable{P:Program}{w:World}
variable{ok:Nat->Prop}{xs:Array Value}{t:Ty}{l:List Value}{T T':Nat}{e:Ty}{K:Nat}{k:Ty}{d:Nat}
def vg(P:eb)(T:Nat)(t:Ty):=bif t.c then(match P.underlying T with|some (.struct _)=>true|some (.array _ _)=>true|_=>false)&& (match P.info? T with|some i=>cr i.size t.a|none=>false)else P.plainKey T
theorem Dc{off a b}:(aS l off (a+b)).take a=aS l off a:=by grind[aS,Nat.min_eq_left]
theorem DG{off a b}:(aS l off (a+b)).drop a=aS l (off+a) b:=by grind[aS,List.drop_take,p1]
theorem nW{T t}(h:vg P T t=true){ok xs off d}(k:aw P t w ok (aS xs.toList off t.a) d):(nz T xs off).run P w= .ok (t.d (aS xs.toList off t.a)) w:=by
 unfold vg at h;cases hp:t.c;rw[hp]at h;have c:=k.d;have a:=uI hp;rw[a]at c⊢
 match f:aS xs.toList off 1,c with
 | [v],_=>
  have g:(aS xs.toList off 1)[0]?=some v:=by rw[f];rfl
  obtain⟨_,e⟩:=Ct g;rw[kg,Array.getElem?_toList]at e;have:t.d [v]=v:=by unfold Ty.d;rw[hp];rfl
  rw[this];exact run_part_plain w h e
 rw[hp]at h;simp only[cond_true,dr]at h;obtain⟨a,b⟩:=h;cases j:P.info? T with
 |none=>grind
 |some i=>
  rw[j]at b;have n:(fl T).run P w= .ok t.a w:=by simp_all[fl,typeInfo]
  have l:(isAgg T).run P w= .ok true w:=by
   unfold isAgg;split at a
   all_goals simp_all[dk,eo]
  have:t.d (aS xs.toList off t.a)= .agg (xs.extract off (off+t.a)):=by
   unfold Ty.d;rw[hp];simp only[if_true]
   congr 1
   grind[Array.ext',Array.toList_extract,aS]
  simp_all[nz]
def BC(P:eb)(dd T:Nat)(t:Ty):=∀(w:ee)ok vs us x y,aw P t w ok vs x->aw P t w ok us y->(j3 dd T (t.d vs) (t.d us)).run P w= .ok (t.f x y) w
def EN(P:eb)(dd T:Nat)(t:Ty):=∀(w:ee)ok vs x b,aw P t w ok vs x->(gf b dd T (t.d vs)).run P w= .ok () w
def ns(rec:Nat->Ty->Bool)(P:eb):List kq->Nat->Ty->Bool| [f],off,t=>f.name != "_" &&cr f.offset off&&vg P f.type t&&rec f.type t|f::g::r,off,.aF a b=>f.name != "_" &&cr f.offset off&&vg P f.type a&&rec f.type a&&ns rec P (g::r) (off+a.a) b|_,_,_=>false
def mY(P:eb):Nat->Nat->Ty->Bool|0,_,_=>false|d+1,T,t=>match P.underlying T with
  |some (.int k)=>decide (t= .ay k)|some .bool=>decide (t= .aO)|some .string=>decide (t= .aJ)|some (.struct fs)=>t.c&&!P.stoodInHeld T&&ns (mY P d) P fs.toList 0 t|some (.array n T')=>match t with
   | .aF e _=>decide (t=Ty.e e n)&&vg P T' e&&mY P d T' e&& (match P.info? T' with|some i=>cr i.size e.a|none=>false)|_=>false
  |_=>false
theorem No(x y):((⟨⟨x⟩⟩:ByteArray)== ⟨⟨y⟩⟩)=(x==y):=by grind[beq_toListBytes,ByteArray.toList_eq]
section
variable{dd:Nat}
theorem PR{rec}(m:∀T t,rec T t=true->BC P dd T t)(w){ys}:∀fs off t{x y:t.b},ns rec P fs off t=true->aw P t w ok (aS xs.toList off t.a) x->aw P t w ok (aS ys.toList off t.a) y->(p6 dd xs ys fs).run P w= .ok (t.f x y) w
 | [],_,_,_,_,h,_,_=>by trivial| [f],off,t,x,y,h,d,i=>by simp only[ns,dr,bne_iff_ne,ne_eq]at h;have⟨⟨⟨k,c⟩,hp⟩,l⟩:=h;have c:=cU c;rw[<-c]at d i;simp[p6,k,ne_eq,not_false_eq_true,if_true,dk,nW hp d,nW hp i,ei,m _ _ l w ok _ _ x y d i];cases t.f x y<;>simp|f::g::r,off,.aF a b,(x,x'),(y,y'),h,d,i=>by simp only[ns,dr,bne_iff_ne,ne_eq]at h;have⟨⟨⟨⟨k,c⟩,hp⟩,l⟩,p⟩:=h;have⟨e,n⟩:=d;have⟨j,o⟩:=i;simp[Ty.a]at e n j o;rw[Dc]at e j;rw[DG]at n o;rw[<-(cU c)]at e j;have q:=PR m w (g::r) (off+a.a) b p n o;rw[p6];simp[k,ne_eq,not_false_eq_true,if_true,dk,nW hp e,nW hp j,ei,m _ _ l w ok _ _ x y e j,Ty.f];cases a.f x y;all_goals trivial|_::_::_,_,.ay _,_,_,h,_,_|_::_::_,_,.aO,_,_,h,_,_|_::_::_,_,.aJ,_,_,h,_,_|_::_::_,_,.aH _,_,_,h,_,_|_::_::_,_,.dP _ _,_,_,h,_,_|_::_::_,_,.dX _ _,_,_,h,_,_|_::_::_,_,.cO _ _,_,_,h,_,_|_::_::_,_,.ec _,_,_,h,_,_=>by trivial
theorem Q4{rec}(l:∀T t,rec T t=true->EN P dd T t)(i)(w):∀fs off t{x:t.b},ns rec P fs off t=true->aw P t w ok (aS xs.toList off t.a) x->(forIn (m:=Sem) fs kp λ f _=>if f.name≠ "_" then(do gf i dd f.type (<-nz f.type xs f.offset);pure (pV kp))else pure (pV kp)).run P w= .ok kp w
 | [],_,_,_,h,_=>by rfl| [f],off,t,x,h,d=>by simp only[ns,dr,bne_iff_ne,ne_eq]at h;have⟨⟨⟨j,c⟩,hp⟩,k⟩:=h;have c:=cU c;rw[<-c]at d;simp[ng,j,ne_eq,not_false_eq_true,if_true,dk,nW hp d,ei,l _ _ k w ok _ x i d,k6,xM]|f::g::r,off,.aF a b,(x,x'),h,d=>by simp only[ns,dr,bne_iff_ne,ne_eq]at h;have⟨⟨⟨⟨j,c⟩,hp⟩,k⟩,o⟩:=h;have⟨e,n⟩:=d;simp[Ty.a]at e n;rw[Dc]at e;rw[DG]at n;rw[<-(cU c)]at e;have p:=Q4 l i w (g::r) (off+a.a) b o n;rw[ng];simp only[j,ne_eq,not_false_eq_true,if_true,dk,nW hp e,ei,l _ _ k w ok _ x i e,k6];omega|_::_::_,_,.ay _,_,h,_|_::_::_,_,.aO,_,h,_|_::_::_,_,.aJ,_,h,_|_::_::_,_,.aH _,_,h,_|_::_::_,_,.dP _ _,_,h,_|_::_::_,_,.dX _ _,_,h,_|_::_::_,_,.cO _ _,_,h,_|_::_::_,_,.ec _,_,h,_=>by trivial
theorem MY(e):∀n,(Ty.e e (n+1)).a=(n+1)*e.a|0=>by simp[Ty.e]|n+1=>by simp[Ty.e,Ty.a,MY e n];grind
theorem Qa(hp:vg P T' e=true)(h:BC P dd T' e)(w){ys}:∀k i{x y:(Ty.e e (k+1)).b},aw P (Ty.e e (k+1)) w ok (aS xs.toList (i*e.a) (Ty.e e (k+1)).a) x->aw P (Ty.e e (k+1)) w ok (aS ys.toList (i*e.a) (Ty.e e (k+1)).a) y->(p8 dd T' e.a xs ys (y4 i (k+1))).run P w= .ok ((Ty.e e (k+1)).f x y) w|0,i,x,y,a,b=>by have a:aw P e w ok (aS xs.toList (i*e.a) e.a) x:=a;have b:aw P e w ok (aS ys.toList (i*e.a) e.a) y:=b;simp[mZ,u2,p8,dk,nW hp a,nW hp b,ei,h w ok _ _ x y a b];show _=y2 (e.f x y) w;cases e.f x y<;>simp|k+1,i,(x,l),(y,m),a,b=>by have⟨c,d⟩:=a;have⟨f,g⟩:=b;simp[Ty.e,Ty.a]at c d f g;rw[Dc]at c f;rw[DG]at d g;rw[<-fx]at d g;have j:=Qa hp h w k (i+1) d g;rw[mZ,p8];simp[dk,nW hp c,nW hp f,ei,h w ok _ _ x y c f];show _=y2 (e.f x y&& (Ty.e e _).f _ _) w;cases e.f x y;all_goals trivial
theorem QV(hp:vg P T' e=true)(f:EN P dd T' e)(g:∀w,(fl T').run P w= .ok e.a w)(b)(w):∀k i{x:(Ty.e e (k+1)).b},aw P (Ty.e e (k+1)) w ok (aS xs.toList (i*e.a) (Ty.e e (k+1)).a) x->(forIn (m:=Sem) (y4 i (k+1)) kp λ i _=>do gf b dd T' (<-nz T' xs (i* (<-fl T')));pure (pV kp)).run P w= .ok kp w
 |0,i,x,a=>by have a:aw P e w ok (aS xs.toList (i*e.a) e.a) x:=a;simp[mZ,u2,ng,dk,g,nW hp a,ei,f w ok _ x b a,k6,xM]|k+1,i,(x,j),a=>by have⟨c,d⟩:=a;simp[Ty.e,Ty.a]at c d;rw[Dc]at c;rw[DG]at d;rw[<-fx]at d;have h:=QV hp f g b w k (i+1) d;rw[mZ,ng];simp only[dk,g,nW hp c,ei,f w ok _ x b c,k6];omega
end
theorem vZ(vs:Array df)(t){x}(h:aw P t w ok vs.toList x):aS vs.toList 0 t.a=vs.toList:=by unfold aS;rw[vL,q9];have:=h.d;omega
theorem qQ(hp:t.c=true)(vs):t.d vs= .agg vs.toArray:=by grind[Ty.d]
theorem GU{a b n}(h:Ty.aF a b=Ty.e a n):1<=n:=by cases n with|zero=>have:=congrArg (λ t:Ty=>SizeOf.sizeOf t) h;grind[Ty.e]|succ n=>omega
theorem Aw:∀d T t,mY P d T t=true->∀m,BC P (m+d) T t/\EN P (m+d) T t
 |0,_,_,h,_=>by simp[mY]at h|d+1,T,t,h,m=>by
  unfold mY at h;split at h;rename_i k g;have c:=of_decide_eq_true h;subst c;refine⟨λ w ok vs us x y a f=>?_,λ w ok vs x b a=>?_⟩;subst a;subst f;show(j3 (m+d+1) T (.int k x) (.int k y)).run P w= .ok (x==y) w;simp[j3,eo g];subst a;simp only[gf,dk,eo g,ei];rfl;rename_i g;have c:=of_decide_eq_true h;subst c;refine⟨λ w ok vs us x y a f=>?_,λ w ok vs x b a=>?_⟩;subst a;subst f;show(j3 (m+d+1) T (.bool x) (.bool y)).run P w= .ok (x==y) w;simp[j3,eo g];subst a;simp only[gf,dk,eo g,ei];rfl;rename_i g;have c:=of_decide_eq_true h;subst c;refine⟨λ w ok vs us x y a f=>?_,λ w ok vs x b a=>?_⟩;subst a;subst f;show(j3 (m+d+1) T (.string ⟨⟨x⟩⟩) (.string ⟨⟨y⟩⟩)).run P w= .ok (x==y) w;simp_all[j3,dk,eo,ei,No,k6];simp_all[aw,gf,dk,eo,ei];rename_i fs g;simp only[dr,hQ]at h;obtain⟨⟨hp,z⟩,o⟩:=h;have u:P.fieldsOf T=fs:=by grind[Program.fieldsOf]
  refine⟨λ w ok vs us x y a f=>?_,λ w ok vs x b a=>?_⟩;rw[qQ hp,qQ hp,show m+ (d+1)=(m+d)+1 from rfl,run_equalIn_struct w _ T _ _ (by grind) z,u];refine PR (ok:=ok) (λ T t c=>(Aw d T t c m).1) w _ 0 t o ?_ ?_;rw[vZ (ok:=ok) (x:=x) vs.toArray t a];omega;rw[vZ (ok:=ok) (x:=y) us.toArray t f];exact f;rw[qQ hp,show m+ (d+1)=(m+d)+1 from rfl,gf];simp only[dk,eo g,ei];rw[<-Array.forIn_toList];have:=Q4 (ok:=ok) (dd:=m+d) (xs:=vs.toArray) (λ T t c=>(Aw d T t c m).2) b w fs.toList 0 t o (by rw[vZ (ok:=ok) (x:=x) vs.toArray t a];exact a);rw[this];rfl;rename_i n T' g;split at h;rename_i e r;simp only[dr]at h;obtain⟨⟨⟨c,p⟩,v⟩,l⟩:=h;have c:=of_decide_eq_true c;have C:1<=n:=GU c;obtain⟨k,rfl⟩:∃k,n=k+1:= ⟨n- 1,by omega⟩;cases j:P.info? T' with
  |none=>rw[j]at l;cases l
  |some i=>
   rw[j]at l;have q:=cU l;have s:P.cellsOf T'=e.a:=by simp[Program.cellsOf,j,q]
   obtain⟨A,B⟩:=Aw d T' e v m;refine⟨λ w ok vs us x y a f=>?_,λ w ok vs x b a=>?_⟩;rw[qQ rfl,qQ rfl,show m+ (d+1)=(m+d)+1 from rfl,run_equalIn_array w (m+d) _ _ g j,s,r5];revert x y;rw[c];intro x y a f;refine Qa (ok:=ok) p A w k 0 ?_ ?_;rw[qc,vZ (ok:=ok) (x:=x) vs.toArray _ a];exact a;rw[qc,vZ (ok:=ok) (x:=y) us.toArray _ f];exact f;rw[qQ rfl,show m+ (d+1)=(m+d)+1 from rfl,gf];simp only[dk,eo g,ei];simp only[za,zh,Nat.sub_zero,Nat.add_one_sub_one,Nat.div_one];revert x;rw[c];intro x a;have:=QV (ok:=ok) (dd:=m+d) (xs:=vs.toArray) p B (λ w=>by simp[fl,typeInfo,j,q]) b w k 0 (by rw[qc,vZ (ok:=ok) (x:=x) vs.toArray _ a];exact a);rw[this];rfl
  cases h;cases h
theorem Ea:∀d T t,mY P d T t=true->t.i=true
 |0,_,_,h=>by trivial|d+1,T,t,h=>by
  have arr:∀e n,e.i=true->(Ty.e e (n+1)).i=true:=by
   intro e n l
   induction n with|zero=>trivial|succ n i=>grind[Ty.e,Ty.i,Bool.and_self]
  have j:∀fs off t,ns (mY P d) P fs off t=true->t.i=true:=by
   intro fs
   induction fs with|nil=>grind[ns]|cons f fs i=>intro off t h;cases fs with
    |nil=>simp[ns,dr]at h;exact Ea d _ t h.2|cons g r=>
     cases t<;>simp[ns,dr,hY]at h<;>try(exact h.elim)
     rename_i a b;simp[Ty.i,dr];exact⟨Ea d f.type a h.1.2,i _ b h.2⟩
  unfold mY at h;split at h;rw[of_decide_eq_true h];rfl;rw[of_decide_eq_true h];rfl;rw[of_decide_eq_true h];rfl;simp only[dr]at h;exact j _ _ _ h.2;rename_i n T' o;split at h;rename_i e r;simp only[dr]at h;have c:=of_decide_eq_true h.1.1.1;have m:=GU c;obtain⟨k,rfl⟩:∃k,n=k+1:= ⟨n- 1,by omega⟩;rw[c];exact arr e k (Ea d T' e h.1.2);cases h;cases h
theorem ae3(t:Ty)(h:t.i=true)(x y):t.f x y=t.f y x:=by induction t with
 |aF a b c d=>grind[Ty.i,Ty.f]|ay=>exact mo|aO=>exact mo|aJ=>exact mo|_=>cases h
theorem Py(a:BC P 10000 K k)(b:k.i=true)(w){ks x}(c:aw P k w ok ks x):∀ys es j,es.length=ys.length->(∀(i:Nat)y e,ys[i]?=some y->es[i]?=some e->∃us,e.key=k.d us/\aw P k w ok us y)->(sf K (k.d ks) es j).run P w= .ok (nF k x ys es j) w
 | [],[],j,_,_=>by rfl| [],_::_,_,h,_=>by trivial|_::_,[],_,h,_=>by rfl|y::ys,e::es,j,h,hr=>by
  have⟨us,d,g⟩:=hr 0 y e rfl rfl;have o:=Py a b w c ys es (j+1) (by grind) (λ i z f n m=>hr (i+1) z f (by trivial) (by trivial));have l:(Op.equal K (k.d ks) e.key).run P w= .ok (k.f y x) w:=by rw[d,ae3 k b];exact a w _ _ _ x y c g
  simp[sf,dk,l,ei,nF];cases k.f y x;all_goals trivial
theorem aaX{K k d}(G:d<=10000)(h:mY P d K k=true):Ad P K k:=by
 have⟨q,s⟩:=Aw d K k h (10000- d);rw[show 10000- d+d=10000 by omega]at q s;have n:=Ea d K k h;refine⟨n,h2' s,λ w ok ks x ys es o g l=>?_⟩;have F:∀D ys es(j:Nat)r,es.length=ys.length->(∀(i:Nat)y e,ys[i]?=some y->es[i]?=some e->∃us,e.key=k.d us/\aw P k w ok us y)->nb D (k.d ks) es j=some r->r=nF k x ys es j:=by
  intro D ys
  induction ys with
  |nil=>
   intro es j r g _ c
   match es,g with| [],_=>simp[nb]at c;simp[nF,c]
  |cons y ys E=>
   intro es j r g l c
   match es,g with
   |e::es,g=>
    have⟨us,v,p⟩:=l 0 y e rfl rfl;have C:∀b,nc D (k.d ks) e.key=some b->b=k.f y x:=by
     intro b a;rw[v]at a;cases k<;>try(cases n;done)
     case aF=>rw[qQ rfl,qQ rfl]at a;unfold nc at a;split at a<;>rename_i m _<;>first|cases m|cases a
     all_goals
      simp[aw]at o p;subst o;subst p;unfold nc at a;split at a<;>first| (rename_i m _;cases m;done)| (cases a;done)|skip;rename_i m u;cases m;cases u;first
      |simp[Option.some.injEq]at a;rw[<-a,No];exact mo
      |simp at a;rw[<-a];exact mo
    unfold nb at c;cases a:nc D (k.d ks) e.key with|none=>rw[a]at c;cases c|some b=>rw[a]at c;unfold nF;rw[<-(C b a)];cases b;exact E _ _ r (by grind) (λ i z f H c=>l (i+1) z f (by grind) (by simpa using c)) c;cases c;rfl
 cases t:P.underlying K with
 |none=>
  have:mY P d K k=false:=by cases d with|zero=>rfl|succ d=>simp[mY,t]
  rw[this]at h;cases h|some D=>simp[Instr.findKey,dk,eo t,ei];cases c:nb D (k.d ks) es 0 with|none=>exact (Py q n w o ys es 0 g l)|some r=>rw[F D ys es 0 r g l c];rfl
where
 h2' {K:Nat} {k:Ty} (h:EN P 10000 K k) (w:World) (ok:Nat->Prop) (ks:List Value) (x:k.b) (b:Bool) (l:aw P k w ok ks x):(Instr.checkKey b 10000 K (k.d ks)).run P w= .ok () w:=h w ok ks x b l
theorem aer(t){x y r}(h:pI t x y=some r):r=t.f x y:=by induction t generalizing r with|aF a b e f=>simp[pI]at h;split at h;rename_i c d;cases h;rw[e c,f d];rfl;trivial|ay|aO|aJ=>cases h;rfl|_=>cases h
def zP(P:eb)(T:Nat)(t:Ty):=∀w ok vs a d b r,aw P t w ok vs d->aw P t w ok a b->pI t d b=some r->∀x y,(do eqGuard .eql T x y (t.d vs) (t.d a);Go.binOp .eql T (t.d vs) (t.d a)).run P w= .ok (.bool r) w/\(do eqGuard .neq T x y (t.d vs) (t.d a);Go.binOp .neq T (t.d vs) (t.d a)).run P w= .ok (.bool (!r)) w
theorem JF(j:d<=10000)(h:mY P d T t=true)(hp:t.c=true)(k:P.eqGuardType P.depth T=false):zP P T t:=by have⟨c,_⟩:=Aw d T t h (10000- d);rw[show 10000- d+d=10000 by omega]at c;intro w ok vs i x y r f g e a b;have e:=aer t e;have run:=c w ok vs i x y f g;grind[qQ,dk,run_eqGuard_agg,ei,run_eql_struct,run_neq_struct]
end
section
variable[Dr]
variable{P:Program}
variable{T:Nat}{te:eZ}{t:Ty}{f:Nat}
def EZ:df->df->Bool| .bool a,.bool b=>a==b| .int k n,.int j m=>decide (k=j)&&decide (n=m)| .string a,.string b=>decide (a.data.toList=b.data.toList)| .slice none a b,.slice none c d=>cr a c&&cr b d| .nilFunc,.nilFunc=>true| .map none,.map none=>true| .pointer none,.pointer none=>true|_,_=>false
theorem Tm{a b}(h:EZ a b=true):a=b:=by
 unfold EZ at h;split at h
 grind
 grind
 rename_i a b;have:a.data.toList=b.data.toList:=of_decide_eq_true h;obtain⟨⟨a⟩⟩:=a;simp_all;simp_all;all_goals trivial
def Ba:List df->List df->Bool| [],[]=>true|a::l,b::m=>EZ a b&&Ba l m|_,_=>false
theorem Ms:{l m:List df}->Ba l m=true->l=m| [],[],_=>rfl|a::l,b::m,h=>by simp[Ba,dr]at h;rw[Tm h.1,Ms h.2]| [],_::_,h=>by cases h|_::_,[],h=>by cases h
def IK:df->df->Bool| .agg a,.agg b=>Ba a.toList b.toList|a,b=>EZ a b
theorem Xu{a b}(h:IK a b=true):a=b:=by unfold IK at h;grind[Ms,Array.toList_inj,Tm]
def tz(P:eb)(T:Nat)(t:Ty):Bool:=match P.info? T with|some i=>cr i.size t.a&&hJ i.bytes 32768&& (match i.zero with|some z=>IK z (t.d (dM t))|none=>false)&&qF 0 t.a|none=>false
theorem zf(h:tz P T t=true):jy P T t:=by
 unfold tz at h;split at h;rename_i i b;simp only[dr]at h;obtain⟨⟨⟨a,c⟩,d⟩,e⟩:=h;refine⟨i,b,cU a,by simp_all,?_,by simp_all⟩
 grind[Xu];trivial
def Dn(P:eb)(te:eZ):Nat->List kq->Bool|_,[]=>true|i,f::r=>(match jm te.b i te.a with|some o=>cr o f.offset|none=>false)&& (match P.info? f.type with|some a=>!cr a.size 0|none=>false)&&Dn P te (i+1) r
theorem Nl{te}:(l:List kq)->(i:Nat)->Dn P te i l=true->∀k f,l[k]?=some f->jm te.b (i+k) te.a=some f.offset/\∃b,P.info? f.type=some b/\b.size≠0| [],i,h,k,f,a=>by simp at a|g::r,i,h,k,f,a=>by simp[Dn,dr]at h;cases k with|zero=>simp[kL,Option.some.injEq]at a;subst a;have⟨⟨c,d⟩,_⟩:=h;refine⟨?_,?_⟩;split at c;rename_i o m;rw[kg,m,cU c];cases c;split at d;rename_i b j;refine⟨b,j,λ e=>?_⟩;simp_all;trivial|succ k=>have:=Nl r (i+1) h.2 k f (by simpa using a);rw[show i+1+k=i+ (k+1)from by omega]at this;exact this
def C3(P:eb):List kq->List (Nat×Nat)->Bool| [],[]=>true|f::r,(o,n)::q=>(match P.info? f.type with|some i=>cr f.offset o&&cr i.size n|none=>false)&&C3 P r q|_,_=>false
theorem Pf:(l:List kq)->(q:List (Nat×Nat))->C3 P l q=true->l.mapM (λ f=>(P.info? f.type).map λ i=>(f.offset,i.size))=some q| [],[],_=>rfl|f::r,(o,n)::q,h=>by simp[C3,dr]at h;have⟨a,b⟩:=h;split at a;rename_i i c;rw[w6,c,Pf r q b];simp_all;trivial| [],_::_,h=>by cases h|_::_,[],h=>by trivial
def G1(P:eb)(T:Nat):Ty->Bool
 | .aH (.ay .u8)=>match P.underlying T with
  |some (.slice a)=>match P.underlying a with|some (.int .u8)=>true|_=>false
  |_=>false
 |_=>true
theorem aio(h:G1 P T t=true)(b:t= .aH (.ay .u8)):∃a,P.underlying T=some (.slice a)/\P.underlying a=some (.int .u8):=by grind[G1]
def Lp(P:eb)(K:Nat)(k:Ty):=mY P 40 K k
theorem aar{K}(h:Lp P K t=true):Ad P K t:=aaX (by decide) h
def BI(P:eb)(te:eZ):Nat->List kq->Bool|_,[]=>true|i,f::r=>(match uH te.b i te.a,pP P f.type,P.info? f.type with|some u,some b,some a=>(bif b then u.c else !u.c)&&cr a.size u.a|_,_,_=>false)&&BI P te (i+1) r
theorem Px{te}:(l:List kq)->(i:Nat)->BI P te i l=true->∀k f u,l[k]?=some f->uH te.b (i+k) te.a=some u->pP P f.type=some u.c/\∃e,P.info? f.type=some e/\e.size=u.a
 | [],i,h,k,f,u,c,d=>by simp at c|g::r,i,h,k,f,u,c,d=>by simp[BI,dr]at h;cases k with
  |zero=>simp[kL,Option.some.injEq]at c;subst c;have a:=h.1;rw[kg]at d;rw[d]at a;split at a;rename_i o b e j m n;cases j;simp only[dr]at a;refine⟨?_,e,n,cU a.2⟩;rw[m];have a:=a.1;cases b<;>simp at a<;>simp[a];cases a|succ k=>exact Px r _ h.2 k f u (by simpa using c) (by rw[show i+1+k=i+ (k+1)from by omega];exact d)
def GK(P:eb)(T:Nat)(te:eZ):Bool:=match P.underlying T with|some (.struct fs)=>BI P te 0 fs.toList|_=>true
theorem ah1(h:GK P T te=true):∀fs,P.underlying T=some (.struct fs)->∀i f u,fs[i]?=some f->uH te.b i te.a=some u->pP P f.type=some u.c/\∃a,P.info? f.type=some a/\a.size=u.a:=by intro fs b i f u c d;unfold GK at h;rw[b]at h;exact Px _ 0 h i f u (by grind) (by grind)
def Hr(P:eb)(T:Nat)(te:eZ):=!te.c||match P.underlying T,mM te.a with|some (.array n a),some (_,m)=>!cr n m||pP P a==some false|_,_=>true
theorem SP(k):∀n,1<=n->mM (Ty.e (.ay k) n)=some (k,n)|0,h=>by omega|1,_=>rfl|n+2,_=>by simp[Ty.e,mM,SP k (n+1) (by omega),if_true]
theorem U8(h:Hr P T te=true)(hp:te.c=true->te.a.c=true):te.c=true->∀n a,P.underlying T=some (.array n a)->∀k,te.a=Ty.e (.ay k) n->pP P a=some false:=by
 intro b n a e k c;have d:1<=n:=by cases n with|zero=>have:=hp b;rw[c]at this;trivial|succ n=>omega
 grind[Hr,SP,p7,cr,Nat.beq_refl]
def Ja(P:eb)(b a:Nat)(e:Ty):=cr a 1||match P.underlying b,mM e with|some (.array n c),some (k,m)=>cr n a&&cr m a&&decide (e=Ty.e (.ay k) a)&&tz P c (.ay k)|_,_=>false
theorem aiF{b a e}(h:Ja P b a e=true):a≠1->∃c k,P.underlying b=some (.array a c)/\e=Ty.e (.ay k) a/\jy P c (.ay k):=by grind[Ja,cr,absurd,Nat.eq_of_beq_eq_true,zf]
def Fe(P:eb)(T:Nat)(te:eZ):=tz P T te.a&&G1 P T te.a&&GK P T te&& (!te.c||te.a.c)&&Hr P T te&&match P.underlying T,te.a with|some (.int k),.ay k'=>decide (k=k')|some .bool,.aO=>true|some .string,.aJ=>true|some (.slice a),.aH e=>tz P a e|some (.array n a),.aF e _=>te.c&&decide (te.a=Ty.e e n)&&cr te.b n&&tz P a e|some (.struct fs),.aF _ _=>!te.c&&cr fs.size te.b&&Dn P te 0 fs.toList&&C3 P fs.toList (oX te.b te.a)|some (.func _ _ _),.dP _ _=>true|some (.func _ _ _),.dX _ _=>true|some (.map K V),.cO k v=>Lp P K k&&tz P V v|some (.pointer a),.ec e=>Ja P a te.b e|_,_=>false
theorem acx(h:Fe P T te=true):je P T te:=by
 unfold Fe at h;simp[dr]at h;have⟨⟨⟨⟨⟨v,m⟩,j⟩,l⟩,k⟩,c⟩:=h;have j:=ah1 j;have l:te.c=true->te.a.c=true:=λ h=>by grind
 have k:=U8 k l;have q:=zf v;have m:=aio m;have no:∀{d:y5},P.underlying T=some d->(∀fs,d≠ .struct fs)->∀fs,P.underlying T=some (.struct fs)->(∀i f,fs[i]?=some f->jm te.b i te.a=some f.offset/\∃s,P.info? f.type=some s/\s.size≠0)/\fs.toList.mapM (λ f=>(P.info? f.type).map λ i=>(f.offset,i.size))=some (oX te.b te.a):=by grind
 have fin:∀{d:y5},P.underlying T=some d->(∀fs,d≠ .struct fs)->_->je P T te:=λ w y x=> ⟨q,x,no w y,l,j,k,m⟩;split at c;case h_5 n z e r g o=>grind[cU,zf]
 case h_6 fs a b g o=>
  simp[dr,hQ]at c;have⟨⟨⟨A,B⟩,t⟩,u⟩:=c;refine⟨q,by simp_all,λ fs' p=>?_,l,j,k,m⟩;rw[g]at p;cases p;refine⟨λ i f C=>?_,Pf _ _ u⟩;have:=Nl fs.toList 0 t i f (by grind);grind
 all_goals first| (cases c;done)|skip;all_goals
  rename_i g o;refine fin g (λ _ e=>(by cases e)) ?_;rw[o];first|exact(of_decide_eq_true c)▸g|exact g|exact⟨_,_,_,g⟩|exact⟨_,g,zf c⟩|exact⟨_,g,aiF c⟩| (simp[dr]at c;exact⟨_,_,g,aar c.1,zf c.2⟩)
def ae5(P:eb)(G:List (Nat×eZ)):=G.all λ p=>Fe P p.1 p.2
theorem FV{α l g}{c d:α}(h:bn ((f,c)::l) g=some d):(f=g/\c=d)\/bn l g=some d:=by grind[bn,gF]
theorem IN{G:List (Nat×eZ)}(h:ae5 P G=true)(d:∀v w,(method (P.types.size+Made.depth) 190 v afJ).run P w= .ok (254,v) w:=by intros;kernel_rfl)(a:∀u w,(Instr.makeInterface 190 u).run P w= .ok (.iface 190 u) w:=by intros;kernel_rfl)
 (e:∀v w,(method (P.types.size+Made.depth) 200 v afJ).run P w= .ok (258,v) w:=by intros;kernel_rfl)(b:∀u w,(Instr.makeInterface 200 u).run P w= .ok (.iface 200 u) w:=by intros;kernel_rfl):al P ⟨G,[],[],[],[],[],[]⟩ where
 meth:=λ t f m=>by
  rcases FV m with⟨rfl,rfl⟩|h
  ·exact⟨d,a⟩
  ·rcases FV h with⟨rfl,rfl⟩|h
   ·exact⟨e,b⟩
   ·cases h
 g:=λ T te hT=>acx (List.all_eq_true.1 h _ (Map.ll hT))
 h:=(λ f c h=>(by cases h))
 j:=(λ f c h=>(by cases h))
 l:=(λ f c h=>(by cases h))
 k:=(λ f c h=>(by cases h))
 i:=(λ f c h=>(by cases h))
@[reducible] def aq.n(E:aq)(l:List Nat):aq:= ⟨E.G,E.C,E.Q,E.I,l,E.M,E.O⟩
@[reducible] def aq.a(E:aq)(f:Nat)(c:fc):aq:= ⟨E.G,(f,c)::E.C,E.Q,E.I,[],E.M,E.O⟩
@[reducible] def aq.B(E:aq)(f:Nat)(c a:List Ty)(g:ax c->ax []->Option (ax a)):aq:=E.a f ⟨c,[],a,g,false⟩
@[reducible] def aq.d(E:aq)(f:Nat)(c:vT):aq:= ⟨E.G,E.C,E.Q,(f,c)::E.I,[],E.M,E.O⟩
@[reducible] def aq.e(E:aq)(f:Nat)(c:u7):aq:= ⟨E.G,E.C,E.Q,E.I,[],(f,c)::E.M,E.O⟩
@[reducible] def aq.g(E:aq)(f:Nat)(c:o9):aq:= ⟨E.G,E.C,E.Q,E.I,[],E.M,(f,c)::E.O⟩
theorem IV{E}(h:al P E)(l):al P (E.n l):={h with}
theorem mN{E}(h:al P E){c}(b:jf P f c):al P (E.a f c):={h with h:=λ g d a=>(FV a).elim (by grind) (h.h g d)}
theorem aaH{E}(h:al P E){c}(b:yk P f c):al P (E.d f c):={h with j:=λ g d a=>(FV a).elim (by grind) (h.j g d)}
theorem alU{E:aq}(h:al P E){c:u7}(b:aaO P f c):al P (E.e f c):=
 {h with l:=λ g d a=>(FV a).elim (by grind) (h.l g d)}
theorem aoe{E:aq}(h:al P E){c:o9}(b:aiT P f c):al P (E.g f c):=
 {h with k:=λ g d a=>(FV a).elim (by grind) (h.k g d)}
theorem GI{E:aq}(h:al P E)(c:zP P T t):al P ⟨E.G,E.C,(T,t)::E.Q,E.I,[],E.M,E.O⟩:=
 {h with i:=λ U u d=>(FV d).elim (λ⟨a,b⟩=>a▸b▸c) (h.i U u)}
end
section
variable[Dr]
variable{P:Program}{E:aq}{R:Type}{H:bT R}{i:Bool}
variable{w:Code}{O:List (Ev R)}{T:cf}{X:List (dN×cf)}{f:FuncId}{fn:Func}
def bd(f:qz):=match f.body with|some c=>c|none=> .skip
def gq:ef->List ef| .seq a b=>gq a++gq b| .cond _ a b=>gq a++gq b| .block _ c| .scope c=>gq c| .loop c=> [.loop c]| .rangeFunc g ps a b=> [.rangeFunc g ps a b]|_=> []
def rA:List ef->Nat->ef| [],_=> .skip|c::_,0=>c|_::r,n+1=>rA r n
def lp(c:ef)(i:Nat):=rA (gq c) i
def iw:ef->ef| .loop c=>c|_=> .skip
def Cf:ef->Bool| .loop _=>true|_=>false
def vp:ef->hS| .rangeFunc g _ _ _=>g|_=> .func 0
def vv:ef->ef| .rangeFunc _ _ a _=>a|_=> .skip
def wQ:ef->ef| .rangeFunc _ _ _ b=>b|_=> .skip
def G8(p q:Nat):ef->Bool
 | .rangeFunc _ ps _ _=>match ps.toList with| [x,y]=>cr x p&&cr y q|_=>false
 |_=>false
theorem Nk{p q}(h:G8 p q w=true):w= .rangeFunc (vp w) #[p,q] (vv w) (wQ w):=by
 cases w<;>try(cases h;done)
 rename_i g ps a b;simp[G8]at h;split at h;rename_i x y e;simp only[dr]at h;have c:=cU h.1;have d:=cU h.2;subst c d;have:ps= #[x,y]:=by grind
 subst this;rfl;trivial
theorem aa0(h:Cf w=true):w= .loop (iw w):=by cases w<;>first|rfl|cases h
def kO(P:eb)(H:bT R)(i:Bool)(l:List ef):Nat->List (Ev R)->Prop|_,[]=>True|n,f::r=>eS P H i (rA l n) f/\kO P H i l (n+1) r
theorem rv:(c:ef)->(gq c).length=gP c| .seq a b=>by simp[gq,gP,rv a,rv b]| .cond _ a b=>by simp[gq,gP,rv a,rv b]| .block _ c| .scope c=>by simp[gq,gP,rv c]| .loop c=>rfl| .skip=>rfl| .region .. =>rfl| .exit _=>rfl| .ret=>rfl| .rangeFunc _ _ _ _=>rfl| .label _=>rfl| .goto _=>rfl| .refuse _=>rfl
theorem kO.a{l}:{O:List (Ev R)}->{n:Nat}->kO P H i l n O->∀k f,O[k]?=some f->eS P H i (rA l (n+k)) f| [],n,h,k,f,a=>by trivial|g::r,n,⟨h1,h2⟩,0,f,a=>by grind|g::r,n,⟨h1,h2⟩,k+1,f,a=>by have:=kO.a h2 k f (by trivial);grind
theorem OL{l m}:{i:Nat}->i<l.length->rA (l++m) i=rA l i:=by induction l with|nil=>simp|cons c l a=>intro i h;cases i with|zero=>rfl|succ i=>exact a (by grind)
theorem QS{l m}(i):rA (l++m) (l.length+i)=rA m i:=by induction l with|nil=>simp|cons c l a=>rw[l8,show l.length+1+i=(l.length+i)+1 from by omega];trivial
theorem xt:(c:ef)->(O:List (Ev R))->(∀k f,k<gP c->O[k]?=some f->eS P H i (rA (gq c) k) f)->nN P H i c O| .seq a b,O,h=>by refine⟨xt a _ λ i f e d=>?_,xt b _ λ i f e d=>?_⟩;rw[q4 e]at d;have:=h i f (by simp[gP];omega) d;grind[gq,OL,rv];rw[l1]at d;have:=h _ f (by simp[gP];omega) d;grind[gq,rv,QS]| .cond _ a b,O,h=>by refine⟨xt a _ λ i f e d=>?_,xt b _ λ i f e d=>?_⟩;rw[q4 e]at d;have:=h i f (by simp[gP];omega) d;grind[gq,OL,rv];rw[l1]at d;have:=h _ f (by simp[gP];omega) d;grind[gq,rv,QS]| .block _ c,O,h| .scope c,O,h=>xt c O h| .loop c,O,h=>λ f d=>by subst d;exact h 0 f (by simp[gP]) rfl| .skip,_,_=>trivial| .region ..,_,_=>trivial| .exit _,_,_=>trivial| .ret,_,_=>trivial| .rangeFunc g ps x y,O,h=>λ f d=>by subst d;exact h 0 f (by simp[gP]) rfl| .label _,_,_=>trivial| .goto _,_,_=>trivial| .refuse _,_,_=>trivial
theorem my{c}(h:kO P H i (gq c) 0 O):nN P H i c O:=xt c O λ i f _ a=>by simpa using h.a i f a
theorem rk{n}(hE:al P E)(a:P.follows .mixedOrders=true)(e:Cf w=true){body}(c:kO P H i (gq (iw w)) 0 O)(b:∀d again k,dv E H (iw w) O (mk T d) (mL E T X again k)=body d again k):eS P H i w (mG n E T X body):=by rw[aa0 e];exact ab5 hE (ji hE a _ O (my c)) b
theorem RZ(hE:al P E)(a:P.follows .mixedOrders=true){e e2 p q Oa Ob F body}(i:G8 p q w=true)(b:(T.c.isEmpty&&qF p T.N&&qF q T.N&&!yi F p&&!yi F q&&X.all λ x=>x.2.c.isEmpty)=true)(g:kO P (bT.b (R:=R)) true (gq (vv w)) 0 Oa)(h:kO P (bT.b (R:=R)) true (gq (wQ w)) 0 Ob)(heq:∀d x again k,dv E bT.b (vv w) Oa (GP T F p q e e2 d x) (tH λ st=>dv E bT.b (wQ w) Ob st (wR E T F X again k))=body d x again k):eS P (bT.b (R:=R)) false w (qX E e e2 (vp w) T X body):=by rw[Nk i];simp only[dr,hQ,List.isEmpty_iff,yi,MM,ht,Nat.blt_eq]at b;have⟨⟨⟨⟨⟨c,j⟩,l⟩,m⟩,n⟩,f⟩:=b;exact ahE hE rfl ⟨c,λ r o=>by grind,rfl,f,ji hE a _ _ (my g),ji hE a _ _ (my h),heq⟩
theorem xz(hE:al P E)(b:P.follows .mixedOrders=true)(e:P.funcs[f]?=some fn)(h:(fn.name== "runtime.NumGoroutine")=false)(d:fn.body.isSome=true){ins caps a g fresh O}(i:kO P (bT.b (R:=ax a)) false (gq (bd fn)) 0 O)(heq:∀x y,oI E fn ins caps a fresh O x y=g x y):jf P f ⟨ins,caps,a,g,fresh⟩:=acR hE b e h (λ c j=>my (by grind[bd])) heq d
theorem XD(hE:al P E)(d:P.follows .mixedOrders=true)(h:P.funcs[f]?=some fn)(i:(fn.name== "runtime.NumGoroutine")=false)(e:fn.body.isSome=true){a b caps}{g:ax caps->Option (List (a.b×b.b))}{O}(j:kO P (jP [a,b]) false (gq (bd fn)) 0 O)(heq:∀y,Bb E fn [a,b] caps O y=g y):yk P f ⟨caps,.dX a b,g⟩:=aap hE d h i (λ c k=>my (by grind[bd])) heq e
variable{α:Type}{n:Nat}
theorem nu{x}(h1: -9223372036854775808<=x)(h2:x<=9223372036854775807):lb .i64 x=x:=by grind[lb,vE,tg]
theorem Ue(x):lb .i64 x<=9223372036854775807:=by grind[lb,vE,tg]
theorem oR(l:List α)(i:Nat):aG l (i:Int)=l[i]?:=by rfl
theorem aff(l:List α)(i j)(h:i<=j)(a:j<=l.length):iB l (i:Int) (j:Int)=some ((l.take j).drop i):=by grind[iB]
theorem xV(l:List α)(j)(a:j<=l.length):iB l 0 (j:Int)=some (l.take j):=by have:=aff l 0 j (y3 _) a;trivial
theorem zG(h:n<=4294967296):jk n=some ():=by grind[jk,iZ]
theorem yR(m)(d:α):bI false m d=some d:=rfl
section
variable{D Ks R:Type}{body:D->(D->Option R)->Ks->Option R}{ks:Ks}
theorem agN(I:D->Option R->Prop)(b:D->Nat)(h:∀d r,I d r->∀again,(∀a r',I a r'->b a<b d->again a=r')->body d again ks=r):∀n d r,I d r->b d<n->cq body n d ks=r:=by
 intro n
 induction n with|zero=>omega|succ n f=>intro d r c e;exact h d r c _ (by grind)
theorem abv{A:Type}(l:List α)(F:Nat->A->D)(G:Nat->A->List α->Option R)(b:Nat->A->Prop)(e:l.length<=gw)(g:∀i a x r,i<l.length->l[i]?=some x->l.drop i=x::r->aG l (i:Int)=some x->decide ((i:Int)< (l.length:Int))=true->lb .i64 ((i:Int)+1)=((i+1:Nat):Int)->b i a->∀again,(∀c,b (i+1) c->again (F (i+1) c)=G (i+1) c r)->body (F i a) again ks=G i a (x::r)) (d:∀a,decide ((l.length:Int)< (l.length:Int))=false->b l.length a->∀again,body (F l.length a) again ks=G l.length a []) (a) (h0:b 0 a) (f:l.length<n):cq body n (F 0 a) ks=G 0 a l:=by
 have key:∀m i a,i<=l.length->b i a->l.length- i<m->cq body m (F i a) ks=G i a (l.drop i):=by
  intro m
  induction m with|zero=>omega|succ m h=>grind[cq,u1,kH,lB,oR,nu,gw]
 grind
theorem iy(l:List α)(F:Nat->D)(G:Nat->List α->Option R)(a:l.length<=gw)(d:∀i x r,i<l.length->l[i]?=some x->l.drop i=x::r->aG l (i:Int)=some x->decide ((i:Int)< (l.length:Int))=true->lb .i64 ((i:Int)+1)=((i+1:Nat):Int)->∀again,again (F (i+1))=G (i+1) r->body (F i) again ks=G i (x::r))(c:decide ((l.length:Int)< (l.length:Int))=false->∀again,body (F l.length) again ks=G l.length [])(b:l.length<n):cq body n (F 0) ks=G 0 l:=abv (A:=Unit) l (λ i _=>F i) (λ i _ r=>G i r) (λ _ _=>True) a (by simp_all) (by grind) () trivial b
end
end
end Go.Abs
