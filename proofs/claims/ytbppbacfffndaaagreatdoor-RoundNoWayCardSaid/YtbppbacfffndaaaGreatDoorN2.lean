/- Part of a proof that the statement holds. No conditions. -/
import Derived.Conc.Token
import Derived.KernelRfl
import Derived.Conc.AtomicLaws
import Derived.Conc.AtomicLaws2
import Derived.Conc.MarkLaws
import Derived.Conc.SmallLaws
import Derived.Calls
import Derived.CheckFast
import Derived.Orders
import Derived.Laws.AppendOwn
import Derived.OwnWalk
import Derived.RangeFuncSeq
import Derived.Maps.RangeRun
import Derived.Laws.Strings
import Derived.Laws.Entries
import Derived.Laws.Cells
import Derived.Laws.Rows
import Derived.Laws.Tables
import Derived.Test.YtbppbacfffndaaaGreatDoorN1
set_option linter.all false
open Go.ConcN renaming upd->b2,upd_ne->cr,upd_same->df,sumTo->hL
open Go.Conc renaming Deaf->dk,parked->en,rcase->ep,scase->eH,crowd->eV,woken->fu,Knows->gf,served->gu,ofEvents_eq->hv,heap_setChan_self->hP,finishComm_recv->hQ,heap_setChan_ne->ih,Deaf_push->j1,deafStep->j2,touchAt->j3,finishComm_send->kH,runT_crowd_go->kL,mem_ofEvents->k5,crowd_waits->k7,touch_mute->k8,semEvents->lf,casT_eq->l4,offersAt_parked_recv->nb,mem_partners->nv,stepG_same->nB,knows_own->nV,offersAt_of_not_blocked->p6,crowd_send_meets_some->p7,crowd_recv_meets_some->p8,offersAt_parked_send->qc,again_recv_closed->qi,crowd_recv_closed->qn,runT_crowd_spawn->qq,ways_recv_none->qF,ways_send_none->qO,semEvents_sync->qW,ofEvent_cell0->q0,Deaf_other->rr,Deaf_own->r3
open Go renaming World->dr,Value->ea,Program->ee,stepG->ef,Goroutine->ei,execOp->ej,Operand->eo,run_underlying->et,IntKind->fb,Oper->fl,Frame->fv,deafBehind->gb,eqGuard->gk,binOp->gl,runN->gw,typeInfo->hq,sizeOf->hs,lone->ht,asAddr->hB,Trace->hD,runT->hN,BinOp->hS,Act->hU,run_store->kg,asIntOf->ko,FuncId->kp,Code->kq,zeroValue->mm,partners->mn,MapEntry->mo,resolve->mr,builtin->mv,maxLen->mx,invoke->mA,Calls->mZ,events_store->pc,MemOp->p1,run_convert_to_unsafe->qz,cell_of_row->s5,convert->vE
open Nat renaming beq->eb,le_refl->fx,le_of_eq->gg,le_trans->hg,lt_or_ge->hz,ble->hF,lt_of_lt_of_le->hG,lt_of_not_le->n3,strongRecOn->o2,succ_mul->pS,blt->p5,mul_le_mul_right->q7,add_le_add_left->q8,eq_zero_or_pos->rm,add_assoc->u0
open Go.MemOp renaming ofEvents->eg
open Array renaming getElem?_eq_some_iff->ew,getElem?_eq_getElem->hY,empty_append->jA,toArray_toList->nz,append_assoc->re,ext'->vj
open Go.MemAct renaming ofEvent->eL,touch?->gE
open Go.Sem renaming run_bind->eQ,run_pure->hR,runT_fst->so,events->tm,run->vo
open Go.Result renaming andThen_ok->fz
open Go.Instr renaming indexAt->fR,fill->hM,sliceBounds->k6,fieldAt->lB,lookup->l8,index->ml,findKey->o0,sliceAt->o1,loadAt->pn,slice->pH,sliceBound->q9,checkKey->r1,sureAddr->r2,extract->sf,field->tg
open List renaming getElem?_eq_some_iff->hh,length->hA,append_assoc->hJ,perm_append_comm->iA,take_append_drop->k3,length_take->lv,length_drop->lA,drop_eq_getElem_cons->nf,mem_of_getElem?->ny,getElem?_map->n2,mem_append_right->q4,mem_singleton->rV,any_eq_true->r5,length_cons->sc,mem_append->sv,take_left'->sy,drop_left'->s0,drop_take->s8,drop_drop->tc,mem_cons->tv,headD->vi
open Bool renaming and_eq_true->hy,false_eq_true->nL,not_eq_true'->n1
open Go.Extern.Sync renaming semacquire->hZ,count->jc,semrelease->nc,none_->q5
open BitVec renaming ofInt->kk
open List.Perm renaming append_left->kR
open Go.Extern.Atomic renaming read->kV,casT->q3,update->vR,storeT->w6,loadT->xM,none_->x0
open LawfulMonad renaming pure_bind->k4
open Go.Extern renaming findNext->lb,find->ma
open Go.World renaming setChan->lk,frozen?->r4,cell?->s4
open Option.some renaming inj->l1
open Option renaming map_some->l7,map_eq_some_iff->ng,map_none->pt
open Go.Builtin renaming len_->l9
open Go.GStep renaming after->mb
open Go.Extern.Race renaming marked->np,at_->rL,none_->x1
open Go.Goroutine renaming frame->nH,callers->q6,again->x2
open Go.Region renaming wanted->oj,binds->sr
open Go.GStep.go renaming inj->pk
open Go.Op renaming intArith->pv,equal->pV,stringOp->s7,equalIn->tw
open Go.Value renaming cells->pz,int->u1
open Go.stepG renaming exec->pN
open Go.Act renaming put->pX,eval->u2
open Go.Frame renaming finish_at->rH
open Go.Event renaming mute->tl
open Go.RowKit.Below renaming heap_alloc->vL
open ByteArray renaming size->x3
open Ne renaming symm->bk
open Iff renaming rfl->bl
noncomputable section
namespace Go.Rs
open Go.Conc
open Go.ConcN (sumTo upd sumTo_upd upd_ne upd_same sumTo_congr)
section
variable{j:Nat}{x:bm}{m:Nat}{es:Array Event}
def dO{P:ee}(T:dY P)(S:Nat->Prop)(n N0 n0:Nat)(w0:dr)(i d:Nat)(b:Option (Nat×Nat))(gs:Array ei)(t:hD)(w:dr)(F:Nat):=∃a w' ops ms' ws' fs' p' ρ' q' wk',hN P (eV gs (w.at d) b) i=(.next (eV a w' b),ops)/\aP T S n N0 n0 w0 ms' ws' fs' p' ρ' q' wk' a (t++ops) w'/\bW T.d.length ms' ws' fs'<F
section
variable{P:Program}{T:dY P}{S:Nat->Prop}{n N0 n0:Nat}{w0:World}{ms ms':bD}{ws ws':Nat->bm}{fs fs':bJ}{p p':Nat->ai}{ρ:Nat->dm}{q wk:Nat->Nat}{gs:Array Goroutine}{t u:Trace}{w w':World}
theorem ed.s(h:ed T ms ws fs)(a:ms'.a=ms.a)(b:ms'.f=ms.f)(hp:∀l,ms'≠ .dH l)(d:∀l,ms'≠ .eF l):ed T ms' ws fs:= ⟨h.g,by grind,h.f,λ l _=>hp l,h.b,λ j c=>by rw[a];exact h.d j c,by rw[a];exact h.a,h.c,by rw[b];exact h.e,by grind⟩
theorem ed.r(h:ed T ms ws fs)(p:j<3)(m:ws j≠ .fD)(q:x≠ .fD)(hp:x≠ .eA)(r:∀a b c,x≠ .eh a b c)(s:x.g=true->fs.c=true)(o:x.a=(ws j).a):ed T ms (b2 ws j x) fs:=by
 have e:∀l,l≠j->b2 ws j x l=ws l:=λ l d=>cr ws x d;have hand:∀l,(b2 ws j x l).a=(ws l).a:=λ l=>by grind[df]
 refine⟨λ k l g=>?_,λ l l' y own t i=>?_,λ n l=>?_,h.n,λ l d=>?_,λ l d=>?_,h.a,λ l d=>?_,by rw[hand,hand,hand];exact h.e,h.i⟩;by_cases d:l=j
 grind[df]
 rw[e l d];exact h.g k l g;by_cases d:l'=j
 grind[df]
 rw[e _ d];exact h.h l _ y _ _ i;by_cases d:l=j
 grind[df]
 rw[e l d];exact h.f n l;by_cases f:l=j
 grind[df]
 rw[e l f]at d;exact h.b l d;by_cases f:l=j;subst f;rw[df];exact⟨by grind,λ e=>absurd ((h.d l d).2 e) m⟩;rw[e l f];exact h.d l d;rw[e l (by omega)];exact h.c l d
theorem ed.o(h:ed T ms ws fs)(h1:fs.c=true)(h2:fs'.c=true)(h3:∀k,fs'≠ .ff k)(h4:fs≠ .cg)(b:fs'≠ .cg)(h5:fs.e T.d.length=T.d.length)(a:fs'.e T.d.length=T.d.length)(h6:fs'= .dD->∀l,ms≠ .dH l)(h7:fs≠ .dD):ed T ms ws fs':= ⟨by grind,h.h,λ _=>h.f h1,λ l e=>h6 e l,λ j _=>h2,h.d,⟨by grind,λ e=>absurd (h.a.2 e) h4⟩,h.c,by rw[a,<-h5];exact h.e,λ l e=>absurd (h.i l e) h7⟩
theorem sj(h:x.e=(ws j).e)(l):(b2 ws j x l).e=(ws l).e:=by grind[df,cr]
theorem KE(h:x.b=(ws j).b)(l):(b2 ws j x l).b=(ws l).b:=by grind[df,cr]
theorem oG(h:x.b=(ws j).b):bz ms (b2 ws j x)=bz ms ws:=by grind[bz,KE]
theorem zB(b:j<3)(h:x.b=true)(a:(ws j).b=false):bz ms (b2 ws j x)=bz ms ws- 1:=by grind[b2,cr,df,bz]
theorem rb(b:j<3)(h:x.b=(ws j).b)(a:x.c< (ws j).c):bW m ms (b2 ws j x) fs<bW m ms ws fs:=by grind[b2,cr,df,bW,oG]
theorem E4(h:fs'.b m (bz ms ws)<fs.b m (bz ms ws)):bW m ms ws fs'<bW m ms ws fs:=by unfold bW;omega
theorem Fj(h:ed T ms ws fs)(b:fs.c=false):∀j,(ws j).b=false:=λ j=>by cases a:(ws j).b with|false=>rfl|true=>
 have:(ws j).g=true:=by generalize ws j=x at a;cases x<;>first|rfl|cases a
 rw[h.b j this]at b;omega
theorem Dp(h:ed T ms ws fs)(a:fs.c=false):bz ms ws=ms.c:=by unfold bz;rw[Fj h a,Fj h a,Fj h a];simp
theorem nj(e){b}(f:es=gK (bg b)\/es=jK (bg b)\/es=qP (bg b))(d:e∈es):∃a c,e= ⟨.cell a,c,true⟩/\a.block=b:=by grind[gK,jK,qP]
theorem Aj(a b)(c):eL ⟨.cell b,c,true⟩≠ .mark (.release a):=by grind[q0]
theorem yd(b)(a)(x)(h:(eL ⟨.cell b,a,true⟩).touch?=some x):x.kind≠ .said:=by grind[q0,gE,Option.some.injEq]
theorem qY(d)(a)(b:es=gK a\/es=jK a\/es=qP a):gb d es=d:=by grind[Go.Conc.deafBehind_still,gK,jK,qP]
theorem E6{st e}(h:ba T.a w st e)(x):(w.setCell (bg T.a) (.int .u64 x)).heap.size=w.heap.size/\(∀a,a≠T.a->a≠T.c->a≠T.b->(w.setCell (bg T.a) (.int .u64 x)).heap[a]?=w.heap[a]?)/\(∀c,(c=T.a\/c=T.c\/c=T.b)->dT w c->dT (w.setCell (bg T.a) (.int .u64 x)) c):= ⟨Ma _ _ _,λ a b _ _=>nI _ _ _ b,λ c _ d=>JE h rfl _ d⟩
theorem IA{st e}(h:ba T.a w st e)(x):(w.setCell (dL T.a) (.int .u32 x)).heap.size=w.heap.size/\(∀a,a≠T.a->a≠T.c->a≠T.b->(w.setCell (dL T.a) (.int .u32 x)).heap[a]?=w.heap[a]?)/\(∀c,(c=T.a\/c=T.c\/c=T.b)->dT w c->dT (w.setCell (dL T.a) (.int .u32 x)) c):= ⟨Ma _ _ _,λ a b _ _=>nI _ _ _ b,λ c _ d=>JE h rfl _ d⟩
theorem aP.ajY(m:T.g)(h:aP T S n N0 n0 w0 (.iN j) ws fs p ρ q wk gs t w){g}(I:gs[0]?=some g)(N:T.n j (dk t 0) g)(d)(B):dO T S n N0 n0 w0 0 d B gs t w (bW T.d.length (.iN j) ws fs):=by
 have⟨ab,ae,g',M,L,k,ad⟩:=m.M j _ g N;have⟨ac,ah⟩:=h.r;have r:=h.a.d;have K:fs= .cg:=r.a.2 (by show min j 3<=3;omega);subst K;have aa:bz (.iN j) ws=j:=Dp r rfl;have o:ba T.a w (bR j 0) 0:=by have:=h.a.o.1;grind
 have⟨u,C,X⟩:=E6 (T:=T) o (bR (j+1) 0);let ms':bD:=if j=0 then .lI else .go j;have i:ms'.a=(bD.iN j).a:=by grind[min,bD.a]
 have H:ms'.f=(bD.iN j).f:=by show(if j=0 then bD.lI else bD.go j).f=_;split<;>rfl
 have v:∀l,ms'≠ .dH l:=λ l=>by grind
 have Q:∀l,ms'≠ .eF l:=λ l=>by grind
 have F:ms'.c=j+1:=by grind[bD.c]
 have A:ed T ms' ws .cg:=r.s i H v Q;have af:de T ms' .cg=de T (.iN j) .cg:=by grind[de]
 have E:∀e∈gK (bg T.a),∃a W,e= ⟨.cell a,W,true⟩/\a.block=T.a:=λ e c=>nj e (.inl rfl) c;have ai:=(wh (h.c.c d).k (g:=0) (.inl rfl) g.frame.fn g.frame.place (λ e c=> .inr (E e c))).m (w':=(w.at d).setCell (bg T.a) (.int .u64 (bR (j+1) 0))) (gg u.symm);have D:Ab T n N0 w0 ms' ws .cg p (t++eg 0 g.frame.fn g.frame.place (gK (bg T.a))) ((w.at d).setCell (bg T.a) (.int .u64 (bR (j+1) 0))):=by
  refine h.a.z A ⟨?_,h.a.o.2⟩ (let⟨s,e⟩:=h.a.r; ⟨s,(nI _ _ _ (bk h.a.c.2.1)).trans e⟩) (let⟨s,e⟩:=h.a.q; ⟨s,(nI _ _ _ (bk h.a.c.2.2)).trans e⟩) u C h.a.l (λ l x own z e=>?_) h.a.f
   (uh λ e c=>by grind[f,Aj]) (h.a.h (uM λ e c x ag=>by grind[f,yd]) rfl bl) ⟨rfl,rfl,rfl⟩
  rw[Dp A rfl,F];exact w7 o _;have⟨R,y⟩:=h.a.g l x own z e;refine⟨m.e x own z w _ R λ b i=>nI _ _ _ λ Y=>?_,y⟩;have:=(h.c.k.c _ b (h.c.k.e _ b (y b i))).2.2
  grind
 have J:rI T ms' (.cF T.J (if j=0 then T.t else T.B j)):=by
  grind[rI]
 have⟨Z,ops,U,V⟩:=h.E m I d B (M (w.at d) o) (p':=p) (ms':=ms') (ws':=ws) (fs':= .cg) (by grind) (λ _ _=>rfl) (.cF T.J (if j=0 then T.t else T.B j)) k u C X ⟨rfl,rfl,rfl⟩ D
  ⟨.inl L,by grind[qY]⟩ (λ _ _ e=>by cases e) (λ _ _ x=>x) i (.inl rfl) (λ e=>absurd rfl e) (λ _=> ⟨J,v⟩) (λ _ _=>rfl) (λ l _ e=>by have:=h.a.e;omega) (λ _=>rfl) (λ e=>by omega)
 refine⟨_,_,_,_,_,_,p,_,_,_,U,V,?_⟩
 grind[bW,bD.d,bJ.b]
end
variable{P:Program}{T:dY P}{S:Nat->Prop}{n N0 n0:Nat}{w0:World}{ms ms':bD}{ws ws':Nat->bm}{fs fs':bJ}{p p':Nat->ai}{ρ:Nat->dm}{q wk:Nat->Nat}{gs:Array Goroutine}{t u:Trace}{w w':World}
variable{J:World->Prop}
theorem aP.C(v:T.g)(h:aP T S n N0 n0 w0 ms ws fs p ρ q wk gs t w){i g g'}(H:gs[i]?=some g)(d)(B)(Y:ef P (i==0) g (w.at d)= .go g' w' es)(K:bP S (λ b=>b=T.a\/b=T.c\/b=T.b) n0 (bE n ws fs) (de T ms fs) p (t++eg i g.frame.fn g.frame.place es) (w.at d))(y:bE n ws' fs'=bE n ws fs)(W:de T ms' fs'=de T ms fs)(u:w'.heap.size=w.heap.size)(m:∀a,a≠T.a->w'.heap[a]?=w.heap[a]?)(O:∀c,(c=T.a\/c=T.c\/c=T.b)->dT w c->dT w' c)(z:w'.os=w.os/\w'.output=w.output/\w'.tape=w.tape)(ac:ed T ms' ws' fs')(af:ib T ms' ws' fs' w')(X:fs'.c=fs.c)(G:fs'.a=fs.a)(Q:∀j x own f,ws' j= .eh x own f->ws j= .eh x own f)(U:∀e∈es,eL e≠ .mark (.release (bg T.a)))(said:∀k x,j3 (t++eg i g.frame.fn g.frame.place es) k=some x->x.kind= .said->x.loc= .cell (dL T.a)->if fs'.d=true then gf (t++eg i g.frame.fn g.frame.place es) (n+3) k else(fs'= .cg->gf (t++eg i g.frame.fn g.frame.place es) 0 k))(Stop)(V:bM P (i==0) J (gb (dk t i) es) g' Stop)(r:ms'.a=ms.a)(I:i=0\/n<=i)(N:i≠0->ms'=ms)(M:i=0->rI T ms' (.cF J Stop)/\∀l,ms'≠ .dH l)(aa:∀j,n+j≠i->ws' j=ws j)(Z:∀j,j<3->n+j=i->uY T (ws' j) (.cF J Stop))(F:i≠n+3->fs'=fs)(E:i=n+3->xq T fs' (.cF J Stop))(D:bW T.d.length ms' ws' fs'<bW T.d.length ms ws fs):dO T S n N0 n0 w0 i d B gs t w (bW T.d.length ms ws fs):=by
 have⟨R,k,L⟩:=V;have C:Ab T n N0 w0 ms' ws' fs' p (t++eg i g.frame.fn g.frame.place es) w':=by refine h.a.z ac af (let⟨s,e⟩:=h.a.r; ⟨s,by rw[X,m _ (bk h.a.c.2.1)];exact e⟩) (let⟨s,e⟩:=h.a.q; ⟨s,by rw[G,m _ (bk h.a.c.2.2)];exact e⟩) u (λ a o _ _=>m a o) (by rw[y];exact h.a.l) (λ l x own f e=>?_) h.a.f (uh U) said z;have⟨ab,A⟩:=h.a.g l x own f (Q l x own f e);refine⟨v.e x own f w _ ab λ b r=>m b λ ag=>?_,A⟩;have:=(h.c.k.c _ b (h.c.k.e _ b (A b r))).2.2;omega
 have⟨ah,ops,ad,ae⟩:=h.E v H d B Y (p':=p) (ms':=ms') (ws':=ws') (fs':=fs') (by rw[y,W];exact K.m (gg u.symm)) (λ _ _=>rfl) (.cF J Stop) k u (λ a o _ _=>m a o) O z C ⟨.inl R,L⟩ (λ _ _ e=>by cases e) (λ _ _ x=>by simp_all) r I N M aa Z F E;exact⟨_,_,_,_,_,_,p,_,_,_,ad,ae,D⟩
theorem Jj(ms ms')(fs)(h:∀l,ms≠ .eF l)(a:∀l,ms'≠ .eF l):de T ms' fs=de T ms fs:=by cases ms<;>cases ms'<;>first|rfl| (exfalso;exact h _ rfl)| (exfalso;exact a _ rfl)| (cases fs<;>rfl)
theorem wu(ms)(fs fs')(h:fs≠ .dD/\fs≠ .fG)(a:fs'≠ .dD/\fs'≠ .fG):de T ms fs'=de T ms fs:=by cases ms<;>cases fs<;>cases fs'<;>first|rfl| (exfalso;exact h.1 rfl)| (exfalso;exact h.2 rfl)| (exfalso;exact a.1 rfl)| (exfalso;exact a.2 rfl)
theorem aP.U(c:T.g)(h:aP T S n N0 n0 w0 .lI ws fs p ρ q wk gs t w){g}(r:gs[0]?=some g)(z:T.t (dk t 0) g)(d)(m):dO T S n N0 n0 w0 0 d m gs t w (bW T.d.length .lI ws fs):=by
 have⟨B,E,g',y,F⟩:=c.A _ g z;have l:=h.a.d;have v:fs= .cg:=l.a.2 (by trivial);subst v;have D:=h.a.e;have f:∀k x,j3 t k=some x->x.kind= .said->x.loc= .cell (dL T.a)->gf t 0 k:=λ k x a b o=>(h.a.B k x a b o) rfl;refine h.C c (i:=0) r d m (ms':= .go 0) (ws':=ws) (fs':= .cg) (y (w.at d)) (P7 (h.c.c d).k (.inl rfl) _ _ (.inl rfl) f) rfl (Jj _ _ _ (by simp) (by simp)) rfl (λ _ _=>rfl) (λ _ _ x=>x) ⟨rfl,rfl,rfl⟩ (l.s rfl rfl (by simp) (by simp)) ?_ rfl rfl (λ _ _ _ _ e=>e) (λ e C=>?_) (λ k x A s u=>?_) (T.B 0) ?_ rfl (.inl rfl) (λ e=>absurd rfl e) (λ _=> ⟨⟨by omega,rfl⟩,by simp⟩) (λ _ _=>rfl) (λ j _ e=>by omega) (λ _=>rfl) (λ e=>by omega) ?_;have:=h.a.o;trivial
 grind[fp,eL]
 show(.cg:bJ)= .cg->_;intro _;rcases lx A with⟨_,a⟩| ⟨_,op,a,b,_⟩
 exact(f k x a s u).app _;have:=nV b
 grind[gz];all_goals grind[gb,dk,fp,read,bW,bD.d,bJ.b]
theorem rO(h:aP T S n N0 n0 w0 ms ws fs p ρ q wk gs t w)(j):n+j≠0:=by have:=h.a.e;omega
theorem aP.s(z:T.g)(h:aP T S n N0 n0 w0 ms ws fs p ρ q wk gs t w){j}(F:j<3){g g'}(E:gs[n+j]?=some g)(d)(v){x}(V:ef P false g (w.at d)= .go g' w' es)(G:bP S (λ b=>b=T.a\/b=T.c\/b=T.b) n0 (bE n ws fs) (de T ms fs) p (t++eg (n+j) g.frame.fn g.frame.place es) (w.at d))(B:x.e=(ws j).e)(N:w'.heap.size=w.heap.size)(H:∀a,a≠T.a->w'.heap[a]?=w.heap[a]?)(M:∀c,(c=T.a\/c=T.c\/c=T.b)->dT w c->dT w' c)(L:w'.os=w.os/\w'.output=w.output/\w'.tape=w.tape)(o:(ws j).g=true)(m:x.g=true)(O:ib T ms (b2 ws j x) fs w')(R:∀e∈es,e.mute=true\/∃a Q,e= ⟨.cell a,Q,true⟩)(Stop)(U:bM P false J (gb (dk t (n+j)) es) g' Stop)(W:uY T x (.cF J Stop))(A:bW T.d.length ms (b2 ws j x) fs<bW T.d.length ms ws fs):dO T S n N0 n0 w0 (n+j) d v gs t w (bW T.d.length ms ws fs):=by
 have u:=h.a.d;have K:=rO h j;have r:((n+j)==0)=false:=by grind
 have k:∀y:bm,y.g=true->y.a= []/\y≠ .fD/\y≠ .eA/\∀a b c,y≠ .eh a b c:=λ y s=>by cases y<;>first| (cases s;done)|exact⟨rfl,by simp,by simp,by simp⟩
 have D:∀e∈es,∀y,(eL e).touch?=some y->y.kind≠ .said:=λ e C y s=>by grind[f,k8,yd]
 refine h.C z (i:=n+j) E d v (ms':=ms) (ws':=b2 ws j x) (fs':=fs) (by rw[r];omega) G (mJ (λ l _=>sj B l) rfl) rfl N H M L (u.r F (k _ o).2.1 (k _ m).2.1 (k _ m).2.2.1 (k _ m).2.2.2 (λ _=>u.b j o) ((k _ m).1.trans (k _ o).1.symm)) O rfl rfl (λ l y own X e=>?_) (λ e C=>?_) (h.a.h (uM D) rfl bl) Stop (by rw[r];omega) rfl (.inr (by omega)) (λ _=>rfl) (λ e=>absurd e K) (λ l I=>cr ws x (by omega)) (λ l _ I=>?_) (λ _=>rfl) (λ e=>by omega) A;all_goals grind[df,absurd,cr,f,xd,Aj]
variable{g:Goroutine}
theorem Wk(m){c c'}(h:c<=c'):bJ.b m c fs<=bJ.b m c' fs:=by cases fs<;>simp[bJ.b]<;>omega
theorem Vn{m}(g:j<3)(f:x.c< (ws j).c)(h:x.b=(ws j).b\/(x.b=true/\(ws j).b=false)):bW m ms (b2 ws j x) fs<bW m ms ws fs:=by
 obtain h| ⟨c,d⟩:=h;simp_all[rb];have e:∀l,l≠j->b2 ws j x l=ws l:=λ l b=>cr ws x b;have s:b2 ws j x j=x:=df ws j x;have a:bz ms (b2 ws j x)<=bz ms ws:=by grind[zB]
 have i:=Wk (fs:=fs) m a
 grind[bW]
theorem JV(h:ed T ms ws fs)(b:fs≠ .cg):ms.c=3:=by have:¬ms.a<=3:=λ a=>b (h.a.2 a);cases ms<;>simp[bD.a,bD.c]at this⊢<;>omega
theorem J0:bz ms ws<=ms.c:=by unfold bz;omega
theorem O3(b:j<3)(a:ms.c=3)(c:(ws j).b=false):0<bz ms ws:=by grind[bz]
theorem Zv(c:j<3)(a:ms.c=3)(d:(ws j).b=false)(b:bz ms ws=1):∀l,l<3->l≠j->(ws l).b=true:=by grind[bz]
theorem Nu(h:x.b=true)(h1:x≠ .dg/\x≠ .dA/\x≠ .dt):x= .cd:=by cases x<;>first|rfl|exact absurd rfl h1.1|exact absurd rfl h1.2.1|exact absurd rfl h1.2.2|cases h
theorem aP.aj6(F:T.g)(h:aP T S n N0 n0 w0 ms ws fs p ρ q wk gs t w)(i:j<3)(y:ws j= .lF)(R:gs[n+j]?=some g)(Z:T.G (dk t (n+j)) g)(d)(u):dO T S n N0 n0 w0 (n+j) d u gs t w (bW T.d.length ms ws fs):=by
 have⟨Q,ai,V⟩:=F.H _ g Z;have K:=h.a.d;have Y:fs.c=true:=K.b j (by rw[y];rfl);have U:fs≠ .cg:=λ e=>by rw[e]at Y;trivial
 have v:ms.c=3:=JV K U;have o:(ws j).b=false:=by rw[y];rfl
 have P:0<bz ms ws:=O3 i v o;have s:∀x,b2 ws j x j=x:=λ x=>df ws j x;have e:∀x l,l≠j->b2 ws j x l=ws l:=λ x l I=>cr ws x I;have key:∀b E,b<=1->ba T.a w (bR (bz ms ws) b) E->∀x,x=(if bz ms ws=1/\b=1 then .dg else .cd)->
  ib T ms (b2 ws j x) fs ((w.at d).setCell (bg T.a) (.int .u64 (bR (bz ms ws- 1) b)))->dO T S n N0 n0 w0 (n+j) d u gs t w (bW T.d.length ms ws fs):=by
  intro b E N J x m f;have⟨g',X,aj⟩:=V (bz ms ws) b P (v▸J0) N;have C:x.g=true/\x.e=false/\x.b=true/\x.c<bm.lF.c:=by rw[m];split<;>exact⟨rfl,rfl,rfl,by simp[bm.c]⟩
  have⟨ad,_,ae⟩:=E6 (T:=T) J (bR (bz ms ws- 1) b);refine h.s F i R d u (x:=x) (X (w.at d) E J) (DY (h.c.c d).k h.o (by omega) _ _ λ e B=>nj e (.inl rfl) B) (by rw[y];exact C.2.1) ad (λ a v=>nI _ _ _ v) ae ⟨rfl,rfl,rfl⟩ (by rw[y];rfl) C.1 f
   (λ e B=> .inr (let⟨a,ac,r,_⟩:=nj e (.inl rfl) B; ⟨a,ac,r⟩)) (if bz ms ws=1/\b=1 then T.x else gM) (by rw[qY _ _ (.inl rfl),Q];omega) ?_ (Vn i (by grind) (.inr ⟨C.2.2.1,o⟩))
  rw[m];split<;>rfl
 have D:∀x,x= .cd->(∀l,ws l≠ .dg/\ws l≠ .dA/\ws l≠ .dt)->∀l,b2 ws j x l≠ .dg/\b2 ws j x l≠ .dA/\b2 ws j x l≠ .dt:=λ x m G l=>by
  grind
 have ak:(ba T.a w (bR (bz ms ws) 1) 0/\0<bz ms ws/\∀l,ws l≠ .dg/\ws l≠ .dA/\ws l≠ .dt)->(fs= .iH\/fs= .eE\/fs= .dZ)->dO T S n N0 n0 w0 (n+j) d u gs t w (bW T.d.length ms ws fs):=λ⟨k1,_,ab⟩H=>by
  refine key 1 0 (fx _) k1 _ rfl ?_;by_cases r:bz ms ws=1;have m:(if bz ms ws=1/\1=1 then bm.dg else .cd)= .dg:=if_pos ⟨r,rfl⟩;rw[m];have A:bz ms (b2 ws j .dg)=0:=by rw[zB i rfl o];omega
  have L:∀l,l<3->l≠j->b2 ws j .dg l= .cd:=λ l I ah=>by
   grind[Nu,Zv]
  have M:ba T.a ((w.at d).setCell (bg T.a) (.int .u64 (bR (bz ms ws- 1) 1))) (bR 0 1) 0:=by
   rw[r];exact w7 k1 _
  rcases H with rfl|rfl|rfl<;>exact .inr ⟨A,j,i,L,.inl ⟨M,.inl (s _)⟩⟩
  rw[if_neg λ x=>r x.1];have A:bz ms (b2 ws j .cd)=bz ms ws- 1:=zB i rfl o;have fin:ba T.a ((w.at d).setCell (bg T.a) (.int .u64 (bR (bz ms ws- 1) 1))) (bR (bz ms (b2 ws j .cd)) 1) 0/\0<bz ms (b2 ws j .cd)/\∀l,b2 ws j .cd l≠ .dg/\b2 ws j .cd l≠ .dA/\b2 ws j .cd l≠ .dt:= ⟨by rw[A];exact w7 k1 _,by omega,D _ rfl ab⟩;rcases H with rfl|rfl|rfl<;>exact .inl fin
 have af:(bz ms ws=0/\∃l,l<3/\(∀l',l'<3->l'≠l->ws l'= .cd)/\((ba T.a w (bR 0 1) 0/\(ws l= .dg\/ws l= .dA))\/(ba T.a w 0 0/\ws l= .dt)\/(ba T.a w 0 1/\ws l= .cd)))->False:=λ⟨k1,_⟩=>by omega
 have ag:(ba T.a w 0 0/\∀l,l<3->ws l= .cd)->False:=λ⟨_,k⟩=>by grind
 have f:=h.a.o;have plain:∀(G:∀l,ws l≠ .dg/\ws l≠ .dA/\ws l≠ .dt),ba T.a w (bR (bz ms ws) 0) 0->(∀W,ba T.a W (bR (bz ms (b2 ws j .cd)) 0) 0->ib T ms (b2 ws j .cd) fs W)->dO T S n N0 n0 w0 (n+j) d u gs t w (bW T.d.length ms ws fs):=λ G k1 aa=>by
  refine key 0 0 (by omega) k1 _ (by simp) (aa _ ?_);rw[zB i rfl o];exact w7 k1 _
 cases fs with
 |cg=>trivial
 |dF k=>trivial
 |ff k=>trivial
 |ir=>exact plain f.2 f.1 λ W z=> ⟨z,D _ rfl f.2⟩
 |lD c=>exact plain f.2.2 f.1 λ W z=> ⟨z,by rw[zB i rfl o];have:=f.2.1;omega,D _ rfl f.2.2⟩
 |iH=>exact f.elim (by grind) (by omega)
 |eE=>exact f.elim (by grind) (by omega)
 |dZ=>exact f.elim (by grind) (by omega)
 |kI=>trivial
 |jC=>trivial
 |fG=>trivial
 |dD=>trivial
theorem D6(h:aP T S n N0 n0 w0 ms ws fs p ρ q wk gs t w)(d:j<3)(g:ws j= .dg\/ws j= .dA\/ws j= .dt):(fs= .iH\/fs= .eE\/fs= .dZ)/\bz ms ws=0/\(∀l,l<3->l≠j->ws l= .cd)/\(((ws j= .dg\/ws j= .dA)/\ba T.a w (bR 0 1) 0)\/(ws j= .dt/\ba T.a w 0 0)):=by
 have a:=h.a.o;have no:(∀l,ws l≠ .dg/\ws l≠ .dA/\ws l≠ .dt)->False:=λ k=>by grind
 have o:(ba T.a w 0 0/\∀l,l<3->ws l= .cd)->False:=λ⟨_,k⟩=>by grind
 have b:(bz ms ws=0/\∃l,l<3/\(∀l',l'<3->l'≠l->ws l'= .cd)/\((ba T.a w (bR 0 1) 0/\(ws l= .dg\/ws l= .dA))\/(ba T.a w 0 0/\ws l= .dt)\/(ba T.a w 0 1/\ws l= .cd)))->bz ms ws=0/\(∀l,l<3->l≠j->ws l= .cd)/\(((ws j= .dg\/ws j= .dA)/\ba T.a w (bR 0 1) 0)\/(ws j= .dt/\ba T.a w 0 0)):=λ⟨k1,l,f,i,m⟩=>by
  have e:l=j:=by grind
  grind
 cases fs with
 |iH=>exact⟨.inl rfl,a.elim (by grind) b⟩|eE=>exact⟨.inr (.inl rfl),a.elim (by grind) b⟩|dZ=>exact⟨.inr (.inr rfl),a.elim (by grind) (by grind)⟩|lD c=>exact(no a.2.2).elim|kI=>trivial|jC=>trivial|fG=>trivial|dD=>trivial|cg=>exact(no a.2).elim|dF k=>exact(no a.2).elim|ff k=>exact(no a.2).elim|ir=>exact(no a.2).elim
theorem IG(b:fs= .iH\/fs= .eE\/(fs= .dZ/\x≠ .cd))(a:j<3)(e:bz ms ws=0)(h:(ws j).b=true)(f:∀l,l<3->l≠j->ws l= .cd)(i:x.b=true)(k:(ba T.a w' (bR 0 1) 0/\(x= .dg\/x= .dA))\/(ba T.a w' 0 0/\x= .dt)\/(ba T.a w' 0 1/\x= .cd)):ib T ms (b2 ws j x) fs w':=by
 have fin:bz ms (b2 ws j x)=0/\∃l,l<3/\(∀l',l'<3->l'≠l->b2 ws j x l'= .cd)/\((ba T.a w' (bR 0 1) 0/\(b2 ws j x l= .dg\/b2 ws j x l= .dA))\/(ba T.a w' 0 0/\b2 ws j x l= .dt)\/(ba T.a w' 0 1/\b2 ws j x l= .cd)):= ⟨by grind[oG],j,a,λ l c d=>by grind[cr],by grind[df]⟩;obtain rfl|rfl| ⟨rfl,g⟩:=b
 exact .inr fin;exact .inr fin;refine .inr ⟨fin.1,j,a,λ l c d=>by grind[cr],?_⟩
 grind[df,id,absurd]
theorem aP.ajW(k:T.g)(h:aP T S n N0 n0 w0 ms ws fs p ρ q wk gs t w)(c:j<3)(b:ws j= .dg)(s:gs[n+j]?=some g)(v:T.x (dk t (n+j)) g)(d)(y):dO T S n N0 n0 w0 (n+j) d y gs t w (bW T.d.length ms ws fs):=by
 have⟨o,A,g',u,B⟩:=k.B _ g v;have⟨z,m,r,i⟩:=D6 h c (.inl b);have i:ba T.a w (bR 0 1) 0:=by grind
 exact h.s k c s d _ (x:= .dA) (u _ 0 i) (DY (h.c.c d).k h.o (by omega) _ _ λ e f=>nj e (.inr (.inl rfl)) f) (by rw[b];rfl) rfl (λ _ _=>rfl) (λ _ _ x=>x) ⟨rfl,rfl,rfl⟩ (by rw[b];rfl) rfl (IG (by grind) c m (by rw[b];rfl) r rfl (.inl ⟨i,.inr rfl⟩)) (λ e f=> .inr (let⟨a,C,l,_⟩:=nj e (.inr (.inl rfl)) f; ⟨a,_,l⟩)) _ (by rw[qY _ _ (.inr (.inl rfl)),o];omega) rfl (rb c (by rw[b];rfl) (by grind[bm.c]))
theorem aP.L(k:T.g)(h:aP T S n N0 n0 w0 ms ws fs p ρ q wk gs t w)(c:j<3)(b:ws j= .dA)(u:gs[n+j]?=some g)(y:T.u (dk t (n+j)) g)(d)(z):dO T S n N0 n0 w0 (n+j) d z gs t w (bW T.d.length ms ws fs):=by
 have⟨r,D,g',v,E⟩:=k.t _ g y;have⟨C,o,s,f⟩:=D6 h c (.inr (.inl b));have f:ba T.a w (bR 0 1) 0:=by grind
 have⟨A,_,B⟩:=E6 (T:=T) f 0;exact h.s k c u d _ (x:= .dt) (v _ 0 f) (DY (h.c.c d).k h.o (by omega) _ _ λ e i=>nj e (.inr (.inr rfl)) i) (by rw[b];rfl) A (λ a m=>nI _ _ _ m) B ⟨rfl,rfl,rfl⟩ (by rw[b];rfl) rfl (IG (by grind) c o (by rw[b];rfl) s rfl (.inr (.inl ⟨w7 f _,rfl⟩))) (λ e i=> .inr (let⟨a,F,l,_⟩:=nj e (.inr (.inr rfl)) i; ⟨a,_,l⟩)) _ (by rw[qY _ _ (.inr (.inr rfl)),r];omega) rfl (rb c (by rw[b];rfl) (by grind[bm.c]))
variable{Wg:Nat}{A:Nat->Prop}{rp:MemAct->Prop}
theorem Ou(g)(fn)(pos)(a b):eg g fn pos (a++b)=eg g fn pos a++eg g fn pos b:=by grind[hv]
theorem MZ(h:bP S (λ b=>b=T.a\/b=T.c\/b=T.b) n0 A rp p t w)(g)(fn)(pos)(c:∀e∈es,tl e=true):bP S (λ b=>b=T.a\/b=T.c\/b=T.b) n0 A rp p (t++eg g fn pos es) w:=h.z (λ op a=>gz a) (λ op a=>by grind[k5,Go.Conc.low_mute]) (λ op a=>by grind[k5,k8])
theorem aaI(a):lu a= #[⟨.mark .disable,false,true⟩]++gK a++ #[⟨.mark .enable,false,true⟩]:=rfl
theorem BS(e)(b:e∈lu (dL Wg)):e.mute=true\/∃a c,e= ⟨.cell a,c,true⟩/\a.block=Wg:=by simp[lu]at b;obtain rfl|rfl|rfl|rfl:=b;exact .inl rfl;simp;simp;exact .inl rfl
theorem Pk(h:bP S (λ b=>b=T.a\/b=T.c\/b=T.b) n0 A rp p t w)(c:S T.a)(g)(fn)(pos):bP S (λ b=>b=T.a\/b=T.c\/b=T.b) n0 A rp p (t++eg g fn pos (lu (dL T.a))) w:=by
 rw[aaI,Ou,Ou,<-re,<-re];refine MZ (DY (MZ h g fn pos λ e a=>by simp at a;subst a;rfl) c ?_ fn pos λ e a=>?_) g fn pos λ e a=>by simp at a;subst a;rfl
 rw[r3];show 0<dk t g+1;omega;grind[gK]
theorem H9(d)(a):gb d (lu a)=d:=by rfl
theorem aP.aj3(i:T.g)(h:aP T S n N0 n0 w0 ms ws fs p ρ q wk gs t w){j}(c:j<3)(b:ws j= .dt)(A:fs≠ .dZ)(r:gs[n+j]?=some g)(u:T.E (dk t (n+j)) g)(d)(v):dO T S n N0 n0 w0 (n+j) d v gs t w (bW T.d.length ms ws fs):=by
 have⟨B,D,_,g',s,E⟩:=i.y _ g u;have⟨C,l,o,f⟩:=D6 h c (.inr (.inr b));have f:ba T.a w 0 0:=by grind
 have⟨y,_,z⟩:=IA (T:=T) f 1;exact h.s i c r d _ (x:= .cd) (s _ f) (Pk (h.c.c d).k h.o _ _ _) (by rw[b];rfl) y (λ a k=>nI _ _ _ k) z ⟨rfl,rfl,rfl⟩ (by rw[b];rfl) rfl (IG (by grind) c l (by rw[b];rfl) o rfl (.inr (.inr ⟨I7 f _,rfl⟩))) (λ e m=>(BS e m).imp id (by grind)) _ (by grind[H9]) rfl (rb c (by rw[b];rfl) (by grind[bm.c]))
theorem aP.h(l:T.g)(h:aP T S n N0 n0 w0 ms ws fs p ρ q wk gs t w){g'}(r:gs[n+3]?=some g)(d)(E)(M:ef P false g (w.at d)= .go g' w' es)(f:fs.c=true/\fs.d=true/\fs.a=false/\fs.e T.d.length=T.d.length/\fs≠ .fG/\fs≠ .cg)(j:fs'.c=true/\fs'.d=true/\fs'.a=false/\fs'.e T.d.length=T.d.length/\fs'≠ .fG/\fs'≠ .cg)(s:bP S (λ b=>b=T.a\/b=T.c\/b=T.b) n0 (bE n ws fs) (de T ms fs) p (t++eg (n+3) g.frame.fn g.frame.place es) (w.at d))(A:w'.heap.size=w.heap.size)(u:∀a,a≠T.a->w'.heap[a]?=w.heap[a]?)(y:∀c,(c=T.a\/c=T.c\/c=T.b)->dT w c->dT w' c)(v:w'.os=w.os/\w'.output=w.output/\w'.tape=w.tape)(F:ib T ms ws fs' w')(z:∀e∈es,eL e≠ .mark (.release (bg T.a)))(said:∀k x,j3 (t++eg (n+3) g.frame.fn g.frame.place es) k=some x->x.kind= .said->x.loc= .cell (dL T.a)->gf (t++eg (n+3) g.frame.fn g.frame.place es) (n+3) k){J}(Stop)(L:bM P false J (gb (dk t (n+3)) es) g' Stop)(o:xq T fs' (.cF J Stop))(m:fs'.b T.d.length (bz ms ws)<fs.b T.d.length (bz ms ws)):dO T S n N0 n0 w0 (n+3) d E gs t w (bW T.d.length ms ws fs):=by
 have K:((n+3)==0)=false:=by simp
 have B:fs≠ .dD:=λ e=>by grind[absurd,bJ.a]
 have N:fs'≠ .dD:=λ e=>by grind[absurd,bJ.a]
 have C:∀k,fs'≠ .ff k:=λ k e=>by grind[absurd,bJ.c]
 refine h.C l (i:=n+3) r d _ (ms':=ms) (ws':=ws) (fs':=fs') (by trivial) s (mJ (λ _ _=>rfl) (by grind)) (wu _ _ _ (by grind) (by grind)) A u y v (h.a.d.o f.1 j.1 C f.2.2.2.2.2 j.2.2.2.2.2 f.2.2.2.1 j.2.2.2.1 (by grind) B) F (by grind) (by grind) (by grind) z (λ k x G H I=>by grind) _ (by grind) rfl (.inr (by omega)) (λ _=>rfl) (by omega) (λ _ _=>rfl) (by omega) (by omega) (λ _=>o) (E4 m)
theorem vM(h:Ab T n N0 w0 ms ws fs p t w)(f:fs.d=true){fn pos}(d:∀e∈es,∀x,(eL e).touch?=some x->x.kind≠ .said):∀k x,j3 (t++eg (n+3) fn pos es) k=some x->x.kind= .said->x.loc= .cell (dL T.a)->gf (t++eg (n+3) fn pos es) (n+3) k:=λ k x a b c=>by have:=h.h (u:=eg (n+3) fn pos es) (fs':=fs) (uM d) rfl bl k x a b c;grind
theorem yT(c:es=gK (bg Wg)\/es=jK (bg Wg)\/es=qP (bg Wg)):∀e∈es,∀x,(eL e).touch?=some x->x.kind≠ .said:=λ e b x d=>by obtain⟨a,f,rfl,_⟩:=nj e c b;exact yd _ _ x d
theorem zu(c:es=gK (bg Wg)\/es=jK (bg Wg)\/es=qP (bg Wg)):∀e∈es,eL e≠ .mark (.release (bg Wg)):=λ e b=>by obtain⟨a,d,rfl,_⟩:=nj e c b;exact Aj _ _ _
theorem nD(a:fs.d=true):bE n ws fs (n+3):= .inr (by grind)
theorem aP.V(b:T.g)(h:aP T S n N0 n0 w0 ms ws .ir p ρ q wk gs t w){g}(o:gs[n+3]?=some g)(C:T.q (dk t (n+3)) g)(d)(u):dO T S n N0 n0 w0 (n+3) d u gs t w (bW T.d.length ms ws .ir):=by
 have⟨m,E,B⟩:=b.E _ g C;have i:ms.c=3:=JV h.a.d (by simp);obtain⟨a,k⟩:ba T.a w (bR (bz ms ws) 0) 0/\∀j,ws j≠ .dg/\ws j≠ .dA/\ws j≠ .dt:=h.a.o;have⟨g',s,f⟩:=B (bz ms ws) (i▸J0);have r:=wh (h.c.c d).k (g:=n+3) (nD rfl) g.frame.fn g.frame.place (λ e y=> .inr (nj e (.inr (.inl rfl)) y));by_cases c:bz ms ws=0;rw[if_pos c]at f;refine h.h b o d u (fs':= .jC) (s (w.at d) 0 a) ⟨rfl,rfl,rfl,rfl,by simp,by simp⟩ ⟨rfl,rfl,rfl,rfl,by simp,by simp⟩ r rfl (λ _ _=>rfl) (λ _ _ x=>x) ⟨rfl,rfl,rfl⟩ ⟨?_,λ l z=>?_⟩ (zu (.inr (.inl rfl))) (vM h.a rfl (yT (.inr (.inl rfl)))) T.A (by rw[qY _ _ (.inr (.inl rfl)),m];exact f) rfl (by simp[bJ.b];omega);rw[c]at a;exact a;refine Nu ?_ (k l);cases A:(ws l).b with
 |true=>rfl
 |false=>have:=O3 z i A;omega
 rw[if_neg c]at f;exact h.h b o d _ (fs':= .lD _) (s _ 0 a) ⟨rfl,rfl,rfl,rfl,by simp,by simp⟩ ⟨rfl,rfl,rfl,rfl,by simp,by simp⟩ r rfl (λ _ _=>rfl) (λ _ _ x=>x) ⟨rfl,rfl,rfl⟩ ⟨a,fx _,k⟩ (zu (.inr (.inl rfl))) (vM h.a rfl (yT (.inr (.inl rfl)))) _ (by rw[qY _ _ (.inr (.inl rfl)),m];omega) rfl (by simp[bJ.b])
theorem aP.ajZ(f:T.g){c}(h:aP T S n N0 n0 w0 ms ws (.lD c) p ρ q wk gs t w)(o:gs[n+3]?=some g)(y:T.H c (dk t (n+3)) g)(d)(z):dO T S n N0 n0 w0 (n+3) d z gs t w (bW T.d.length ms ws (.lD c)):=by have⟨s,H,E,F,⟨C,u,I⟩,D,v,J⟩:=f.N c _ g y;obtain⟨b,G,l⟩:ba T.a w (bR (bz ms ws) 0) 0/\bz ms ws<=c/\∀j,ws j≠ .dg/\ws j≠ .dA/\ws j≠ .dt:=h.a.o;by_cases m:bz ms ws=c;have k:=wh (h.c.c d).k (g:=n+3) (nD rfl) g.frame.fn g.frame.place (λ e i=> .inr (nj e (.inl rfl) i));rw[m]at b;have⟨A,_,B⟩:=E6 (T:=T) b (bR c 1);exact h.h f o d _ (fs':= .iH) (u _ 0 b) ⟨rfl,rfl,rfl,rfl,by simp,by simp⟩ ⟨rfl,rfl,rfl,rfl,by simp,by simp⟩ k A (λ a r=>nI _ _ _ r) B ⟨rfl,rfl,rfl⟩ (.inl ⟨by rw[m];exact w7 b _,by omega,l⟩) (zu (.inl rfl)) (vM h.a rfl (yT (.inl rfl))) _ (by grind[qY]) rfl (by grind[bJ.b]);exact h.h f o d _ (fs':= .ir) (v _ _ 0 (by omega) b) ⟨rfl,rfl,rfl,rfl,by simp,by simp⟩ ⟨rfl,rfl,rfl,rfl,by simp,by simp⟩ (wh (h.c.c d).k (g:=n+3) (nD rfl) g.frame.fn g.frame.place (λ e i=> .inr (nj e (.inr (.inl rfl)) i))) rfl (λ _ _=>rfl) (λ _ _ x=>x) ⟨rfl,rfl,rfl⟩ ⟨b,l⟩ (zu (.inr (.inl rfl))) (vM h.a rfl (yT (.inr (.inl rfl)))) _ (by rw[qY _ _ (.inr (.inl rfl)),s];omega) rfl (by grind[bJ.b])
theorem aP.ajR(f:T.g)(h:aP T S n N0 n0 w0 ms ws .iH p ρ q wk gs t w)(m:gs[n+3]?=some g)(r:T.C (dk t (n+3)) g)(d)(j):dO T S n N0 n0 w0 (n+3) d j gs t w (bW T.d.length ms ws .iH):=by
 have⟨u,y,g',o,z⟩:=f.z _ g r;have i:∀k x,j3 t k=some x->x.kind= .said->x.loc= .cell (dL T.a)->gf t (n+3) k:=λ k x a b c=>h.a.B k x a b c;refine h.h f m d j (fs':= .eE) (o (w.at d)) ⟨rfl,rfl,rfl,rfl,by simp,by simp⟩ ⟨rfl,rfl,rfl,rfl,by simp,by simp⟩ (P7 (h.c.c d).k (nD rfl) _ _ (.inr rfl) i) rfl (λ _ _=>rfl) (λ _ _ x=>x) ⟨rfl,rfl,rfl⟩ h.a.o (λ e v=>?_) (λ k x s b c=>?_) T.m ?_ rfl (by simp[bJ.b])
 grind[fp,eL]
 rcases lx s with⟨_,a⟩| ⟨_,op,a,l,_⟩;exact(i k x a b c).app _;have:=nV l
 grind[gz];grind[gb,dk,fp]
theorem aP.M(a:T.g)(h:aP T S n N0 n0 w0 ms ws .kI p ρ q wk gs t w)(j:gs[n+3]?=some g)(m:T.r (dk t (n+3)) g)(d)(o):dO T S n N0 n0 w0 (n+3) d o gs t w (bW T.d.length ms ws .kI):=by have⟨f,r,g',k,s⟩:=a.q _ g m;obtain⟨b,c⟩:ba T.a w 0 0/\∀l,l<3->ws l= .cd:=h.a.o;exact h.h a j d _ (fs':= .jC) (k _ 0 b) ⟨rfl,rfl,rfl,rfl,by simp,by simp⟩ ⟨rfl,rfl,rfl,rfl,by simp,by simp⟩ (wh (h.c.c d).k (g:=n+3) (nD rfl) _ _ (λ e i=> .inr (nj e (.inr (.inl rfl)) i))) rfl (λ _ _=>rfl) (λ _ _ x=>x) ⟨rfl,rfl,rfl⟩ ⟨b,c⟩ (zu (.inr (.inl rfl))) (vM h.a rfl (yT (.inr (.inl rfl)))) _ (by rw[qY _ _ (.inr (.inl rfl)),f];omega) rfl (by simp[bJ.b])
abbrev vd:ai:= ⟨λ _=>False,λ _=>False⟩
theorem Lf{g k y}(e:gf (t++ #[y]) g k)(f:y.g=g):Before (t++ #[y]) k t.size:=by have⟨q,z,b,c,d⟩:=e;rcases getElem?_append_cases b with⟨i,a⟩| ⟨h,a⟩;have:gf t g q:=c▸nV a;exact .inr (d.hb (Iu this f));grind
theorem adk(d:j<3)(f:x.e=false)(i):bE n (b2 ws j x) fs i↔(bE n ws fs i/\i≠n+j)\/(i=0/\n+j=0):=by
 unfold bE;constructor
 grind[df,cr]
 rintro(⟨h| ⟨l,a,b,c⟩|h,e⟩| ⟨h,_⟩);omega;exact .inr (.inl ⟨l,a,b,by grind[cr]⟩)
 all_goals grind
theorem adW(h:ib T ms ws fs w)(m:∀j,(ws' j).b=(ws j).b)(d:∀j,ws' j= .dg\/ws' j= .dA\/ws' j= .dt->ws' j=ws j)(g:∀j,ws j= .cd\/ws j= .dg\/ws j= .dA\/ws j= .dt->ws' j=ws j)(b:bz ms' ws'=bz ms ws):ib T ms' ws' fs w:=by
 have no:(∀j,ws j≠ .dg/\ws j≠ .dA/\ws j≠ .dt)->∀j,ws' j≠ .dg/\ws' j≠ .dA/\ws' j≠ .dt:=λ k j=>⟨λ e=>(k j).1 ((d j (.inl e))▸e),λ e=>(k j).2.1 ((d j (.inr (.inl e)))▸e),λ e=>(k j).2.2 ((d j (.inr (.inr e)))▸e)⟩;have gone:∀j,ws j= .cd->ws' j= .cd:=λ j e=>(g j (.inl e)).trans e;have f:(bz ms ws=0/\∃j,j<3/\(∀l,l<3->l≠j->ws l= .cd)/\((ba T.a w (bR 0 1) 0/\(ws j= .dg\/ws j= .dA))\/(ba T.a w 0 0/\ws j= .dt)\/(ba T.a w 0 1/\ws j= .cd)))->(bz ms' ws'=0/\∃j,j<3/\(∀l,l<3->l≠j->ws' l= .cd)/\((ba T.a w (bR 0 1) 0/\(ws' j= .dg\/ws' j= .dA))\/(ba T.a w 0 0/\ws' j= .dt)\/(ba T.a w 0 1/\ws' j= .cd))):=λ⟨k1,j,i,n,o⟩=>by grind
 cases fs with
 |iH=>exact h.imp (by grind) f|eE=>exact h.imp (by grind) f|dZ=>exact h.imp (by grind) (by grind)|lD c=>exact⟨by rw[b];exact h.1,by rw[b];exact h.2.1,no h.2.2⟩|kI=>exact⟨h.1,λ l a=>gone l (h.2 l a)⟩|jC=>exact⟨h.1,λ l a=>gone l (h.2 l a)⟩|fG=>exact⟨h.1,λ l a=>gone l (h.2 l a)⟩|dD=>exact⟨h.1,λ l a=>gone l (h.2 l a)⟩|cg=>exact⟨by rw[b];exact h.1,no h.2⟩|dF k=>exact⟨by rw[b];exact h.1,no h.2⟩|ff k=>exact⟨by rw[b];exact h.1,no h.2⟩|ir=>exact⟨by rw[b];exact h.1,no h.2⟩
theorem sY(h:ib T ms ws fs w)(h1:(ws j).b=false)(h2:x.b=false)(b:bz ms' (b2 ws j x)=bz ms ws):ib T ms' (b2 ws j x) fs w:=by
 refine adW h (KE (h2.trans h1.symm)) (λ l a=>?_) (λ l a=>?_) b;by_cases e:l=j;subst e;rw[df]at a;rcases a with x|x|x<;>(rw[x]at h2;cases h2)
 grind[cr]
 by_cases e:l=j;subst e;rcases a with x|x|x|x<;>(rw[x]at h1;cases h1)
 grind[cr]
theorem As(h:ib T ms ws fs w)(a:j<3)(b:ws j≠ .cd):fs≠ .kI/\fs≠ .jC/\fs≠ .fG/\fs≠ .dD:=by refine⟨?_,?_,?_,?_⟩<;>(rintro rfl;exact b (h.2 j a))
theorem aP.aj0(u:T.g)(h:aP T S n N0 n0 w0 ms ws fs p ρ q wk gs t w)(s:j<3)(r:ws j= .ln)(I:gs[n+j]?=some g)(K:T.F (dk t (n+j)) g)(d)(C):dO T S n N0 n0 w0 (n+j) d C gs t w (bW T.d.length ms ws fs):=by
 have⟨Y,ac,g',ae,J,k,aa⟩:=u.L _ g K;have A:=h.a.d;have B:=rO h j;have X:((n+j)==0)=false:=by grind
 have z:=As h.a.o s (by grind);have ab:eg (n+j) g.frame.fn g.frame.place (fp (.releaseMerge (bg T.a)))= #[⟨n+j,g.frame.fn,g.frame.place,.mark (.releaseMerge (bg T.a))⟩]:=by grind[hv,fp,eL]
 have ad:de T ms fs (.mark (.releaseMerge (bg T.a))):=by cases ms<;>cases fs<;>first|rfl|exact absurd rfl ((λ l e=>z.2.2.2 (A.i l e)) _)|exact absurd rfl z.2.2.1|exact absurd rfl z.2.2.2
 have v:∀i,bE n (b2 ws j .lF) fs i↔bE n ws fs i/\i≠n+j:=λ i=>(adk s rfl i).trans ⟨λ x=>x.elim id λ y=>absurd y.2 B,.inl⟩;have M:bP S (λ b=>b=T.a\/b=T.c\/b=T.b) n0 (bE n (b2 ws j .lF) fs) (de T ms fs) (b2 p (n+j) vd) (t++eg (n+j) g.frame.fn g.frame.place (fp (.releaseMerge (bg T.a)))) (w.at d):=by refine (Pw (h.c.c d).k (n+j) g.frame.fn g.frame.place (m:= .releaseMerge (bg T.a)) (.inr rfl)).F (λ i c=>?_) (λ i c=>(v i).1 c) (λ _ x=>x) λ k Z=>?_;all_goals grind[oZ,AF,Lf]
 have Q:∀l x own f,b2 ws j .lF l= .eh x own f->l≠j/\ws l= .eh x own f:=λ l x own f e=>by grind[df,cr]
 have F:Ab T n N0 w0 ms (b2 ws j .lF) fs (b2 p (n+j) vd) (t++eg (n+j) g.frame.fn g.frame.place (fp (.releaseMerge (bg T.a)))) (w.at d):=by
  refine h.a.z (A.r s (by grind) (by simp) (by simp) (by simp) (λ _=>A.b j (by rw[r];rfl)) (by rw[r];rfl)) (sY h.a.o (by rw[r];rfl) rfl (oG (by rw[r];rfl))) h.a.r h.a.q rfl (λ _ _ _ _=>rfl) (λ i c=>?_) (λ l x own f e=>?_) (λ i a c=>?_)
   (uh λ e H=>?_) (h.a.h (uM λ e H x af=>?_) rfl bl) ⟨rfl,rfl,rfl⟩;have⟨D,E⟩:=(v i).1 c;rw[cr p _ E];exact h.a.l i D;have⟨V,G⟩:=Q l x own f e;rw[cr p _ (by omega)];have⟨O,P⟩:=h.a.g l x own f G;exact⟨u.e x _ _ w _ O λ _ _=>rfl,P⟩
  by_cases e:i=n+j
  grind[df]
  rw[cr p _ e]at c;exact h.a.f i a c
  all_goals grind[fp,eL,gE]
 have⟨W,ops,R,U⟩:=h.E u I d C (by grind) M (λ l o=>cr p _ o) (.cF T.J T.G) k rfl (λ _ _ _ _=>rfl) (λ _ _ x=>x) ⟨rfl,rfl,rfl⟩ F ⟨.inl J,by grind[gb,dk,fp]⟩ (λ _ _ e=>by cases e) (λ l o c=>(v l).2 ⟨c,o⟩) rfl (.inr (by omega)) (λ _=>rfl) (λ e=>absurd e B) (λ l o=>cr ws _ (by omega)) (λ l _ o=>by
  obtain rfl:l=j:=by omega
  rw[df];rfl) (λ _=>rfl) (λ e=>by omega);exact⟨_,_,_,_,_,_,_,_,_,_,R,U,rb s (by rw[r];rfl) (by grind[bm.c])⟩
theorem aP.aj4(f:T.g)(h:aP T S n N0 n0 w0 ms ws .jC p ρ q wk gs t w)(E:gs[n+3]?=some g)(I:T.A (dk t (n+3)) g)(d)(v):dO T S n N0 n0 w0 (n+3) d v gs t w (bW T.d.length ms ws .jC):=by
 have⟨B,R,g',U,D⟩:=f.I _ g I;have u:=h.a.d;have Q:((n+3)==0)=false:=by simp
 have F:eg (n+3) g.frame.fn g.frame.place (fp (.acquire (bg T.a)))= #[⟨n+3,g.frame.fn,g.frame.place,.mark (.acquire (bg T.a))⟩]:=by grind[hv,fp,eL]
 have H:∀a,de T ms .jC a->a= .mark (.releaseMerge (bg T.a)):=λ a=>by cases ms<;>first|exact id|exact λ x=>x.elim
 have J:bP S (λ b=>b=T.a\/b=T.c\/b=T.b) n0 (bE n ws .fG) (de T ms .fG) p (t++eg (n+3) g.frame.fn g.frame.place (fp (.acquire (bg T.a)))) (w.at d):=by
  rw[mJ (λ _ _=>rfl) rfl];refine (Pw (h.c.c d).k (n+3) g.frame.fn g.frame.place (m:= .acquire (bg T.a)) (.inl rfl)).G (i:=n+3) (nD rfl) λ r a c z o=>?_;have:=H a z;subst this;rw[F]at c o⊢;have s:r<t.size:=by have O:=lt_of_act? c;grind[hz,oZ]
  rw[act?_old s]at c;exact VS c ((heard_old s).1 o) (.inl rfl) rfl rfl B h.a.D
 have y:Ab T n N0 w0 ms ws .fG p (t++eg (n+3) g.frame.fn g.frame.place (fp (.acquire (bg T.a)))) (w.at d):=by
  refine h.a.z (u.o rfl rfl (by simp) (by simp) (by simp) rfl rfl (by simp) (by simp)) h.a.o h.a.r h.a.q rfl (λ _ _ _ _=>rfl) (h.a.l) (λ l x own k e=> ⟨f.e x own k w _ (h.a.g l x own k e).1 λ _ _=>rfl,(h.a.g l x own k e).2⟩) h.a.f (uh λ e C=>?_) (h.a.h (uM λ e C x W=>?_) rfl (by simp)) ⟨rfl,rfl,rfl⟩;all_goals grind[fp,eL,gE]
 have⟨G,r,V⟩:=D (p (n+3)) (w.at d) (h.a.l _ (nD rfl)) h.a.y;have⟨N,ops,L,M⟩:=h.E f E d v (by grind) J (λ l j=>rfl) (.cC T.s r) 0 rfl (λ _ _ _ _=>rfl) (λ _ _ x=>x) ⟨rfl,rfl,rfl⟩ y ⟨⟨G,by trivial⟩,by trivial⟩ (λ _ _ _=> .inr (.inr ⟨rfl,rfl⟩)) (λ l j P=>by trivial) rfl (.inr (by omega)) (λ _=>rfl) (λ e=>by omega) (λ l j=>rfl) (λ l _ j=>by omega) (λ e=>absurd rfl e) (λ _=> ⟨r,rfl⟩);exact⟨_,_,_,_,_,_,_,_,_,_,L,M,E4 (by simp[bJ.b])⟩
theorem Wz{a a' x}(h:a'.status= .blocked):fu P a a' w x=x:=by grind[fu]
theorem aP.z(f:T.g)(h:aP T S n N0 n0 w0 ms ws fs p ρ q wk gs t w)(C:fs= .eE\/fs= .dZ)(s:gs[n+3]?=some g)(J:T.m (dk t (n+3)) g)(O:ib T ms ws .dZ w)(d)(m){st}(M:ba T.a w st 0):∃o,hN P (eV gs (w.at d) m) (n+3)=(.next (eV o (w.at d) m),#[])/\aP T S n N0 n0 w0 ms ws .dZ p (b2 ρ (n+3) (.kD g)) q (b2 wk (n+3) 0) o (t++ #[]) (w.at d):=by
 have⟨B,H,G,L,g',R,U⟩:=f.u _ g J;have Q:((n+3)==0)=false:=by simp
 have a:fs.d=true/\fs.c=true/\fs.a=false/\fs≠ .cg/\fs≠ .dD/\fs≠ .fG/\fs.e T.d.length=T.d.length:=by rcases C with e|e<;>(rw[e];exact⟨rfl,rfl,rfl,by simp,by simp,by simp,rfl⟩)
 have i:bE n ws .dZ=bE n ws fs:=mJ (λ _ _=>rfl) a.1.symm;have V:=L (w.at d) st M;have y:=kL (sl:=m) s (show ef P ((n+3)==0) g (w.at d)=_ by trivial);have F:gs.map (fu P g {g with status:= .blocked} (w.at d))=gs:=by grind[Array.ext,Wz]
 rw[F,hv]at y;refine⟨_,by simpa using y,?_,?_,by simp[h.e],h.o,?_,λ j D=>?_,?_,λ W h0 A=>?_,λ l z K e v=>?_⟩
 refine(h.c.c d).n (u:= #[]) (w':=w.at d) (gi:={g with status:= .blocked}) ((ew.1 s).1) (by rw[i,wu ms _ _ ⟨a.2.2.2.2.1,a.2.2.2.2.2.1⟩ (by simp)];simpa using(h.c.c d).k) (p':=p) (ρ':=b2 ρ (n+3) (.kD g)) (q':=q) (wk':=b2 wk (n+3) 0) (λ _ _=>rfl) (λ l b=>cr ρ _ b) (λ _ _=>rfl) (λ l b=>cr wk _ b) (λ _=> .c _ _) (λ _ _ x=>x) (λ _=>by simp) (by rw[df _,df _];exact⟨⟨H,B⟩,G,.inl rfl⟩) (λ l Stop r e=>?_);by_cases b:l=n+3;grind[df];rw[cr ρ _ b]at e;rw[i];exact h.c.b l _ r e;have:=h.a.z (u:= #[]) (w':=w.at d) (p':=p) (ms':=ms) (ws':=ws) (fs':= .dZ) (h.a.d.o a.2.1 rfl (by simp) a.2.2.2.1 (by simp) a.2.2.2.2.2.2 rfl (by simp) a.2.2.2.2.1) O (by rw[show bJ.dZ.c=fs.c from a.2.1.symm];exact h.a.r) (by rw[show bJ.dZ.a=fs.a from a.2.2.1.symm];exact h.a.q) rfl (λ _ _ _ _=>rfl) (by rw[i];exact h.a.l) (λ l x own k e=> ⟨f.e x own k w _ (h.a.g l x own k e).1 λ _ _=>rfl,(h.a.g l x own k e).2⟩) h.a.f (by simp) (h.a.h (by simp) a.1.symm ⟨λ e=>absurd e (by simp),λ e=>absurd e a.2.2.2.1⟩) ⟨rfl,rfl,rfl⟩;omega;have:=h.a.e;exact h.r;rw[cr _ _ (by omega)];exact h.f j D;rw[df];exact⟨g,rfl,by grind⟩;rw[cr _ _ (by omega)];exact h.k _ h0 A;have⟨m1,m2⟩:=h.m l z K e v;exact⟨f.f _ _ _ _ _ m1 (jn _ _ _),m2⟩
theorem aP.aj2(i:T.g)(h:aP T S n N0 n0 w0 ms ws .eE p ρ q wk gs t w)(r:gs[n+3]?=some g)(s:T.m (dk t (n+3)) g)(d)(c):dO T S n N0 n0 w0 (n+3) d c gs t w (bW T.d.length ms ws .eE):=by
 have⟨H,L,K,N,g',C,M⟩:=i.u _ g s;have o:∀{st:Int},ba T.a w st 0->ib T ms ws .dZ w->dO T S n N0 n0 w0 (n+3) d c gs t w (bW T.d.length ms ws .eE):=λ D m=>have⟨G,y,z⟩:=h.z i (.inl rfl) r s m d c D;⟨_,_,_,_,_,_,_,_,_,_,y,z,E4 (by simp[bJ.b])⟩
 obtain⟨k1,u⟩| ⟨k1,j,I,u,⟨b,v⟩| ⟨b,v⟩| ⟨b,v⟩⟩:=h.a.o
 exact o k1 (.inl ⟨k1,u⟩);exact o b (.inr (by grind));exact o b (.inr (by grind));obtain⟨E,_,F⟩:=IA (T:=T) b 0;refine h.h i r d c (fs':= .kI) (C (w.at d) 0 b) ⟨rfl,rfl,rfl,rfl,by simp,by simp⟩ ⟨rfl,rfl,rfl,rfl,by simp,by simp⟩ (wh (h.c.c d).k (g:=n+3) (nD rfl) g.frame.fn g.frame.place (es:=lu (dL T.a)) (λ e k=>BS e k)) E (λ a A=>nI _ _ _ A) F ⟨rfl,rfl,rfl⟩ ⟨I7 b _,λ l J=>?_⟩
  (λ e k=>?_) (vM h.a rfl λ e k x O=>?_) T.r (by grind[H9]) rfl (by simp[bJ.b])
 all_goals grind[BS,f,xd,Aj,k8,yd]
theorem aP.Z(b:T.g)(h:aP T S n N0 n0 w0 ms ws .dZ p ρ q wk gs t w)(c:gs[n+3]?=some g)(e:T.m (dk t (n+3)) g)(d)(j):∃i,hN P (eV gs (w.at d) j) (n+3)=(.next (eV i (w.at d) j),#[])/\aP T S n N0 n0 w0 ms ws .dZ p (b2 ρ (n+3) (.kD g)) q (b2 wk (n+3) 0) i (t++ #[]) (w.at d):=by have a:=h.a.o;rcases id a with⟨k1,_⟩| ⟨_,_,_,_,⟨f,_⟩| ⟨f,_⟩⟩;exact h.z b (.inr rfl) c e a d _ k1;exact h.z b (.inr rfl) c e a d _ f;exact h.z b (.inr rfl) c e a d _ f
end
section
variable{P:Program}{T:dY P}{S:Nat->Prop}{n N0 n0:Nat}{w0:World}{ms ms':bD}{ws ws':Nat->bm}{fs fs':bJ}{p p':Nat->ai}{ρ ρ':Nat->dm}{q wk q':Nat->Nat}{gs:Array Goroutine}{t u:Trace}{w w':World}
variable{c:Nat}{g:Goroutine}{Y:Nat->Prop}{rp:MemAct->Prop}{fn:FuncId}
theorem eJ.b{i d k q p ρ}(h:eJ P Y i d p q k g w ρ)(e:bO p w w')(v:∀f b j K c,ρ= .ic f b j K->b.chan= .chan (some c)->dT w c->dT w' c)(a a'):eJ P Y i d p q 1 (fu P a a' w' g) w' ρ:=by cases ρ with
 |ic f b j K=>obtain⟨⟨rfl,u⟩,⟨c,m,x,n⟩,t⟩:=h;have l:=v f b j K c rfl m n;refine⟨⟨?_,u⟩,by grind,λ w2 o=>t _ (e.d o)⟩;have⟨s,r,l⟩:=l;simp_all[fu,x2,en]|cC Stop r=>exact eJ.a (Y:=λ _=>False) (i:=i) (d:=d) (p:=p) (q:=q) (k:=k) (ρ:= .cC _ r) h e (by grind) a _|cF J Stop=>exact eJ.a (Y:=λ _=>False) (i:=i) (d:=d) (p:=p) (q:=q) (k:=k) (ρ:= .cF J _) h e (by grind) a _|kD y=>exact eJ.a (Y:=λ _=>False) (i:=i) (d:=d) (p:=p) (q:=q) (k:=k) (ρ:= .kD _) h e (by grind) a _
theorem aP.I(h:aP T S n N0 n0 w0 ms ws fs p ρ q wk gs t w){l g2 b d K}(A:gs[l]?=some g)(m:ρ l= .ic g2 b d K):(l=0/\(∃l',ms= .dH l')/\b=ep T.b T.o/\d= .recv true)\/(∃j,j<3/\l=n+j/\((ws j= .eA/\b=ep T.c T.y/\d= .recv true)\/∃x own v,ws j= .eh x own v/\b=eH T.b own (.tuple #[])/\d= .send))\/(l=n+3/\∃k x,fs= .ff k/\T.d[k]?=some x/\b=eH T.c x (.tuple #[])/\d= .send):=by
 have D:l<n+ms.a:=h.e▸(ew.1 A).1;have C:ms.a<=4:=by cases ms<;>simp[bD.a]<;>omega
 rcases rm l with e|B
 left;subst e;have:=h.r;rw[m]at this;cases ms with
 |dH l'=>obtain⟨i,y,e⟩:=this;grind
 |iN j=>cases this.2
 |go j=>cases this.2
 |lI=>trivial
 |mW=>trivial
 |eD l'=>obtain⟨r,e⟩:=this;cases e
 |eF l'=>obtain⟨r,e⟩:=this;cases e
 right;rcases hz l n with o|o
 have:=h.k l B o
 grind
 obtain⟨j,rfl⟩:∃j,l=n+j:= ⟨l- n,by omega⟩;rcases hz j 3 with f|f;left;refine⟨j,f,rfl,?_⟩;have a:=h.f j f;rw[m]at a;have u:ws j≠ .fD:=λ e=>by have:=(h.a.d.d j f).1 e;omega
 generalize ws j=s at a u;cases s with
 |fD=>trivial
 |eA=>obtain⟨i,e⟩:=a;grind
 |lN=>obtain⟨r,e⟩:=a;cases e
 |eh x own v=>obtain⟨_,i,e⟩:=a;grind
 |eC=>obtain⟨r,e⟩:=a;cases e
 |iz x=>obtain⟨_,r,e⟩:=a;cases e
 |_=>trivial
 right;have z:j=3:=by omega
 subst z;refine⟨rfl,?_⟩;have c:=h.u;rw[m]at c;have u:fs≠ .cg:=λ e=>by have:=h.a.d.a.1 e;omega
 cases fs with
 |cg=>trivial
 |ff k=>obtain⟨i,x,y,F,e,_⟩:=c;grind
 |dF k=>obtain⟨_,r,e⟩:=c;cases e
 |fG=>obtain⟨r,e⟩:=c;cases e
 |dZ=>obtain⟨G,e,_⟩:=c;cases e
 |_=>trivial
theorem fa.m{A A' e}(h:fa P S Y n0 A rp p ρ q wk gs t w){i g'}(k:gs[i]?=some g){es pos}(l:bP S Y n0 A' e p' (t++eg i fn pos es) w')(m:eJ P Y i (gb (dk t i) es) (p' i) (q' i) 1 g' w' (ρ' i))(o:∀j x,j≠i->gs[j]?=some x->eJ P Y j (dk t j) (p' j) (q' j) 1 (fu P g g' w' x) w' (ρ' j))(f:∀j Stop r,ρ' j= .cC Stop r->A' j):fa P S Y n0 A' e p' ρ' q' (λ _=>1) ((gs.map (fu P g g' w')).setIfInBounds i g') (t++eg i fn pos es) w':=by
 have n:i<gs.size:=(ew.1 k).1;refine⟨l,λ j x d=>?_,λ j b=>?_,f⟩;by_cases c:i=j
 grind[Array.getElem?_setIfInBounds_self_of_lt,r3]
 rw[Array.getElem?_setIfInBounds_ne c,Array.getElem?_map]at d;obtain⟨y,s,rfl⟩:=ng.1 d;rw[rr t (g:=j) (g':=i) c _ (λ op a=>gz a)]
 grind
 have b:gs.size<=j:=by grind
 rw[rr t (g:=j) (g':=i) (by omega) _ (λ op a=>gz a)];exact h.e j b
theorem Ka(d c):gb d (iS c)=d:=rfl
theorem PY{A}(h:bP S Y n0 A rp p t w){g}(f:A g)(d:Y c)(fn)(pos):bP S Y n0 A rp p (t++eg g fn pos (iS c)) w:=by
 refine h.C (λ op b=>gz b) (λ op b=>?_) (λ op b x i=>?_) (.inl f);obtain⟨e,a,rfl⟩:=k5 b;simp[iS]at a;rcases a with rfl|rfl<;>exact h.d _ (.inr d)
 obtain⟨e,a,rfl⟩:=k5 b;simp[iS]at a;rcases a with rfl|rfl;simp[eL,gE]at i;subst i;exact⟨⟨c,rfl,d⟩,by simp,by simp,.inl f⟩;trivial
theorem aaQ{g pos}:t++eg g fn pos (iS c)=(t++ #[⟨g,fn,pos,.access ⟨.obj c,false,true⟩⟩])++ #[⟨g,fn,pos,.close c⟩]:=by grind[hv,Array.ext',iS,eL]
theorem KS(a):∀e∈iS c,eL e≠ .mark (.release a):=λ e b=>by simp[iS]at b;rcases b with rfl|rfl<;>simp[eL]
theorem aaC:∀e∈iS c,∀x,(eL e).touch?=some x->x.kind≠ .said:=λ e b x a=>by simp[iS]at b;obtain rfl|rfl:=b;simp[eL,gE]at a;subst a;simp;simp[eL,gE]at a
def bm.f:bm->bm| .eA=> .eC|x=>x
theorem bm.d(x:bm):x.f.e=x.e/\x.f.b=x.b/\x.f.g=x.g/\x.f.a=x.a/\(x.f= .fD↔x= .fD)/\x.f≠ .eA/\(∀a b c,x.f= .eh a b c↔x= .eh a b c)/\(x.f= .dg↔x= .dg)/\(x.f= .dA↔x= .dA)/\(x.f= .dt↔x= .dt)/\x.f.c<=x.c+1:=by
 cases x<;>simp[bm.f,bm.e,bm.b,bm.g,bm.a,bm.c]
theorem ahF:bz ms (λ j=>(ws j).f)=bz ms ws:=by grind[bz,bm.d]
theorem Yu{c' s r}(h:c'≠c):dT w c'->dT (w.setChan c 0 #[] true s r false) c':=λ⟨a,b,e⟩=> ⟨a,b,by grind[ih]⟩
theorem aP.ajT(C:T.g){k}(h:aP T S n N0 n0 w0 ms ws (.dF k) p ρ q wk gs t w)(R:gs[n+3]?=some g)(aE:g.status= .running/\dk t (n+3)=0)(ak:T.i k (p (n+3)) g w)(i:T.d[k]?=none)(d)(Y):dO T S n N0 n0 w0 (n+3) d Y gs t w (bW T.d.length ms ws (.dF k)):=by
 have⟨aD,aA,g',aj,ah,W,ay⟩:=C.O k _ g w ak i;have m:=h.a.d;have Q:((n+3)==0)=false:=by simp
 have aB:=h.a.e;have az:k=T.d.length:=Nat.le_antisymm h.u.1 (by
  grind)
 have⟨s,u⟩:=h.a.r;have u:w.heap[T.c]?=some (.chan 0 #[] false s s false):=u;have⟨M,G⟩:=h.a.q;have aF:=aj (w.at d) s s u;have an:∀l,ms≠ .eF l:=λ l e=>absurd (m.i l e) (by simp)
 let w':=(w.at d).setChan T.c 0 #[] true s s false
 have v:∀a,a≠T.c->w'.heap[a]?=w.heap[a]?:=λ a o=>ih (w.at d) _ _ _ _ _ _ (bk o);have J:w'.heap.size=w.heap.size:=by show((w.at d).setChan _ 0 _ _ s s _).heap.size=_;simp[lk];rfl
 have F:bE n (λ j=>(ws j).f) .ir=bE n ws (.dF k):=mJ (λ j _=>(bm.d _).1) rfl;have ai:de T ms .ir=de T ms (.dF k):=wu ms _ _ (by simp) (by simp);have am:bP S (λ b=>b=T.a\/b=T.c\/b=T.b) n0 (bE n (λ j=>(ws j).f) .ir) (de T ms .ir) p (t++eg (n+3) g.frame.fn g.frame.place (iS T.c)) w':=by
  rw[F,ai];exact(PY (h.c.c d).k (nD rfl) (.inr (.inl rfl)) _ _).m (gg J.symm)
 have I:∀l,bO (p l) w w':=λ l=> ⟨gg J.symm,λ a o=>v a λ e=>(h.c.k.c l a o).2.2 (.inr (.inl e)),rfl,rfl,rfl⟩;have ap:ed T ms (λ j=>(ws j).f) .ir:=
  ⟨λ _ _ e=>absurd e (by simp),λ l j x own L e z=>m.h l j x own L e (((bm.d _).2.2.2.2.2.2.1 _ _ _).1 z),λ _ j=>(bm.d _).2.2.2.2.2.1,λ _ e=>absurd e (by simp),λ _ _=>rfl,λ j f=>(bm.d _).2.2.2.2.1.trans (m.d j f),
   ⟨λ e=>absurd e (by simp),λ e=>absurd (m.a.2 e) (by simp)⟩,λ j f=>(bm.d _).2.2.2.2.1.2 (m.c j f),by
    have:=m.e
    grind[bm.d,bJ.e,load],λ l e=>absurd e (an l)⟩
 have aa:Ab T n N0 w0 ms (λ j=>(ws j).f) .ir p (t++eg (n+3) g.frame.fn g.frame.place (iS T.c)) w':=by
  refine h.a.z ap ?_ ⟨s,hP (w.at d) u _ _ _ _ _ _⟩ ⟨M,(v _ (bk h.a.c.1)).trans G⟩ J (λ a _ o _=>v a o) (by rw[F];exact h.a.l) (λ l x own L e=>?_) h.a.f (uh (KS _)) (h.a.h (uM aaC) rfl (by simp)) ⟨rfl,rfl,rfl⟩
  have A:=h.a.o;refine⟨?_,λ j=>?_⟩;rw[ahF];exact lK (v _ h.a.c.2.1) A.1;have⟨a,b,c⟩:=A.2 j
  grind[bm.d]
  have⟨ao,X⟩:=h.a.g l x own L (((bm.d _).2.2.2.2.2.2.1 _ _ _).1 e);exact⟨C.e x _ _ w _ ao λ b Q=>v b λ z=>(h.c.k.c _ b (h.c.k.e _ b (X b Q))).2.2 (.inr (.inl z)),X⟩
 let av:Nat->dm:=λ l=>if n<=l/\l<n+3 then(match ws (l- n)with| .eA=> .cC T.f .eM|_=>ρ l)else ρ l
 let ρ':=b2 av (n+3) (.cF T.J T.q)
 have au:ρ' (n+3)= .cF T.J T.q:=df _ _ _;have N:∀j,j<3->ρ' (n+j)=(match ws j with| .eA=> .cC T.f .eM|_=>ρ (n+j)):=λ j f=>by
  grind[b2,cr,en,Nat.add_sub_cancel_left]
 have B:∀l,(l<n\/n+3<l)->ρ' l=ρ l:=λ l H=>by
  grind[b2,cr]
 have ar:∀x,fu P g g' w' x=x.again w':=λ x=>by grind[fu]
 have aH:∀l x,l≠n+3->gs[l]?=some x->(∀j,j<3->l=n+j->ws j≠ .eA)->eJ P (λ b=>b=T.a\/b=T.c\/b=T.b) l (dk t l) (p l) (b2 q (n+3) W l) 1 (fu P g g' w' x) w' (ρ l):=λ l x H i aC=>by
  rw[cr q _ H];refine eJ.b (h.c.a l x i) (I l) (λ E aw aI K c D z ag=>?_) g g';have:c=T.b:=by
   rcases h.I i D with⟨_,_,O,_⟩| ⟨j,f,ac,⟨ax,_⟩| ⟨_,_,_,_,O,_⟩⟩| ⟨ac,_⟩
   all_goals grind[ep,absurd,eH]
  subst this;exact Yu (w:=w.at d) (bk h.a.c.1) ag
 have aq:fa P S (λ b=>b=T.a\/b=T.c\/b=T.b) n0 (bE n (λ j=>(ws j).f) .ir) (de T ms .ir) p ρ' (b2 q (n+3) W) (λ _=>1) ((gs.map (fu P g g' w')).setIfInBounds (n+3) g') (t++eg (n+3) g.frame.fn g.frame.place (iS T.c)) w':=by
  refine h.c.m R am ?_ (λ l x H i=>?_) (λ l Z r e=>?_)
  rw[au,df q];exact⟨.inl ah,by grind[Ka]⟩;by_cases A:n<=l/\l<n+3;obtain⟨j,rfl⟩:∃j,l=n+j:= ⟨l- n,by omega⟩;have f:j<3:=by omega
  rw[N j f];by_cases hp:ws j= .eA;rw[hp];have y:=h.f j f;rw[hp]at y;have⟨E,D⟩:=y;have V:=h.c.a _ x i;rw[D]at V;obtain⟨⟨rfl,af⟩,_,ae⟩:=V;rw[ar,qi (hP (w.at d) u _ _ _ _ _ _)];exact⟨⟨rfl,af⟩,λ w1 al=>(ae _ ((I _).d al)).1⟩
  grind
  grind
  rw[F];by_cases O:l=n+3
  grind
  by_cases A:n<=l/\l<n+3;obtain⟨j,rfl⟩:∃j,l=n+j:= ⟨l- n,by omega⟩;have f:j<3:=by omega
  rw[N j f]at e;by_cases hp:ws j= .eA;exact .inr (.inl ⟨j,f,rfl,by rw[hp];rfl⟩);have ab:ρ (n+j)= .cC Z r:=by
   grind
  exact h.c.b _ _ r ab;rw[B l (by omega)]at e;exact h.c.b l _ r e
 refine⟨_,w',_,ms,λ j=>(ws j).f,.ir,p,ρ',_,_,kL (sl:=Y) R (show ef P ((n+3)==0) g (w.at d)=_ by trivial),⟨aq,aa,by simp[h.e],h.o,?_,λ j f=>?_,?_,λ aG h0 ad=>?_,λ l E K e U=>?_⟩,?_⟩
 rw[B 0 (by omega)];exact h.r;rw[N j f];have y:=h.f j f;show uY T _ _;generalize ws j=s at y;cases s<;>first|exact y|exact⟨.eM,rfl⟩
 trivial;rw[B _ (by omega)];exact h.k _ h0 ad;rw[B 0 (by omega)]at U;have⟨m1,m2⟩:=h.m l E K e U;exact⟨C.f _ _ _ _ _ m1 (I 0),m2⟩
 grind[bm.d,bz,JV,hg,J0,bW,bJ.b]
def bD.e:bD->bD| .dH l=> .eD l|x=>x
theorem bD.b(x:bD):x.e.a=x.a/\x.e.c=x.c/\x.e.f=x.f/\(∀l,x.e≠ .dH l)/\(∀l,x.e= .eF l↔x= .eF l)/\x.e.d<=x.d+1:=by cases x<;>simp[bD.e,bD.a,bD.c,bD.f,bD.d]
def zK(T:dY P)(r:dm):bD->dm| .dH l=> .cC (T.e l) .eM|_=>r
theorem aP.J(Z:T.g)(h:aP T S n N0 n0 w0 ms ws .fG p ρ q wk gs t w){g}(ac:gs[n+3]?=some g)(au:g.status= .running/\dk t (n+3)=0)(ax:T.s (p (n+3)) g w)(d)(ai):dO T S n N0 n0 w0 (n+3) d ai gs t w (bW T.d.length ms ws .fG):=by
 have⟨aQ,aq,g',aw,ad,ah,ap⟩:=Z.G _ g w ax;have B:=h.a.d;have ab:((n+3)==0)=false:=by simp
 have aN:=h.a.e;have⟨s,I⟩:=h.a.q;have I:w.heap[T.b]?=some (.chan 0 #[] false s s false):=I;have⟨st,V⟩:=h.a.r;have L:ba T.a w 0 0/\∀l,l<3->ws l= .cd:=h.a.o;have aT:∀l,ws l= .cd\/ws l= .fD:=λ l=>by
  rcases hz l 3 with y|y
  exact .inl (L.2 l y);exact .inr (B.c l y)
 let w':=(w.at d).setChan T.b 0 #[] true s s false;have M:∀a,a≠T.b->w'.heap[a]?=w.heap[a]?:=λ a f=>ih (w.at d) _ _ _ _ _ _ (bk f);have X:w'.heap.size=w.heap.size:=by show((w.at d).setChan T.b 0 #[] true s s false).heap.size=_;simp[lk];rfl
 have O:∀i,bE n ws .dD i↔bE n ws .fG i/\i≠n+3:=λ i=>by
  unfold bE;constructor
  rintro(m| ⟨j,m,U,H⟩| ⟨_,m⟩);exact⟨.inl m,by omega⟩;exact⟨.inr (.inl ⟨j,m,U,H⟩),by omega⟩;cases m
  grind
 have av:∀a,¬de T ms .fG a:=λ a=>by cases ms<;>exact id
 have aS:de T ms.e .dD (.close T.b):=by cases ms<;>first|rfl|exact absurd rfl ((λ l e=>absurd (B.i l e) (by simp)) _)
 have aK:dk (t++ #[⟨n+3,g.frame.fn,g.frame.place,.access ⟨.obj T.b,false,true⟩⟩]) (n+3)=0:=by grind[j1,j2]
 have aA:bP S (λ b=>b=T.a\/b=T.c\/b=T.b) n0 (bE n ws .dD) (de T ms.e .dD) (b2 p (n+3) vd) (t++eg (n+3) g.frame.fn g.frame.place (iS T.b)) w':=by
  refine((PY (h.c.c d).k (nD rfl) (.inr (.inr rfl)) g.frame.fn g.frame.place).F (i:=n+3) (λ i f=>?_) (λ i f=>(O i).1 f) (λ a f=>absurd f (av a)) λ k aM=>?_).m (gg X.symm)
  all_goals grind[aaQ,oZ,AF,Lf]
 have ae:∀l,bO (p l) w w':=λ l=> ⟨gg X.symm,λ a f=>M a λ e=>(h.c.k.c l a f).2.2 (.inr (.inr e)),rfl,rfl,rfl⟩;have aF:ed T ms.e ws .dD:=
  ⟨λ _ _ e=>absurd e (by simp),λ l j x own aD e Q=>absurd e ((bD.b ms).2.2.2.1 l),λ _=>B.f rfl,λ l _=>(bD.b ms).2.2.2.1 l,λ _ _=>rfl,λ j E=>by rw[(bD.b _).1];exact B.d j E,
   ⟨λ e=>absurd e (by simp),λ e=>absurd (B.a.2 ((bD.b ms).1▸e)) (by simp)⟩,B.c,by rw[(bD.b _).2.2.1];exact B.e,λ l _=>rfl⟩
 have an:Ab T n N0 w0 ms.e ws .dD (b2 p (n+3) vd) (t++eg (n+3) g.frame.fn g.frame.place (iS T.b)) w':=by
  refine h.a.z aF ⟨lK (M _ h.a.c.2.2) L.1,L.2⟩ ⟨st,(M _ h.a.c.1).trans V⟩ ⟨s,hP (w.at d) I _ _ _ _ _ _⟩ X (λ a _ _ f=>M a f) (λ i f=>?_) (λ l x own aD e=>?_) (λ i a f=>?_) (uh (KS _)) (λ k x _ _ _=>?_) ⟨rfl,rfl,rfl⟩
  have⟨al,am⟩:=(O i).1 f;rw[cr p _ am];exact h.a.l i al
  grind
  by_cases e:i=n+3
  grind[df]
  rw[cr p _ e]at f;exact h.a.f i a f
  grind[bJ.d,absurd]
 let C:dm:=zK T (ρ 0) ms
 let ρ':=b2 (b2 ρ 0 C) (n+3) (.cF JT gM)
 have Y:ρ' (n+3)= .cF JT gM:=df _ _ _;have aj:ρ' 0=C:=by
  rfl
 have N:∀l,l≠0->l≠n+3->ρ' l=ρ l:=λ l m U=>by
  show b2 (b2 ρ 0 C) (n+3) _ l=_;rw[cr _ _ U,cr _ _ m]
 have aH:∀x,fu P g g' w' x=x.again w':=λ x=>by unfold fu;rw[aq,ad];rfl
 have ag:∀l x,l≠n+3->gs[l]?=some x->(l=0->∀l',ms≠ .dH l')->eJ P (λ b=>b=T.a\/b=T.c\/b=T.b) l (dk t l) (b2 p (n+3) vd l) (b2 q (n+3) ah l) 1 (fu P g g' w' x) w' (ρ l):=λ l x z v ar=>by
  rw[cr q _ z,cr p _ z];refine eJ.b (h.c.a l x v) (ae l) (λ u aI aU K c D Q aO=>?_) g g';exfalso;rcases h.I v D with⟨ao,⟨l',R⟩,_⟩| ⟨j,E,aa,⟨G,_⟩| ⟨_,_,_,G,_⟩⟩| ⟨aa,_⟩
  exact ar ao l' R;rw[L.2 j E]at G;cases G;rw[L.2 j E]at G;cases G;exact z aa
 have aB:∀l,ms= .dH l->∀x,gs[0]?=some x->∃u K,ρ 0= .ic u (ep T.b T.o) (.recv true) K/\x=en u #[ep T.b T.o] (.recv true)/\dk t 0=0:=λ l e x v=>by
  have J:=h.r;rw[e]at J;have⟨u,K,D⟩:=J;have W:=h.c.a 0 x v;rw[D]at W;exact⟨u,K,D,W.1.1,W.1.2⟩
 have aG:fa P S (λ b=>b=T.a\/b=T.c\/b=T.b) n0 (bE n ws .dD) (de T ms.e .dD) (b2 p (n+3) vd) ρ' (b2 q (n+3) ah) (λ _=>1) ((gs.map (fu P g g' w')).setIfInBounds (n+3) g') (t++eg (n+3) g.frame.fn g.frame.place (iS T.b)) w':=by
  refine h.c.m ac aA ?_ (λ l x z v=>?_) (λ l ak r e=>?_)
  rw[Y,df q];exact⟨.inl ad,by rw[Ka,ab,au.2];exact ap⟩;by_cases F:l=0;subst F;rw[aj];cases o:ms with
  |dH l'=>
   have A:C= .cC (T.e l') .eM:=by show zK T (ρ 0) ms=_;rw[o];rfl
   rw[A];have⟨u,K,D,Q,R⟩:=aB l' o x v;subst Q;rw[aH,qi (hP (w.at d) I _ _ _ _ _ _),cr p _ (by omega)];have⟨m1,m2⟩:=h.m l' u K o D;exact⟨⟨rfl,R⟩,λ w1 az=>Z.f _ _ _ _ _ m1 ((ae 0).d az)⟩
  |_=>
   have A:C=ρ 0:=by show zK T (ρ 0) ms=_;rw[o];rfl
   rw[A];exact ag 0 x z v (λ _ l' e=>by rw[o]at e;cases e)
  rw[N l F z];exact ag l x z v (λ e=>absurd e F);by_cases F:l=0;exact .inl F;by_cases H:l=n+3;subst H;rw[Y]at e;cases e;rw[N l F H]at e;exact(O l).2 ⟨h.c.b l ak r e,H⟩
 refine⟨_,w',_,ms.e,ws,.dD,_,ρ',_,_,kL (sl:=ai) ac (show ef P ((n+3)==0) g (w.at d)=_ by rw[ab];exact aw (w.at d) s s I),⟨aG,an,by simp[h.e,(bD.b ms).1],h.o,?_,λ j E=>?_,?_,λ af h0 m=>?_,λ l u K e aR=>?_⟩,?_⟩
 rw[aj];have J:=h.r;cases o:ms with
 |dH l'=>
  have A:C= .cC (T.e l') .eM:=by show zK T (ρ 0) ms=_;rw[o];rfl
  rw[A];exact⟨.eM,rfl⟩
 |_=>
  have A:C=ρ 0:=by show zK T (ρ 0) ms=_;rw[o];rfl
  rw[A];rw[o]at J;exact J
 rw[N _ (by omega) (by omega)];exact h.f j E;rw[Y];rfl;rw[N af (by omega) (by omega)];exact h.k af h0 m;exact absurd e ((bD.b ms).2.2.2.1 l);have aJ:=(bD.b ms).2.2.2.2.2;unfold bW;simp[bJ.b];omega
variable{j:Nat}
def jY(c:Nat)(a b:kp)(pos:String):Trace:= #[⟨0,a,pos,.go c⟩,⟨c,b,pos,.start⟩]
theorem M1(c)(a b)(pos):t++jY c a b pos=(t++ #[⟨0,a,pos,.go c⟩])++ #[⟨c,b,pos,.start⟩]:=by rfl
theorem Ay{a b pos op}(h:op∈jY c a b pos):op.act= .go c\/op.act= .start:=by grind[jY]
theorem Nn(c)(a b)(pos)(l):dk (t++jY c a b pos) l=dk t l:=by grind[M1,j1,j2]
theorem Lx{k}(a b)(pos)(h0:dk t 0=0)(d:dk t c=0)(e:gf t 0 k):gf (t++jY c a b pos) c k:=by grind[M1,agl]
theorem L9{Y A A' q}(h:bP S Y n0 A q p t w)(h0:dk t 0=0)(x:dk t c=0)(s:∀i,A i->A' i)(u:A' c){f}(z:∀b,f b->(p 0).a b)(B:∀a b,f b->¬(p a).b b)(n o)(pos):bP S Y n0 A' q (b2 p c ⟨f,λ _=>False⟩) (t++jY c n o pos) w:=by
 have C:b2 p c ⟨f,λ _=>False⟩ c= ⟨f,λ _=>False⟩:=df _ _ _;have m:∀l,l≠c->b2 p c ⟨f,λ _=>False⟩ l=p l:=λ l g=>cr p _ g;refine h.H (λ op j=>?_) (λ op j=>?_) s u (i:=0) (λ k y=>Lx n o pos h0 x y) (λ a b d=>?_) (λ a b d=>?_) (λ a l b v d g=>?_);rcases Ay j with e|e<;>(rw[e];exact trivial)
 rcases Ay j with e|e<;>(rw[e];rfl)
 grind
 by_cases e:a=c
 grind
 rw[m a e]at d⊢;exact⟨h.e a b d,.inl d⟩;by_cases e:a=c
 grind
 rw[m a e]at d;by_cases r:l=c
 grind
 rw[m l r]at g;exact h.f a l b v d g
theorem abb(d:j<3){x}(e:x.e=true){i}(h:bE n ws fs i):bE n (b2 ws j x) fs i:=by
 obtain h| ⟨l,a,b,c⟩|h:=h;exact .inl h;refine .inr (.inl ⟨l,a,b,?_⟩)
 grind[df,cr]
 exact .inr (.inr h)
theorem aP.aj8(E:T.g)(h:aP T S n N0 n0 w0 (.go j) ws fs p ρ q wk gs t w)(H:gs[0]?=some g)(ak:T.B j (dk t 0) g)(d)(O):dO T S n N0 n0 w0 0 d O gs t w (bW T.d.length (.go j) ws fs):=by
 have⟨G,aH,g',child,aj,⟨ag,k,ac⟩,X⟩:=E.Q j _ g ak;have⟨aD,aK⟩:=h.r;have v:=h.a.d;have aF:=h.a.e;have ad:fs= .cg:=v.a.2 (by show min j 3<=3;omega);subst ad;have B:j<3:=by omega
 have C:gs.size=n+j:=by rw[h.e];show n+min j 3=n+j;omega
 have L:ws j= .fD:=(v.d j B).2 (by show min j 3<=j;omega);let ms':bD:=if j<2 then .iN (j+1)else .mW;have z:ms'.a=j+1:=by grind[bD.a]
 have W:ms'.c=j+1:=by grind[bD.c]
 have ab:ms'.f= []:=by show(if j<2 then bD.iN _ else .mW).f=_;split<;>rfl
 have M:∀l,ms'≠ .dH l:=λ l=>by grind
 have am:∀l,ms'≠ .eF l:=λ l=>by grind
 have ah:de T ms' .cg=de T (.go j) .cg:=by grind[de]
 have aE:rI T ms' (.cF T.J (if j<2 then T.n (j+1)else T.w)):=by
  grind[rI]
 have I:=qq (sl:=O) H (show ef P (0==0) g (w.at d)=_ from aj (w.at d));have af:((eg 0 g.frame.fn g.frame.place #[]).push {g:=0,fn:=g.frame.fn,pos:=g.frame.place,act:= .go gs.size}|>.push {g:=gs.size,fn:=child.frame.fn,pos:=g.frame.place,act:= .start})=jY (n+j) g.frame.fn child.frame.fn g.frame.place:=by
  grind[jY,hv]
 rw[af]at I;have aa:dk t (n+j)=0:=h.c.e _ (by omega)
 let D:ai:= ⟨T.z,λ _=>False⟩
 have F:∀i,bE n ws .cg i->bE n (b2 ws j .eC) .cg i:=λ i=>abb B rfl;have R:bE n (b2 ws j .eC) .cg (n+j):= .inr (.inl ⟨j,B,rfl,by rw[df];rfl⟩);have U:∀i,bE n (b2 ws j .eC) .cg i->i≠n+j->bE n ws .cg i:=λ i f aG=>by
  obtain f| ⟨l,m,y,ay⟩|f:=f
  exact .inl f;exact .inr (.inl ⟨l,m,y,by grind[cr]⟩);exact .inr (.inr f)
 have al:bP S (λ b=>b=T.a\/b=T.c\/b=T.b) n0 (bE n (b2 ws j .eC) .cg) (de T ms' .cg) (b2 p (n+j) D) (t++jY (n+j) g.frame.fn child.frame.fn g.frame.place) (w.at d):=by
  rw[ah];exact L9 (h.c.c d).k G aa F R (λ b z=>(h.a.l 0 (.inl rfl) b z).1) (λ a b z J=>(h.a.l a (h.c.k.s a b (h.c.k.e a b J)) b z).2 J) _ _ _
 have N:ed T ms' (b2 ws j .eC) .cg:=by
  refine⟨λ _ _ e=>absurd e (by simp),λ l _ _ _ _ e=>absurd e (M l),λ e=>absurd e (by trivial),λ l e=>absurd e (by simp),λ l e=>?_,λ l o=>?_,⟨λ _=>by omega,λ _=>rfl⟩,λ l o=>?_,?_,λ l e=>absurd e (am l)⟩
  by_cases s:l=j;subst s;rw[df]at e;cases e;rw[cr ws _ s]at e;exact v.b l e;by_cases s:l=j
  grind[df,absurd]
  rw[cr _ _ s];refine(v.d l o).trans ?_;show min j 3<=l↔_;omega;rw[cr _ _ (by omega)];exact v.c l o;have hand:∀l,(b2 ws j .eC l).a=(ws l).a:=λ l=>by
   by_cases o:l=j;subst o;rw[df,L];rfl
   grind[cr]
  rw[hand,hand,hand,ab];exact v.e
 have Y:bz ms' (b2 ws j .eC)=bz (.go j) ws:=by rw[Dp N rfl,Dp v rfl,W];rfl
 have V:Ab T n N0 w0 ms' (b2 ws j .eC) .cg (b2 p (n+j) D) (t++jY (n+j) g.frame.fn child.frame.fn g.frame.place) (w.at d):=by
  refine h.a.z N (sY h.a.o (by rw[L];rfl) rfl Y) h.a.r h.a.q rfl (λ _ _ _ _=>rfl) (λ i f=>?_) (λ l x own ap e=>?_) (λ i a f=>?_) (λ op ae=>?_) (h.a.h (λ op ae x aJ=>?_) rfl bl) ⟨rfl,rfl,rfl⟩
  by_cases e:i=n+j;subst e;rw[df];exact λ a f=> ⟨f,id⟩;rw[cr p _ e];exact h.a.l i (U i f e);have s:l≠j:=λ aw=>by grind[df]
  rw[cr ws _ s]at e;rw[cr p _ (by omega)];have⟨an,ao⟩:=h.a.g l x own ap e;exact⟨E.e x _ _ w _ an λ _ _=>rfl,ao⟩;by_cases e:i=n+j
  grind[df]
  rw[cr p _ e]at f;exact h.a.f i a f
  all_goals grind[Ay,gE]
 have⟨Z,r,aB⟩:=X D (w.at d) (λ a f=> ⟨f,id⟩) h.a.y
 let ρ':=b2 (b2 ρ 0 (.cF T.J (if j<2 then T.n (j+1)else T.w))) (n+j) (.cC T.f r)
 have au:ρ' 0= .cF T.J (if j<2 then T.n (j+1)else T.w):=by grind[b2,cr,df]
 have Q:ρ' (n+j)= .cC T.f r:=df _ _ _;have A:∀l,l≠0->l≠n+j->ρ' l=ρ l:=λ l m y=>by grind[b2,cr]
 have ar:=(h.c.c d).d (gi:=g') (child:=child) (i:=0) (u:=jY (n+j) g.frame.fn child.frame.fn g.frame.place) (ew.1 H).1 al (λ l _ o=>cr p _ (C▸o)) (ρ':=ρ') (λ l m y=>A l m (C▸y)) (q':=b2 q 0 k) (wk':=wk) (λ l m _=>cr q _ m) (λ _ _ _=>rfl) (λ _=> .c _ _) (λ _ _ x=>x) (Nn _ _ _ _)
  (by rw[au,df,G];exact⟨.inl ag,ac⟩) (by
   rw[C,Q,df];have aA:((n+j)==0)=false:=by grind
   exact⟨⟨Z,rfl⟩,by grind⟩) (λ l av r' e=>by
   by_cases m:l=0
   grind
   by_cases y:l=n+j
   grind
   rw[A l m y]at e;exact F l (h.c.b l _ _ e))
 refine⟨_,_,_,ms',b2 ws j .eC,.cg,_,ρ',_,_,I,⟨ar,V,by grind,h.o,by grind,λ l o=>?_,trivial,λ aN h0 m=>?_,λ l ax K e aI=>absurd e (M l)⟩,?_⟩
 by_cases s:l=j;subst s;rw[df,Q];exact⟨r,rfl⟩;rw[cr _ _ s,A _ (by omega) (by omega)];exact h.f l o;rw[A _ (by omega) (by omega)];exact h.k _ h0 m
 grind[bD.d,b2,df,bm.c,cr,bW,bJ.b]
theorem aP.aj5(B:T.g)(h:aP T S n N0 n0 w0 .mW ws fs p ρ q wk gs t w)(F:gs[0]?=some g)(Z:T.w (dk t 0) g)(d)(J):dO T S n N0 n0 w0 0 d J gs t w (bW T.d.length .mW ws fs):=by
 have⟨D,aw,g',child,Y,V,Q⟩:=B.K _ g Z;have o:=h.a.d;have aq:=h.a.e;have W:fs= .cg:=o.a.2 (fx _);subst W;have v:gs.size=n+3:=h.e;have G:=qq (sl:=J) F (show ef P (0==0) g (w.at d)=_ from Y (w.at d));have X:((eg 0 g.frame.fn g.frame.place #[]).push {g:=0,fn:=g.frame.fn,pos:=g.frame.place,act:= .go gs.size}|>.push {g:=gs.size,fn:=child.frame.fn,pos:=g.frame.place,act:= .start})=jY (n+3) g.frame.fn child.frame.fn g.frame.place:=by
  grind[jY,hv]
 rw[X]at G;have E:dk t (n+3)=0:=h.c.e _ (by omega);let y:ai:= ⟨T.z,λ _=>False⟩;have C:∀i,bE n ws .cg i->bE n ws (.dF 0) i:=λ i f=>by
  obtain f|f| ⟨_,f⟩:=f
  exact .inl f;exact .inr (.inl f)
  trivial
 have M:bE n ws (.dF 0) (n+3):=nD rfl;have N:∀i,bE n ws (.dF 0) i->i≠n+3->bE n ws .cg i:=λ i f ar=>by
  obtain f|f| ⟨f,_⟩:=f
  exact .inl f;exact .inr (.inl f)
  omega
 have ab:bP S (λ b=>b=T.a\/b=T.c\/b=T.b) n0 (bE n ws (.dF 0)) (de T (.eD []) (.dF 0)) (b2 p (n+3) y) (t++jY (n+3) g.frame.fn child.frame.fn g.frame.place) (w.at d):=
  L9 (h.c.c d).k D E C M (λ b A=>(h.a.l 0 (.inl rfl) b A).1) (λ a b A H=>(h.a.l a (h.c.k.s a b (h.c.k.e a b H)) b A).2 H) _ _ _;have au:∀l,(ws l).g=false:=λ l=>by
  cases e:(ws l).g with
  |false=>rfl
  |true=>have:=o.b l e;trivial
 have af:ed T (.eD []) ws (.dF 0):=by
  refine⟨λ _ _ e=>absurd e (by simp),λ l _ _ _ _ e=>absurd e (by simp),λ e=>absurd e (by trivial),λ l e=>absurd e (by simp),λ l e=>?_,λ l m=>?_,⟨λ e=>absurd e (by simp),λ e=>absurd e (by trivial)⟩,o.c,o.e,λ l e=>absurd e (by simp)⟩
  grind
  refine(o.d l m).trans ?_;show 3<=l↔4<=l;omega
 have O:Ab T n N0 w0 (.eD []) ws (.dF 0) (b2 p (n+3) y) (t++jY (n+3) g.frame.fn child.frame.fn g.frame.place) (w.at d):=by
  refine h.a.z af h.a.o h.a.r h.a.q rfl (λ _ _ _ _=>rfl) (λ i f=>?_) (λ l x own ae e=>?_) (λ i a f=>?_) (λ op av=>?_) (λ k x aa R m=>?_) ⟨rfl,rfl,rfl⟩
  by_cases e:i=n+3;subst e;rw[df];exact λ a f=> ⟨f,id⟩;rw[cr p _ e];exact h.a.l i (N i f e);have an:l<3:=n3 λ U=>by rw[o.c l U]at e;cases e
  rw[cr p _ (by omega)];have⟨ac,ad⟩:=h.a.g l x own ae e;exact⟨B.e x _ _ w _ ac λ _ _=>rfl,ad⟩;by_cases e:i=n+3
  grind[df]
  rw[cr p _ e]at f;exact h.a.f i a f
  grind[Ay]
  rw[if_pos (show(bJ.dF 0).d=true from rfl)];rcases lx aa with⟨_,j⟩| ⟨_,op,j,_,s⟩
  exact Lx _ _ _ D E (h.a.B k x j R m rfl)
  grind[Ay,gE]
 have⟨al,r,am⟩:=Q y (w.at d) (λ a f=> ⟨f,id⟩) h.a.y;have⟨ao,I,ap⟩:=V (p 0) (w.at d) (h.a.l 0 (.inl rfl)) h.a.y
 let ρ':=b2 (b2 ρ 0 (.cC (T.e []) I)) (n+3) (.cC (T.i 0) r)
 have aA:ρ' 0= .cC (T.e []) I:=by rfl
 have L:ρ' (n+3)= .cC (T.i 0) r:=df _ _ _;have z:∀l,l≠0->l≠n+3->ρ' l=ρ l:=λ l j s=>by grind[b2,cr]
 have ah:=(h.c.c d).d (gi:=g') (child:=child) (i:=0) (u:=jY (n+3) g.frame.fn child.frame.fn g.frame.place) (ew.1 F).1 ab (λ l _ m=>cr p _ (v▸m)) (ρ':=ρ') (λ l j s=>z l j (v▸s)) (q':=q) (wk':=wk) (λ l j _=>rfl) (λ _ _ _=>rfl) (λ _=> .c _ _) (λ _ _ x=>x) (Nn _ _ _ _)
  (by trivial) (by
   rw[v,L,df];trivial) (λ l aj r' e=>by
   by_cases j:l=0
   exact .inl j;by_cases s:l=n+3
   grind
   rw[z l j s]at e;exact C l (h.c.b l _ _ e))
 refine⟨_,_,_,.eD [],ws,.dF 0,_,ρ',_,_,G,⟨ah,O,by simp[v,bD.a],h.o,by exact⟨_,rfl⟩,λ l m=>?_,by rw[L];exact⟨Nat.zero_le _,r,rfl⟩,λ ay h0 j=>?_,λ l ak K e ax=>absurd e (by simp)⟩,?_⟩
 rw[z _ (by omega) (by omega)];exact h.f l m;rw[z _ (by omega) (by omega)];exact h.k _ h0 j
 grind[bW,bD.d,bJ.b]
end
section
variable{P:Program}{T:dY P}{S:Nat->Prop}{n N0 n0:Nat}{w0:World}{ms ms':bD}{ws ws':Nat->bm}{fs fs':bJ}{p p':Nat->ai}{ρ ρ':Nat->dm}{q wk q':Nat->Nat}{gs:Array Goroutine}{t u:Trace}{w w':World}
variable{b:Bool}
theorem agX{h}(a:h.offers=none)(r)(b):offersAt h r b= []:=by grind[offersAt]
theorem aP.d(h:aP T S n N0 n0 w0 ms ws fs p ρ q wk gs t w){i c l k}(C:(l,k)∈mn (gs.setIfInBounds i ph) c b):l≠i/\k=0/\∃o a f,(∃K,ρ l= .ic o a f K)/\gs[l]?=some (en o #[a] f)/\((b=false/\c=T.b/\l=0/\(∃l',ms= .dH l')/\a=ep T.b T.o/\f= .recv true)\/(b=false/\c=T.c/\(∃j,j<3/\l=n+j/\ws j= .eA)/\a=ep T.c T.y/\f= .recv true)\/(b=true/\c=T.b/\(∃j x own y,j<3/\l=n+j/\ws j= .eh x own y/\a=eH T.b own (.tuple #[]))/\f= .send)\/(b=true/\c=T.c/\l=n+3/\(∃k x,fs= .ff k/\T.d[k]?=some x/\a=eH T.c x (.tuple #[]))/\f= .send)):=by
 have⟨g,A,s⟩:=nv.1 C;rcases getElem?_stand gs i l g A with⟨_,e⟩| ⟨D,u⟩
 grind[offersAt_ph]
 have d:=h.c.a l g u;cases m:ρ l with
 |cC Stop r=>
  rw[m]at d;rw[p6 (by rw[d.1.1];simp)]at s;trivial
 |cF J Stop=>
  rw[m]at d;rw[p6 (by rcases d.1 with x|x<;>(rw[x];simp))]at s;trivial
 |kD F=>
  rw[m]at d;have:g.offers=none:=by rcases d.2.2 with x| ⟨x,_⟩<;>(rw[x];exact d.2.1)
  grind[agX]
 |ic o a f K=>
  rw[m]at d;obtain⟨⟨B,_⟩,_⟩:=d;subst B;have hp:=h.I u m;have key:k=0/\((b=false/\∃z,a=ep c z)\/(b=true/\∃v,a=eH c v (.tuple #[]))):=by
   have one:∀{x c':Nat},x∈(if c'=c then[0]else[])->x=0/\c'=c:=λ{x c'}E=>by
    grind
   rcases hp with⟨_,_,e,_⟩| ⟨j,_,_,⟨_,e,_⟩| ⟨x,own,y,_,e,_⟩⟩| ⟨_,k',x,_,_,e,_⟩<;>subst e<;>cases b
   grind[nb]
   trivial
   grind[nb]
   trivial
   all_goals grind[offersAt_parked_send',qc]
  grind[ep,eH,absurd]
theorem aP.g(h:aP T S n N0 n0 w0 ms ws fs p ρ q wk gs t w){i c}(m:(b=false->c=T.b->∀l,ms≠ .dH l)/\(b=false->c=T.c->∀j,ws j≠ .eA)/\(b=true->c=T.b->∀j x own d,ws j≠ .eh x own d)/\(b=true->c=T.c->∀k,fs≠ .ff k)):mn (gs.setIfInBounds i ph) c b= []:=by apply List.eq_nil_iff_forall_not_mem.2;rintro⟨l,k⟩a;have⟨_,_,f,e,o,_,_,g⟩:=h.d a;grind
theorem aP.x(A:T.g)(h:aP T S n N0 n0 w0 ms ws fs p ρ q wk gs t w){i g gi}(G:gs[i]?=some g)(d)(H:bP S (λ b=>b=T.a\/b=T.c\/b=T.b) n0 (bE n ws' fs') (de T ms' fs') p (t++u) (w.at d))(I:∀l,dk (t++u) l=dk t l)(a)(o)(B:Ab T n N0 w0 ms' ws' fs' p (t++u) (w.at d))(U:eJ P (λ b=>b=T.a\/b=T.c\/b=T.b) i (dk t i) (p i) o (wk i) gi (w.at d) a)(L:∀Stop r,a= .cC Stop r->bE n ws' fs' i)(D:∀j,j≠i->bE n ws fs j->bE n ws' fs' j)(E:ms'.a=ms.a)(N:i=0\/n<=i)(y:i≠0->ms'=ms)(Q:i=0->rI T ms' a)(J:∀j,n+j≠i->ws' j=ws j)(V:∀j,j<3->n+j=i->uY T (ws' j) a)(F:i≠n+3->fs'=fs)(M:i=n+3->xq T fs' a)(O:i=0->∀l f K,ms'= .dH l->a= .ic f (ep T.b T.o) (.recv true) K->T.e l (p 0) {en f #[ep T.b T.o] (.recv true)with status:= .running} (w.at d)/\∀w',ef P true {en f #[ep T.b T.o] (.recv true)with status:= .running} w'= .comm f #[ep T.b T.o] true (.recv true) w' #[]):aP T S n N0 n0 w0 ms' ws' fs' p (b2 ρ i a) (b2 q i o) wk (gs.setIfInBounds i gi) (t++u) (w.at d):=by refine⟨(h.c.c d).n (ew.1 G).1 H (λ _ _=>rfl) (λ l m=>cr ρ a m) (λ l m=>cr q o m) (λ _ _=>rfl) (λ _=> .c _ _) (λ _ _ x=>x) I (by grind[df]) (λ j Stop r e=>?_),B,by simp[h.e,E],h.o,?_,λ j k=>?_,?_,λ W h0 C=>?_,λ l f K e z=>?_⟩;by_cases k:j=i;grind[df];rw[cr ρ a k]at e;exact D j k (h.c.b j _ r e);by_cases h0:i=0;grind[df];rw[cr _ _ (bk h0),y h0];exact h.r;by_cases v:n+j=i;grind[df];rw[cr _ _ v,J j v];exact h.f j k;by_cases s:i=n+3;grind[df];rw[cr _ _ (bk s),F s];exact h.u;rw[cr _ _ (by omega)];exact h.k _ h0 C;by_cases h0:i=0;grind[df];rw[cr ρ a (bk h0)]at z;have⟨m1,m2⟩:=h.m l f K (y h0▸e) z;exact⟨A.f _ _ _ _ _ m1 (jn _ _ _),m2⟩
theorem Ab.A(h:Ab T n N0 w0 ms ws fs p t w)(c:T.g)(d)(s:ed T ms' ws' fs')(v:ib T ms' ws' fs' w)(r:fs'.c=fs.c)(m:fs'.a=fs.a)(f:∀i,bE n ws' fs' i->bE n ws fs i)(own:∀j x own a,ws' j= .eh x own a->T.j x own a w/\∀b,a=some b->(p (n+j)).b b)(o:∀op∈u,op.act≠ .mark (.release (bg T.a)))(q:∀op∈u,∀x,op.act.touch?=some x->x.kind≠ .said)(k:fs'.d=fs.d)(l:fs'= .cg↔fs= .cg):Ab T n N0 w0 ms' ws' fs' p (t++u) (w.at d):=h.z s v (by rw[r];exact h.r) (by rw[m];exact h.q) rfl (λ _ _ _ _=>rfl) (λ i g=>h.l i (f i g)) (λ j x y a e=> ⟨c.e x _ _ w _ (by grind) λ _ _=>rfl,by grind⟩) h.f o (h.h q k l) ⟨rfl,rfl,rfl⟩
variable{g:Goroutine}{j:Nat}{x:Value}
theorem ed.m(h:ed T ms ws fs){x}(q:j<3)(n:ws j≠ .fD)(r:x≠ .fD)(hp:x= .eA->(∀k,fs≠ .ff k)/\fs.c=false)(s:∀a b c,x= .eh a b c->∀l,ms≠ .dH l)(t:x.g=true->fs.c=true)(p:x.a=(ws j).a):ed T ms (b2 ws j x) fs:=by
 have e:∀l,l≠j->b2 ws j x l=ws l:=λ l d=>cr ws x d;have hand:∀l,(b2 ws j x l).a=(ws l).a:=λ l=>by grind[df]
 refine⟨λ k l i f=>?_,λ l l' y own u m f=>?_,λ o l f=>?_,h.n,λ l d=>?_,λ l d=>?_,h.a,λ l d=>?_,by rw[hand,hand,hand];exact h.e,h.i⟩;by_cases d:l=j
 grind[df]
 rw[e l d]at f;exact h.g k l i f;by_cases d:l'=j
 grind[df]
 rw[e l' d]at f;exact h.h l _ y _ _ m f;by_cases d:l=j
 grind[df]
 rw[e l d]at f;exact h.f o l f;by_cases g:l=j
 grind[df]
 rw[e l g]at d;exact h.b l d;by_cases g:l=j;subst g;rw[df];exact⟨by grind,λ e=>absurd ((h.d l d).2 e) n⟩;rw[e l g];exact h.d l d;rw[e l (by omega)];exact h.c l d
theorem DK{l}:dk (t++ #[]) l=dk t l:=by simp
theorem oM{es}(h:es= #[])(g)(fn)(pos):eg g fn pos es= #[]:=by grind[hv]
theorem aP.R(a:T.g)(h:aP T S n N0 n0 w0 ms ws fs p ρ q wk gs t w)(B:j<3)(b:ws j= .eC)(A:gs[n+j]?=some g)(K:g.status= .running/\dk t (n+j)=0)(F:T.f (p (n+j)) g w)(m:(∀k,fs≠ .ff k)/\fs.c=false)(d)(G):dO T S n N0 n0 w0 (n+j) d G gs t w (bW T.d.length ms ws fs):=by
 have⟨_,c,E,⟨z,r,y⟩,R,_⟩:=a.i _ g w F;have C:=rO h j;have I:((n+j)==0)=false:=by grind
 have⟨s,f⟩:=h.a.r;rw[m.2]at f;have H:bE n (b2 ws j .eA) fs=bE n ws fs:=mJ (λ l _=>sj (by rw[b];rfl) l) rfl;have D:=k7 (sl:=G) (cases:= #[ep T.c T.y]) A (show ef P ((n+j)==0) g (w.at d)=_ by rw[I];exact E _) (λ O v=>by simp at v;subst v;exact qF (w₁:=w.at d) f (h.g ⟨by simp,by simp,λ _ e=>absurd e h.a.c.1,λ _ _=>m.1⟩));have N:ed T ms (b2 ws j .eA) fs:=h.a.d.m B (by grind) (by simp) (λ _=>m) (λ _ _ _ e=>absurd e (by simp)) (λ e=>absurd e (by trivial)) (by rw[b];rfl);have L:=h.x a (u:= #[]) (ms':=ms) (ws':=b2 ws j .eA) (fs':=fs) (gi:=en c #[ep T.c T.y] (.recv true)) A d (by rw[H];simpa using(h.c.c d).k) (λ _=>DK) (.ic c (ep T.c T.y) (.recv true) (TQ T c)) (q (n+j)) (h.a.A a d N (sY h.a.o (by rw[b];rfl) rfl (oG (by rw[b];rfl))) rfl rfl (λ i Q=>by simp_all) (λ l x own U e=>by
  by_cases o:l=j;grind[df];rw[cr ws _ o]at e;exact h.a.g l x _ _ e) (by simp) (by simp) rfl bl) ⟨⟨rfl,K.2⟩,⟨T.c,rfl,.inr (.inl rfl),s,s,f⟩,λ w' J=> ⟨a.m _ _ _ _ (a.n _ _ _ _ F rfl z r y) ((jn _ _ _).d J),λ w'=>(nB (g:={en c #[ep T.c T.y] (.recv true)with status:= .running}) z r y w').trans (E w')⟩⟩ (λ _ _ e=>by cases e) (λ _ _ x=>by simp_all) rfl (.inr (by omega)) (λ _=>rfl) (λ e=>absurd e C) (λ l o=>cr ws _ (by omega)) (λ l _ o=>by
  obtain rfl:l=j:=by omega
  rw[df];exact⟨_,rfl⟩) (λ _=>rfl) (λ e=>by omega) (λ e=>absurd e C);exact⟨_,_,_,_,_,_,p,_,_,_,D,L,rb B (by rw[b];rfl) (by grind[bm.c])⟩
theorem aP.ajV(m:T.g)(h:aP T S n N0 n0 w0 ms ws fs p ρ q wk gs t w)(f:j<3)(b:ws j= .iz x)(D:gs[n+j]?=some g)(O:g.status= .running/\dk t (n+j)=0)(U:T.k x (p (n+j)) g w)(C:∀l,ms≠ .dH l)(d)(G):dO T S n N0 n0 w0 (n+j) d G gs t w (bW T.d.length ms ws fs):=by
 have⟨_,own,k,o,Q,aa,ab,L⟩:=m.D x _ g w U;have E:=rO h j;have J:((n+j)==0)=false:=by grind
 have K:fs.a=false:=by cases fs<;>first|rfl|exact absurd rfl (As h.a.o f (by grind)).2.2.2
 have⟨s,r⟩:=h.a.q;rw[K]at r;have I:bE n (b2 ws j (.eh x own k)) fs=bE n ws fs:=mJ (λ l _=>sj (by rw[b];rfl) l) rfl;have V:x∈T.d:=by have:=h.f j f;rw[b]at this;exact this.1
 have F:=k7 (sl:=G) (cases:= #[eH T.b own (.tuple #[])]) D (show ef P ((n+j)==0) g (w.at d)=_ by rw[J];exact Q _ (jn _ _ _)) (λ Z B=>by simp at B;subst B;exact qO (w₁:=w.at d) r (by simp) (h.g ⟨λ _ _=>C,λ _ e=>absurd e (bk h.a.c.1),by simp,by simp⟩));have Y:ed T ms (b2 ws j (.eh x own k)) fs:=h.a.d.m f (by grind) (by simp) (λ e=>absurd e (by simp)) (λ _ _ _ _=>C) (λ e=>absurd e (by trivial)) (by rw[b];rfl);have W:=h.x m (u:= #[]) (ms':=ms) (ws':=b2 ws j (.eh x own k)) (fs':=fs) (gi:=en o #[eH T.b own (.tuple #[])] .send) D d (by rw[I];simpa using(h.c.c d).k) (λ _=>DK) (.ic o (eH T.b own (.tuple #[])) .send (IM T o k)) (q (n+j)) (h.a.A m d Y (sY h.a.o (by rw[b];rfl) rfl (oG (by rw[b];rfl))) rfl rfl (λ i A=>by simp_all) (λ l y ad ac e=>by
  by_cases v:l=j;grind[df];rw[cr ws _ v]at e;exact h.a.g l y _ _ e) (by simp) (by simp) rfl bl) ⟨⟨rfl,O.2⟩,⟨T.b,rfl,.inr (.inr rfl),s,s,r⟩,λ w' c p' w2 z H N R=>L p' w2 z H (((jn p' w d).d (bO.mk c.b (λ a A=>c.e a ((z a).1 A).1) c.i c.f c.h:bO p' (w.at d) w')).d N) R⟩ (λ _ _ e=>by cases e) (λ _ _ x=>by simp_all) rfl (.inr (by omega)) (λ _=>rfl) (λ e=>absurd e E) (λ l v=>cr ws _ (by omega)) (λ l _ v=>by
  obtain rfl:l=j:=by omega
  rw[df];exact⟨V,_,rfl⟩) (λ _=>rfl) (λ e=>by omega) (λ e=>absurd e E);exact⟨_,_,_,_,_,_,p,_,_,_,F,W,rb f (by rw[b];rfl) (by grind[bm.c])⟩
theorem aP.ajN(c:T.g){k}(h:aP T S n N0 n0 w0 ms ws (.dF k) p ρ q wk gs t w)(r:gs[n+3]?=some g)(E:g.status= .running/\dk t (n+3)=0)(H:T.i k (p (n+3)) g w)(z:T.d[k]?=some x)(o:∀j,ws j≠ .eA)(d)(A):dO T S n N0 n0 w0 (n+3) d A gs t w (bW T.d.length ms ws (.dF k)):=by
 have⟨_,f,G,C⟩:=c.C k x _ g w H z;have a:=h.a.d;have O:((n+3)==0)=false:=by simp
 have⟨s,b⟩:=h.a.r;have b:w.heap[T.c]?=some (.chan 0 #[] false s s false):=b;have B:bE n ws (.ff k)=bE n ws (.dF k):=mJ (λ _ _=>rfl) rfl;have v:=k7 (sl:=A) (cases:= #[eH T.c x (.tuple #[])]) r (show ef P ((n+3)==0) g (w.at d)=_ by exact G _ (jn _ _ _)) (λ M m=>by simp at m;subst m;exact qO (w₁:=w.at d) b (by simp) (h.g ⟨λ _ e=>absurd e h.a.c.1,λ _ _=>o,by simp,by simp⟩));have F:de T ms (.ff k)=de T ms (.dF k):=wu ms _ _ (by simp) (by simp);have I:=h.x c (u:= #[]) (ms':=ms) (ws':=ws) (fs':= .ff k) (gi:=en f #[eH T.c x (.tuple #[])] .send) r d (by rw[B,F];simpa using(h.c.c d).k) (λ _=>DK) (.ic f (eH T.c x (.tuple #[])) .send λ _ _=>True) (q (n+3)) (h.a.A c d ⟨λ _ j _=>o j,a.h,λ e=>absurd e (by trivial),λ l e=>absurd e (by simp),λ j e=>absurd (a.b j e) (by grind),a.d,⟨λ e=>absurd e (by simp),λ e=>absurd (a.a.2 e) (by simp)⟩,a.c,a.e,λ l e=>absurd (a.i l e) (by simp)⟩ h.a.o rfl rfl (λ i N=>by trivial) (λ l y K J e=>h.a.g l y K J e) (by simp) (by simp) rfl (by simp)) ⟨⟨rfl,E.2⟩,⟨T.c,rfl,.inr (.inl rfl),s,s,b⟩,λ _ _=>trivial⟩ (λ _ _ e=>by cases e) (λ _ _ x=>by trivial) rfl (.inr (by omega)) (λ _=>rfl) (λ e=>by omega) (λ l D=>rfl) (λ l _ D=>by omega) (λ e=>absurd rfl e) (λ _=> ⟨f,x,_,z,rfl,C⟩) (λ e=>by omega);exact⟨_,_,_,_,_,_,p,_,_,_,v,I,E4 (by simp[bJ.b])⟩
theorem aP.ajQ(b:T.g){l}(h:aP T S n N0 n0 w0 (.eD l) ws fs p ρ q wk gs t w)(r:gs[0]?=some g)(I:g.status= .running/\dk t 0=0)(z:T.e l (p 0) g w)(c:(∀j x own m,ws j≠ .eh x own m)/\fs≠ .dD)(d)(A):dO T S n N0 n0 w0 0 d A gs t w (bW T.d.length (.eD l) ws fs):=by
 have⟨_,f,K,⟨F,D,E⟩,W,_⟩:=b.h l _ g w z;have a:=h.a.d;have X:=h.a.e;have G:fs.a=false:=by cases fs<;>first|rfl|exact absurd rfl c.2
 have⟨s,k⟩:=h.a.q;rw[G]at k;have v:=k7 (sl:=A) (cases:= #[ep T.b T.o]) r (show ef P (0==0) g (w.at d)=_ from K (w.at d)) (λ U o=>by simp at o;subst o;exact qF (w₁:=w.at d) k (h.g ⟨by simp,by simp,λ _ _=>c.1,λ _ e=>absurd e (bk h.a.c.1)⟩));have J:de T (.dH l) fs=de T (.eD l) fs:=Jj _ _ _ (by simp) (by simp);have M:=h.x b (u:= #[]) (ms':= .dH l) (ws':=ws) (fs':=fs) (gi:=en f #[ep T.b T.o] (.recv true)) r d (by rw[J];simpa using(h.c.c d).k) (λ _=>DK) (.ic f (ep T.b T.o) (.recv true) λ _ _=>True) (q 0) (h.a.A b d ⟨a.g,λ _ j x own m _=>c.1 j x own m,a.f,λ l' e=>absurd e c.2,a.b,a.d,a.a,a.c,a.e,λ l' e=>absurd e (by simp)⟩ h.a.o rfl rfl (λ i C=>C) (λ l y O N e=>h.a.g l y O N e) (by simp) (by simp) rfl bl) ⟨⟨rfl,I.2⟩,⟨T.b,rfl,.inr (.inr rfl),s,s,k⟩,λ _ _=>trivial⟩ (λ _ _ e=>by cases e) (λ _ _ x=>x) rfl (.inl rfl) (λ e=>absurd rfl e) (λ _=> ⟨f,_,rfl⟩) (λ l H=>rfl) (λ l _ H=>by omega) (λ _=>rfl) (λ e=>by omega) (λ _ l' V R e B=>by cases e;cases B;refine⟨b.f _ _ _ _ _ (b.o _ _ _ _ _ z rfl F D E) (jn _ _ _),λ w'=>?_⟩;grind[nB,en,ep,trans]);exact⟨_,_,_,_,_,_,p,_,_,_,v,M,by unfold bW;have:bz (.dH l) ws=bz (.eD l) ws:=rfl;grind[bD.d]⟩
variable{k:Nat}
theorem Me{y c}(a:y.act= .recvClosed c)(l):dk (t++ #[y]) l=dk t l:=by grind[j1,j2]
theorem aP.O(c:T.g)(h:aP T S n N0 n0 w0 ms ws fs p ρ q wk gs t w){j}(o:j<3)(b:ws j= .eC)(z:gs[n+j]?=some g)(U:g.status= .running/\dk t (n+j)=0)(I:T.f (p (n+j)) g w)(m:fs.c=true)(d)(C):dO T S n N0 n0 w0 (n+j) d C gs t w (bW T.d.length ms ws fs):=by
 have⟨_,f,H,⟨R,O,Q⟩,_,F⟩:=c.i _ g w I;have⟨G,r,V⟩:=F (w.at d) (jn _ _ _) h.a.y;have A:=rO h j;have E:((n+j)==0)=false:=by grind
 have⟨s,y⟩:=h.a.r;rw[m]at y;have K:∀k,fs≠ .ff k:=λ k e=>by rw[e]at m;trivial
 have D:bE n (b2 ws j .lN) fs=bE n ws fs:=mJ (λ l _=>sj (by rw[b];rfl) l) rfl;have B:=qn (sl:=C) z (show ef P ((n+j)==0) g (w.at d)=_ by rw[E];exact H _) (show(w.at d).heap[T.c]?=_ from y) (h.g ⟨by simp,by simp,λ _ e=>absurd e h.a.c.1,λ _ _=>K⟩);have M:ed T ms (b2 ws j .lN) fs:=h.a.d.m o (by grind) (by simp) (λ e=>absurd e (by simp)) (λ _ _ _ e=>absurd e (by simp)) (λ _=>m) (by rw[b];rfl);have J:=h.x c (u:= #[]++ #[{g:=n+j,fn:=f.frame.fn,pos:=f.frame.place,act:= .recvClosed T.c}]) (ms':=ms) (ws':=b2 ws j .lN) (fs':=fs) (gi:=gu f (.tuple #[T.y,.bool false])) z d (by rw[D];exact(h.c.c d).k.z (g:=n+j) (by grind) (λ op a=>by simp at a;rw[a];exact h.c.k.d _ (by omega)) (λ op a=>by simp at a;rw[a];rfl)) (λ l=>by grind[Me]) (.cC T.D r) (q (n+j)) (h.a.A c d M (sY h.a.o (by rw[b];rfl) rfl (oG (by rw[b];rfl))) rfl rfl (λ i N=>by simp_all) (λ l x own X e=>by
  by_cases v:l=j;grind[df];rw[cr ws _ v]at e;exact h.a.g l x _ _ e) (λ op a=>by grind) (λ op a x W=>by grind[gE]) rfl bl) ⟨⟨G,by omega⟩,by grind⟩ (λ _ _ e=> .inr (.inl ⟨j,o,rfl,by rw[df];rfl⟩)) (λ _ _ x=>by simp_all) rfl (.inr (by omega)) (λ _=>rfl) (λ e=>absurd e A) (λ l v=>cr ws _ (by omega)) (λ l _ v=>by
  obtain rfl:l=j:=by omega
  rw[df];exact⟨r,rfl⟩) (λ _=>rfl) (λ e=>by omega) (λ e=>absurd e A);exact⟨_,_,_,_,_,_,p,_,_,_,B,J,rb o (by rw[b];rfl) (by grind[bm.c])⟩
theorem aP.ajU(k:T.g){l}(h:aP T S n N0 n0 w0 (.eD l) ws .dD p ρ q wk gs t w)(z:gs[0]?=some g)(B:g.status= .running/\dk t 0=0)(L:T.e l (p 0) g w)(d)(F):dO T S n N0 n0 w0 0 d F gs t w (bW T.d.length (.eD l) ws .dD):=by
 have⟨_,f,K,⟨aa,Y,Z⟩,_,H⟩:=k.h l _ g w L;have c:=h.a.d;have ab:=h.a.e;have⟨s,o⟩:=h.a.q;have D:ba T.a w 0 0/\∀l,l<3->ws l= .cd:=h.a.o;have N:∀l x own E,ws l≠ .eh x own E:=λ l x own E=>by rcases hz l 3 with y|y;grind;rw[c.c l y];simp
 have C:=qn (sl:=F) z (show ef P (0==0) g (w.at d)=_ from K (w.at d)) (show(w.at d).heap[T.b]?=_ from o) (h.g ⟨by simp,by simp,λ _ _=>N,λ _ e=>absurd e (bk h.a.c.1)⟩);have⟨J,r,M⟩:=H (w.at d) (jn _ _ _) h.a.y;have U:ed T (.eF l) ws .dD:= ⟨c.g,λ _ _ _ _ _ e=>absurd e (by simp),c.f,λ l' _=>by simp,c.b,c.d,c.a,c.c,c.e,λ l' e=>rfl⟩;have O:=h.x k (u:= #[]++ #[{g:=0,fn:=f.frame.fn,pos:=f.frame.place,act:= .recvClosed T.b}]) (ms':= .eF l) (ws':=ws) (fs':= .dD) (gi:=gu f (.tuple #[T.o,.bool false])) z d (by
  refine((h.c.c d).k.z (g:=0) (u:= #[]++ #[{g:=0,fn:=f.frame.fn,pos:=f.frame.place,act:= .recvClosed T.b}]) (λ op b=>by grind) (λ op b=>by simp at b;rw[b];exact h.c.k.d _ (by omega)) (λ op b=>by simp at b;rw[b];rfl)).G (i:=0) (.inl rfl) λ r a j m v=>?_;have m:a= .close T.b:=m;subst m;have A:r<t.size:=by have X:=lt_of_act? j;grind[hz,oZ]
  rw[act?_old A]at j;exact afM j ((heard_old A).1 v) (.inl rfl) rfl rfl B.2) (λ l=>by grind[Me]) (.cC (T.l l) r) (q 0) (h.a.A k d U ⟨D.1,D.2⟩ rfl rfl (λ i G=>G) (λ l y R Q e=>h.a.g l y R Q e) (λ op b=>by grind) (λ op b x ac=>by grind[gE]) rfl bl) ⟨⟨J,B.2⟩,M⟩ (λ _ _ e=> .inl rfl) (λ _ _ x=>x) rfl (.inl rfl) (λ e=>absurd rfl e) (λ _=> ⟨r,rfl⟩) (λ l I=>rfl) (λ l _ I=>by omega) (λ _=>rfl) (λ e=>by omega) (λ _ l' W V e _=>absurd e (by simp));exact⟨_,_,_,_,_,_,p,_,_,_,C,O,by unfold bW;have:bz (.eF l) ws=bz (.eD l) ws:=rfl;grind[bD.d]⟩
def jB(i j c s cap:Nat)(fi fj:kp)(pi pj:String):Trace:= #[⟨i,fi,pi,.send c s⟩,⟨j,fj,pj,.recv c s cap⟩,⟨i,fi,pi,.sendDone c s⟩,⟨j,fj,pj,.recvDone c s⟩]
section
variable{i j c s cap:Nat}{fi fj:FuncId}{pi pj:String}
theorem Vz:t++jB i j c s cap fi fj pi pj=((t++ #[⟨i,fi,pi,.send c s⟩])++ #[⟨j,fj,pj,.recv c s cap⟩,⟨i,fi,pi,.sendDone c s⟩])++ #[⟨j,fj,pj,.recvDone c s⟩]:=by rfl
theorem Im{op}(h:op∈jB i j c s cap fi fj pi pj):op.act= .send c s\/op.act= .recv c s cap\/op.act= .sendDone c s\/op.act= .recvDone c s:=by grind[jB]
theorem KV(l):dk (t++jB i j c s cap fi fj pi pj) l=dk t l:=by
 have e:t++jB i j c s cap fi fj pi pj=(((t++ #[⟨i,fi,pi,.send c s⟩])++ #[⟨j,fj,pj,.recv c s cap⟩])++ #[⟨i,fi,pi,.sendDone c s⟩])++ #[⟨j,fj,pj,.recvDone c s⟩]:=by rfl
 grind[j1,j2]
theorem QC(a:c<w.heap.size):∀op∈jB i j c s cap fi fj pi pj,op.act.low w.heap.size:=λ op b=>by rcases Im b with e|e|e|e<;>(rw[e];exact a)
theorem Hc:∀op∈jB i j c s cap fi fj pi pj,op.act.touch?=none:=λ op a=>by rcases Im a with e|e|e|e<;>(rw[e];rfl)
theorem ND(a):∀op∈jB i j c s cap fi fj pi pj,op.act≠ .mark (.release a):=λ op b=>by rcases Im b with e|e|e|e<;>(rw[e];simp)
theorem KB:∀op∈jB i j c s cap fi fj pi pj,∀x,op.act.touch?=some x->x.kind≠ .said:=λ op b x a=>by rw[Hc op b]at a;cases a
theorem Yv(a:dk t i=0)(d:dk t j=0)(b:gf t i k):gf (t++jB i j c s cap fi fj pi pj) j k:=by
 rw[Vz];refine Wb rfl rfl rfl rfl a ?_ b;have e:((t++ #[⟨i,fi,pi,.send c s⟩])++ #[⟨j,fj,pj,.recv c s cap⟩,⟨i,fi,pi,.sendDone c s⟩]:hD)=((t++ #[⟨i,fi,pi,.send c s⟩])++ #[⟨j,fj,pj,.recv c s cap⟩])++ #[⟨i,fi,pi,.sendDone c s⟩]:=by rfl
 grind[j1,j2]
end
theorem abL{α:Type}{l:List α}{x}(h:l[k]?=some x):l.take (k+1)=l.take k++ [x]:=by grind[List.take_add_one]
theorem afb{j}(c:j<3){s}(h0:(ws j).a= [])(f:s.a= [x]){a b}(h:a.Perm (b++ ((ws 0).a++ ((ws 1).a++ (ws 2).a)))):(a++ [x]).Perm (b++ ((b2 ws j s 0).a++ ((b2 ws j s 1).a++ (b2 ws j s 2).a))):=by
 have e:∀l,l≠j->b2 ws j s l=ws l:=λ l d=>cr ws s d;have k:b2 ws j s j=s:=df ws j s;have base:(a++ [x]).Perm (b++ ([x]++ ((ws 0).a++ ((ws 1).a++ (ws 2).a)))):=by refine(h.append_right _).trans ?_;grind[hJ,kR,iA]
 refine base.trans (kR b ?_)
 match j,c with
 |0,_=>simp_all|1,_=>grind[hJ,List.Perm.append_right,iA]|2,_=>grind[iA,trans,List.Perm.of_eq,hJ]
theorem ai2{j}(c:j<3){s}(h0:(ws j).a= [x])(f:s.a= []){a b:List ea}(h:a.Perm (b++ ((ws 0).a++ ((ws 1).a++ (ws 2).a)))):a.Perm ((b++ [x])++ ((b2 ws j s 0).a++ ((b2 ws j s 1).a++ (b2 ws j s 2).a))):=by
 have e:∀l,l≠j->b2 ws j s l=ws l:=λ l d=>cr ws s d;have k:b2 ws j s j=s:=df ws j s;refine h.trans ?_;rw[hJ];refine kR b ?_
 match j,c with
 |0,_=>simp_all|1,_=>simp_all|2,_=>grind[hJ,iA]
variable{ob:Option Nat}{i:Nat}
theorem J4{m x}(c:j<3)(h:x.b=(ws j).b)(b:ms'.d+x.c+fs'.b m (bz ms ws)<ms.d+ (ws j).c+fs.b m (bz ms ws))(a:ms'.c=ms.c):bW m ms' (b2 ws j x) fs'<bW m ms ws fs:=by grind[b2,cr,df,bz,oG,bW]
theorem aP.A(R:T.g)(h:aP T S n N0 n0 w0 ms ws fs p ρ q wk gs t w){k x}(O:j<3)(au:ws j= .eC\/ws j= .eA)(X:fs= .dF k\/fs= .ff k)(z:T.d[k]?=some x){g1 J M L}(h1:gs[n+j]?=some g1)(h2:gs[n+3]?=some J) (W:dk t (n+j)=0/\dk t (n+3)=0) (al:∀w',bO (p (n+j)) w w'->T.h w'->bG P false (p (n+j)) M w' (T.k x)) (ak:∀p' w',T.p p'->T.h w'->bG P false p' L w' (T.i (k+1))) (d s) (aj:w.heap[T.c]?=some (.chan 0 #[] false s s false)) (F G) (H I):∃p' ρ' q' wk',aP T S n N0 n0 w0 ms (b2 ws j (.iz x)) (.dF (k+1)) p' ρ' q' wk' ((gs.setIfInBounds (n+j) M).setIfInBounds (n+3) L) (t++jB (n+3) (n+j) T.c s 0 F G H I) ((w.at d).setChan T.c 0 #[] false (s+1) (s+1) false)/\
  bW T.d.length ms (b2 ws j (.iz x)) (.dF (k+1))<bW T.d.length ms ws fs:=by
 have m:=h.a.d;have aI:=h.a.e;have o:(ws j).e=true/\(ws j).b=false/\(ws j).a= []/\ws j≠ .fD:=by rcases au with e|e<;>(rw[e];exact⟨rfl,rfl,rfl,by simp⟩)
 have g:fs.d=true/\fs.c=false/\fs.a=false/\fs≠ .cg/\fs≠ .dD/\fs≠ .fG/\fs.e T.d.length=k:=by rcases X with e|e<;>(rw[e];exact⟨rfl,rfl,rfl,by simp,by simp,by simp,rfl⟩)
 let w':=(w.at d).setChan T.c 0 #[] false (s+1) (s+1) false;have v:∀a,a≠T.c->w'.heap[a]?=w.heap[a]?:=λ a B=>ih (w.at d) _ _ _ _ _ _ (bk B);have ar:w'.heap[T.c]?=some (.chan 0 #[] false (s+1) (s+1) false):=hP (w.at d) aj _ _ _ _ _ _;have Q:w'.heap.size=w.heap.size:=by show((w.at d).setChan _ 0 _ _ _ _ _).heap.size=_;simp[lk];rfl
 have N:bE n (b2 ws j (.iz x)) (.dF (k+1))=bE n ws fs:=mJ (λ l _=>sj (show(bm.iz x).e=(ws j).e from o.1.symm) l) g.1.symm;have aw:bP S (λ b=>b=T.a\/b=T.c\/b=T.b) n0 (bE n (b2 ws j (.iz x)) (.dF (k+1))) (de T ms (.dF (k+1))) p (t++jB (n+3) (n+j) T.c s 0 F G H I) w':=by
  rw[N,wu ms _ _ ⟨g.2.2.2.2.1,g.2.2.2.2.2.1⟩ (by simp)];have:=(h.c.c d).k.E (jB (n+3) (n+j) T.c s 0 F G H I).toList (λ op D=>QC (w:=w.at d) (h.c.k.d _ (.inr (.inr (.inl rfl)))) op (by simpa using D)) (λ op D=>Hc op (by simpa using D));exact this.m (gg Q.symm)
 have u:∀l,bO (p l) w w':=λ l=> ⟨gg Q.symm,λ a B=>v a λ e=>(h.c.k.c l a B).2.2 (.inr (.inl e)),rfl,rfl,rfl⟩;have aL:∀l,(ws l).g=false:=λ l=>by
  cases e:(ws l).g with
  |false=>rfl
  |true=>have:=m.b l e;grind
 have az:ed T ms (b2 ws j (.iz x)) (.dF (k+1)):=by
  refine⟨λ _ _ e=>absurd e (by simp),λ l l' y own ob e z=>?_,λ e=>absurd e (by trivial),λ l e=>absurd e (by simp),λ l e=>?_,λ l f=>?_,⟨λ e=>absurd e (by simp),λ e=>absurd (m.a.2 e) g.2.2.2.1⟩,λ l f=>?_,?_,λ l e=>absurd e ((λ l e=>absurd (m.i l e) g.2.2.2.2.1) l)⟩
  by_cases f:l'=j
  grind[df]
  rw[cr ws _ f]at z;exact m.h l _ y _ _ e z;by_cases f:l=j;subst f;rw[df]at e;cases e
  grind[cr]
  by_cases C:l=j;subst C;rw[df];exact⟨by grind,λ e=>absurd ((m.d l f).2 e) o.2.2.2⟩;rw[cr _ _ C];exact m.d l f;rw[cr _ _ (by omega)];exact m.c l f;have V:=m.e;rw[g.2.2.2.2.2.2]at V;show(T.d.take (k+1)).Perm _;rw[abL z];exact afb O o.2.2.1 rfl V
 have av:ba T.a w (bR (bz ms ws) 0) 0/\∀j,ws j≠ .dg/\ws j≠ .dA/\ws j≠ .dt:=by
  have:=h.a.o;rcases X with e|e<;>(rw[e]at this;exact this)
 have U:Ab T n N0 w0 ms (b2 ws j (.iz x)) (.dF (k+1)) p (t++jB (n+3) (n+j) T.c s 0 F G H I) w':=by
  refine h.a.z az (IU (v _ h.a.c.2.1) (sY (fs:= .dF (k+1)) av o.2.1 rfl (oG (show(bm.iz x).b=(ws j).b from o.2.1.symm)))) ⟨s+1,ar⟩ (let⟨aC,e⟩:=h.a.q; ⟨aC,(v _ (bk h.a.c.1)).trans (by rw[e,g.2.2.1];rfl)⟩) Q (λ a _ B _=>v a B) (by rw[N];exact h.a.l) (λ l y own ob e=>?_) h.a.f (ND _) (h.a.h KB g.1.symm ⟨λ e=>absurd e (by simp),λ e=>absurd e g.2.2.2.1⟩) ⟨rfl,rfl,rfl⟩;have f:l≠j:=λ E=>by grind[df]
  rw[cr ws _ f]at e;have⟨ay,aa⟩:=h.a.g l y own ob e;exact⟨R.e y _ _ w _ ay λ b ai=>v b λ E=>(h.c.k.c _ b (h.c.k.e _ b (aa b ai))).2.2 (.inr (.inl E)),aa⟩
 have aK:bE n ws fs (n+j):= .inr (.inl ⟨j,O,rfl,o.1⟩);have ag:bE n ws fs (n+3):=nD g.1;have Z:T.h w':=U.y;have⟨aB,ac,aN⟩:=al w' (u _) Z;have⟨aA,ab,aM⟩:=ak (p (n+3)) w' (h.a.l _ ag) Z
 let ρ':=b2 (b2 ρ (n+j) (.cC (T.k x) ac)) (n+3) (.cC (T.i (k+1)) ab)
 have ad:ρ' (n+3)= .cC (T.i (k+1)) ab:=df _ _ _;have ae:ρ' (n+j)= .cC (T.k x) ac:=by grind[b2,cr,df]
 have A:∀l,l≠n+j->l≠n+3->ρ' l=ρ l:=λ l a b=>by grind[b2,cr]
 have aG:((n+j)==0)=false:=by grind
 have aH:((n+3)==0)=false:=by simp
 have ap:∀c,(c=T.a\/c=T.c\/c=T.b)->dT (w.at d) c->dT w' c:=λ c _ D=>by
  by_cases e:c=T.c
  exact⟨s+1,s+1,by grind⟩;have⟨a,b,ah⟩:=D;exact⟨a,b,(v c e).trans ah⟩
 have aD:=(h.c.c d).o (i:=n+3) (j:=n+j) (gi:=L) (gj:=M) (by omega) (ew.1 h2).1 (ew.1 h1).1 aw (p':=p) (ρ':=ρ') (q':=q) (wk':=wk) (λ _ _ _=>rfl) (λ l a b=>A l b a) (λ _ _ _=>rfl) (λ _ _ _=>rfl)
  (λ l=> ⟨(u l).b,(u l).e,(u l).i,(u l).f,(u l).h⟩) ap (λ l=>KV l) (by rw[ad];exact⟨⟨aA,W.2⟩,by grind⟩) (by rw[ae];exact⟨⟨aB,W.1⟩,by grind⟩) (λ l aF r e=>by
   rw[N];by_cases af:l=n+j
   grind
   by_cases E:l=n+3
   grind
   rw[A l af E]at e;exact h.c.b l _ r e)
 refine⟨p,ρ',q,wk,⟨aD,U,by simp[h.e],h.o,by rw[A 0 (by omega) (by omega)];exact h.r,λ l f=>?_,by rw[ad];exact⟨(List.getElem?_eq_some_iff.1 z).1,_,rfl⟩,λ aJ h0 am=>?_,λ l J K e Y=>?_⟩,?_⟩
 by_cases C:l=j;subst C;rw[df,ae];exact⟨ny z,_,rfl⟩;rw[cr _ _ C,A _ (by omega) (by omega)];exact h.f l f;rw[A _ (by omega) (by omega)];exact h.k _ h0 am;rw[A 0 (by omega) (by omega)]at Y;have⟨m1,m2⟩:=h.m l J K e Y;exact⟨R.f _ _ _ _ _ m1 (u 0),m2⟩;refine J4 O o.2.1.symm ?_ rfl
 grind[bm.c,bz,bJ.b]
def vw(p:Nat->ai)(i:Nat)(ob:Option Nat)(l:Nat):=if l=0 then⟨λ a=>(p 0).a a\/ob=some a,λ a=>(p 0).b a\/ob=some a⟩else if l=i then⟨λ a=>(p i).a a/\ob≠some a,λ a=>(p i).b a/\ob≠some a⟩else p l
theorem xW{p}:vw p i ob 0= ⟨λ a=>(p 0).a a\/ob=some a,λ a=>(p 0).b a\/ob=some a⟩:=rfl
theorem qS{p}(b:i≠0):vw p i ob i= ⟨λ a=>(p i).a a/\ob≠some a,λ a=>(p i).b a/\ob≠some a⟩:=by grind[vw]
theorem qt{p l}(h0:l≠0)(a:l≠i):vw p i ob l=p l:=by grind[vw]
theorem aP.G(Q:T.g)(h:aP T S n N0 n0 w0 ms ws fs p ρ q wk gs t w){l x own}(L:j<3)(ab:(ws j= .iz x/\ms= .dH l)\/(ws j= .eh x own ob/\ms= .eD l)){g1 Y I gm}(h1:gs[n+j]?=some g1)(h2:gs[0]?=some Y) (J:dk t (n+j)=0/\dk t 0=0) (D:T.j x own ob w/\∀b,ob=some b->(p (n+j)).b b) (aY:x∈T.d) (ao:∀p' w',(∀a,p'.a a↔(p (n+j)).a a/\ob≠some a)->(∀a,p'.b a↔(p (n+j)).b a/\ob≠some a)->bO p' w w'->T.h w'->bG P false p' I w' T.f) (an:∀p' w',bO (p 0) w w'->T.h w'->T.j x own ob w'->(∀a,p'.a a↔(p 0).a a\/ob=some a)->(∀a,p'.b a↔(p 0).b a\/ob=some a)->bG P true p' gm w' (T.e (l++ [x]))) (d s) (al:w.heap[T.b]?=some (.chan 0 #[] false s s false)) (G H) (N O):∃p' ρ' q' wk',aP T S n N0 n0 w0 (.eD (l++ [x])) (b2 ws j .eC) fs p' ρ' q' wk' ((gs.setIfInBounds (n+j) I).setIfInBounds 0 gm) (t++jB (n+j) 0 T.b s 0 G H N O) ((w.at d).setChan T.b 0 #[] false (s+1) (s+1) false)/\
  bW T.d.length (.eD (l++ [x])) (b2 ws j .eC) fs<bW T.d.length ms ws fs:=by
 have C:=h.a.d;have aV:=h.a.e;have z:(ws j).e=true/\(ws j).b=false/\(ws j).a= [x]/\ws j≠ .fD/\ws j≠ .cd:=by rcases ab with⟨e,_⟩| ⟨e,_⟩<;>(rw[e];exact⟨rfl,rfl,rfl,by simp,by simp⟩)
 have A:ms.a=4/\ms.c=3/\ms.f=l/\∀l',ms≠ .eF l':=by rcases ab with⟨_,e⟩| ⟨_,e⟩<;>(rw[e];exact⟨rfl,rfl,rfl,by simp⟩)
 have aT:fs.a=false:=by cases fs<;>first|rfl|exact absurd rfl (As h.a.o L z.2.2.2.2).2.2.2
 have ac:n+j≠0:=by omega
 let w':=(w.at d).setChan T.b 0 #[] false (s+1) (s+1) false
 have B:∀a,a≠T.b->w'.heap[a]?=w.heap[a]?:=λ a g=>ih (w.at d) _ _ _ _ _ _ (bk g);have aX:w'.heap[T.b]?=some (.chan 0 #[] false (s+1) (s+1) false):=hP (w.at d) al _ _ _ _ _ _;have V:w'.heap.size=w.heap.size:=by show((w.at d).setChan _ 0 _ _ _ _ _).heap.size=_;simp[lk];rfl
 have aa:bE n (b2 ws j .eC) fs=bE n ws fs:=mJ (λ l _=>sj (show bm.eC.e=(ws j).e from z.1.symm) l) rfl;have a0:bE n ws fs (n+j):= .inr (.inl ⟨j,L,rfl,z.1⟩);have u:=h.c.k
 let p':=vw p (n+j) ob
 have ap:=u.f;have az:bP S (λ b=>b=T.a\/b=T.c\/b=T.b) n0 (bE n (b2 ws j .eC) fs) (de T (.eD (l++ [x])) fs) p' (t++jB (n+j) 0 T.b s 0 G H N O) w':=by
  rw[aa,Jj _ _ _ A.2.2.2 (by simp)];refine((h.c.c d).k.H (i:=n+j) (j:=0) (A':=bE n ws fs) (QC (w:=w.at d) (u.d _ (.inr (.inr (.inr rfl))))) Hc (λ _ x=>x) (.inl rfl) (λ k ar=>Yv J.1 J.2 ar) (λ a b f=>?_) (λ a b f=>?_) (λ a c b aQ f aS=>?_)).m (gg V.symm)
  by_cases e:a=0;subst e;rw[show p' 0=_ from xW]at f;obtain y|y:=f
  grind
  exact .inr ⟨rfl,u.e _ b (D.2 b y)⟩
  grind[qS,qt]
  by_cases e:a=0;subst e;rw[show p' 0=_ from xW]at f⊢;obtain y|y:=f
  exact⟨.inl (u.e 0 b y),.inl y⟩
  grind
  by_cases m:a=n+j;subst m;rw[show p' (n+j)=_ from qS ac]at f⊢;exact⟨⟨u.e _ b f.1,f.2⟩,.inl f.1⟩;rw[show p' a=_ from qt e m]at f⊢;exact⟨u.e a b f,.inl f⟩
  
  have W:(a=0/\((p 0).b b\/ob=some b))\/(a≠0/\(p a).b b/\(a=n+j->ob≠some b)):=by
   grind[xW,qS,qt,absurd]
  have R:(c=0/\((p 0).a b\/ob=some b))\/(c≠0/\(p c).a b/\(c=n+j->ob≠some b)):=by
   grind[xW,qS,qt,absurd]
  rcases W with⟨U,w1⟩| ⟨U,w1,w2⟩<;>obtain⟨m,af⟩| ⟨m,af,a1⟩:=R
  omega
  grind
  subst m;obtain y|y:=af
  grind
  by_cases aj:a=n+j
  grind
  exact ap a _ b aj w1 (u.e _ b (D.2 b y))
  grind
 have v:∀l,bO (p l) w w':=λ l=> ⟨gg V.symm,λ a g=>B a λ e=>(u.c l a g).2.2 (.inr (.inr e)),rfl,rfl,rfl⟩;have aF:ed T (.eD (l++ [x])) (b2 ws j .eC) fs:=by
  refine⟨λ k l' e E=>?_,λ l' _ _ _ _ e=>absurd e (by simp),λ e l' E=>?_,λ l' e=>by simp,λ l' e=>?_,λ l' o=>?_,?_,λ l' o=>?_,?_,λ l' e=>absurd e (by simp)⟩
  by_cases o:l'=j
  grind[df]
  rw[cr ws _ o]at E;exact C.g k _ e E;by_cases o:l'=j
  grind[df]
  rw[cr ws _ o]at E;exact C.f e _ E;by_cases o:l'=j;subst o;rw[df]at e;cases e;rw[cr ws _ o]at e;exact C.b _ e;show _↔4<=l';rw[<-A.1];by_cases M:l'=j
  grind[df,absurd]
  rw[cr _ _ M];exact C.d _ o;show _↔4<=3;rw[<-A.1];exact C.a;rw[cr _ _ (by omega)];exact C.c _ o;have Z:=C.e;rw[A.2.2.1]at Z;exact ai2 L z.2.2.1 rfl Z
 have am:bz (.eD (l++ [x])) (b2 ws j .eC)=bz ms ws:=by rw[oG (show bm.eC.b=(ws j).b from z.2.1.symm)];unfold bz;rw[A.2.1];rfl
 have a3:∀b,ob=some b->¬T.z b:=λ b f=>by subst f;exact Q.F x _ b w D.1
 have aA:∀i,bE n ws fs i->T.p (p' i):=λ i g a ay=>by
  have aU:=h.a.l i g a ay
  grind[xW,qS,qt]
 have X:Ab T n N0 w0 (.eD (l++ [x])) (b2 ws j .eC) fs p' (t++jB (n+j) 0 T.b s 0 G H N O) w':=by
  refine h.a.z aF (IU (B _ h.a.c.2.2) (sY h.a.o z.2.1 rfl am)) (let⟨aK,e⟩:=h.a.r; ⟨aK,(B _ h.a.c.1).trans e⟩) ⟨s+1,by grind⟩ V (λ a _ _ g=>B a g) (λ i g=>aA i (by simp_all)) (λ l' y aE aC e=>?_) (λ i a g=>?_) (ND _) (h.a.h KB rfl bl) ⟨rfl,rfl,rfl⟩
  have o:l'≠j:=λ m=>by grind[df]
  rw[cr ws _ o]at e;have⟨aB,ae⟩:=h.a.g l' y aE aC e;rw[show p' _=_ from qt (by omega) (by omega)];exact⟨Q.e y _ _ w _ aB λ b f=>B b λ m=>(u.c _ b (u.e _ b (ae b f))).2.2 (.inr (.inr m)),ae⟩;by_cases e:i=0;subst e;exact g.elim (h.a.f 0 a) λ y=>h.a.f _ a (D.2 a y);by_cases m:i=n+j;subst m;rw[show p' (n+j)=_ from qS ac]at g;exact h.a.f _ a g.1;rw[show p' i=_ from qt e m]at g;exact h.a.f i a g
 have ad:T.h w':=X.y;have⟨aJ,ah,a2⟩:=ao (p' (n+j)) w' (λ a=>by grind[qS]) (λ a=>by grind[qS]) ⟨(v (n+j)).b,λ a g=>(v (n+j)).e a (by grind[qS]),rfl,rfl,rfl⟩ ad;have⟨aH,ag,aI⟩:=an (p' 0) w' (v 0) ad (Q.e x own ob w w' D.1 λ b f=>B b ((λ b f e=>(u.c _ b (u.e _ b (D.2 b f))).2.2 (.inr (.inr e))) b f)) (λ a=>by rfl) (λ a=>by rfl)
 let ρ':=b2 (b2 ρ (n+j) (.cC T.f ah)) 0 (.cC (T.e (l++ [x])) ag)
 have ai:ρ' (n+j)= .cC T.f ah:=by grind[b2,cr,df]
 have F:∀l',l'≠n+j->l'≠0->ρ' l'=ρ l':=λ l' a b=>by grind[b2,cr]
 have aR:((n+j)==0)=false:=by grind
 have av:∀c,(c=T.a\/c=T.c\/c=T.b)->dT (w.at d) c->dT w' c:=λ c _ aw=>by
  by_cases e:c=T.b
  exact⟨s+1,s+1,by grind⟩;have⟨a,b,ak⟩:=aw;exact⟨a,b,(B c e).trans ak⟩
 have aL:fa P S (λ b=>b=T.a\/b=T.c\/b=T.b) n0 (bE n (b2 ws j .eC) fs) (de T (.eD (l++ [x])) fs) p' ρ' q wk ((gs.setIfInBounds (n+j) I).setIfInBounds 0 gm) (t++jB (n+j) 0 T.b s 0 G H N O) w':=
  (h.c.c d).o (i:=0) (j:=n+j) (gi:=gm) (gj:=I) (by omega) (ew.1 h2).1 (ew.1 h1).1 az (p':=p') (ρ':=ρ') (q':=q) (wk':=wk) (λ l' a b=>qt a b) (λ l' a b=>F l' b a) (λ _ _ _=>rfl) (λ _ _ _=>rfl)
  (λ l'=> ⟨(v l').b,(v l').e,(v l').i,(v l').f,(v l').h⟩) av (λ l=>KV l) (⟨⟨aH,J.2⟩,aI⟩) (by rw[ai];exact⟨⟨aJ,J.1⟩,by grind⟩) (λ l' aO r e=>by
   rw[aa];by_cases U:l'=n+j
   grind
   by_cases m:l'=0;exact .inl m;rw[F l' U m]at e;exact h.c.b _ _ r e)
 refine⟨p',ρ',q,wk,⟨aL,X,by simp[h.e,A.1];rfl,h.o,by exact⟨_,rfl⟩,λ l' o=>?_,by rw[F _ (by omega) (by omega)];exact h.u,λ aZ h0 aq=>?_,λ l' Y K e aW=>absurd e (by simp)⟩,?_⟩
 by_cases M:l'=j;subst M;rw[df,ai];exact⟨_,rfl⟩;rw[cr _ _ M,F _ (by omega) (by omega)];exact h.f _ o;rw[F _ (by omega) (by omega)];exact h.k _ h0 aq;refine J4 L z.2.1.symm ?_ A.2.1.symm
 grind[bm.c,bD.d]
end
section
variable{j:Nat}{g:Goroutine}{x:Value}{sh:CommShape}{k j0:Nat}{l0:List Value}
theorem ed.y{P}{T:dY P}{ms ws fs}(h:ed T ms ws fs){l}(c:ms.f=l)(b:j<3)(g:(ws j).a= [x]):∃r,T.d.Perm (l++x::r):=by
 have a:=h.e;rw[c]at a;have e:T.d=T.d.take (fs.e T.d.length)++T.d.drop (fs.e T.d.length):=(List.take_append_drop _ _).symm;have key:∀r0,((ws 0).a++ ((ws 1).a++ (ws 2).a)).Perm (x::r0)->∃r,T.d.Perm (l++x::r):=λ r0 d=> ⟨r0++T.d.drop (fs.e T.d.length),by have f:=(a.trans (kR l d)).append_right (T.d.drop (fs.e T.d.length));grind⟩
 match j,b with|0,_=>grind[List.Perm.refl]|1,_=>grind[List.perm_middle]|2,_=>exact key ((ws 0).a++ (ws 1).a) (by grind[hJ,iA])
section
variable{P:Program}{T:dY P}{S:Nat->Prop}{n N0 n0:Nat}{w0:World}{ms ms':bD}{ws ws':Nat->bm}{fs fs':bJ}{p p':Nat->ai}{ρ ρ':Nat->dm}{q wk q':Nat->Nat}{gs:Array Goroutine}{t u:Trace}{w w':World}
theorem Bj{a b cs cs' f}(h:en a cs sh=en b cs' f)(v):gu a v=gu b v:=by have⟨g,i,j,k,l⟩:=a;have⟨m,n,o,p,q⟩:=b;simp only[en,Goroutine.mk.injEq]at h;have⟨c,d,_,e,_⟩:=h;subst c d e;rfl
theorem Cj{a b c d e}(h:en a #[c] sh=en b #[d] e):c=d/\sh=e:=by grind[en,Goroutine.mk.injEq,Option.some.injEq,Prod.mk.injEq,Array.mk.injEq]
theorem Po{gs:Array ei}{i}(h:i≠j)(a b):(gs.setIfInBounds i a).setIfInBounds j b=(gs.setIfInBounds j b).setIfInBounds i a:=Array.setIfInBounds_comm a b h
theorem CF(w:dr)(d e):(w.at d).at e=w.at e:=rfl
theorem D5{l i c z}(a:l≠i)(h:gs[l]?=some (en g #[ep c z] sh)):(l,0)∈mn (gs.setIfInBounds i ph) c false:=nv.2 ⟨_,stand_get a h,by rw[nb,if_pos rfl];simp⟩
theorem Bx{l i c v z}(a:l≠i)(h:gs[l]?=some (en g #[eH c v z] sh)):(l,0)∈mn (gs.setIfInBounds i ph) c true:=nv.2 ⟨_,stand_get a h,by rw[qc,if_pos rfl];simp⟩
theorem aP.y(h:aP T S n N0 n0 w0 ms ws fs p ρ q wk gs t w){l}(a:l<n+ms.a):∃g,gs[l]?=some g:= ⟨_,hY (h.e▸a)⟩
theorem aP.D(h:aP T S n N0 n0 w0 ms ws fs p ρ q wk gs t w)(b:j<3)(c:ws j≠ .fD):∃g,gs[n+j]?=some g:=by refine h.y ?_;have:¬ms.a<=j:=λ a=>c ((h.a.d.d j b).2 a);omega
theorem aP.ajO(h:aP T S n N0 n0 w0 ms ws fs p ρ q wk gs t w)(b:fs≠ .cg):∃g,gs[n+3]?=some g:=by refine h.y ?_;have:¬ms.a<=3:=λ a=>b (h.a.d.a.2 a);omega
theorem aP.F(f:T.g)(h:aP T S n N0 n0 w0 ms ws fs p ρ q wk gs t w)(d:j<3)(o:ws j= .eA):∃a,gs[n+j]?=some (en a #[ep T.c T.y] (.recv true))/\dk t (n+j)=0/\∀x w',x∈T.d->bO (p (n+j)) w w'->T.h w'->bG P false (p (n+j)) (gu a (.tuple #[x,.bool true])) w' (T.k x):=by
 have⟨g,c⟩:=h.D d (by grind);have e:=h.f j d;rw[o]at e;have⟨a,i⟩:=e;have b:=h.c.a _ g c;rw[i]at b;have⟨k1,s⟩:=b.2.2 w (bO.c _ _);have⟨_,l,r,_,m,_⟩:=f.i _ _ w k1;have k:l=a:=by simp_all
 subst k;exact⟨_,by rw[c,b.1.1],b.1.2,m⟩
theorem aP.B(h:aP T S n N0 n0 w0 ms ws fs p ρ q wk gs t w){own ob}(d:j<3)(i:ws j= .eh x own ob):∃b,gs[n+j]?=some (en b #[eH T.b own (.tuple #[])] .send)/\dk t (n+j)=0/\x∈T.d/\IM T b ob (p (n+j)) w:=by have⟨g,c⟩:=h.D d (by grind);have e:=h.f j d;rw[i]at e;have⟨k,b,f⟩:=e;have a:=h.c.a _ g c;rw[f]at a;exact⟨_,by rw[c,a.1.1],a.1.2,k,a.2.2 w (bO.c _ _)⟩
theorem aP.aj7(h:aP T S n N0 n0 w0 ms ws fs p ρ q wk gs t w)(i:fs= .ff k):∃a x,gs[n+3]?=some (en a #[eH T.c x (.tuple #[])] .send)/\dk t (n+3)=0/\T.d[k]?=some x/\∀p' w',T.p p'->T.h w'->bG P false p' (gu a Go.undef) w' (T.i (k+1)):=by have⟨g,c⟩:=h.ajO (by grind);have d:=h.u;rw[i]at d;have⟨a,x,K,j,e,f⟩:=d;have b:=h.c.a _ g c;rw[e]at b;exact⟨_,x,by rw[c,b.1.1],b.1.2,j,f⟩
theorem aP.aj9(k:T.g)(h:aP T S n N0 n0 w0 ms ws fs p ρ q wk gs t w){l}(i:ms= .dH l):∃b,gs[0]?=some (en b #[ep T.b T.o] (.recv true))/\dk t 0=0/\∀x own d p' w',(∃r,T.d.Perm (l++x::r))->bO (p 0) w w'->T.h w'->T.j x own d w'->(∀a,p'.a a↔(p 0).a a\/d=some a)->(∀a,p'.b a↔(p 0).b a\/d=some a)->bG P true p' (gu b (.tuple #[own,.bool true])) w' (T.e (l++ [x])):=by
 have⟨g,f⟩:=h.y (l:=0) (by have:=h.a.e;omega);have j:=h.r;rw[i]at j;have⟨b,K,e⟩:=j;have c:=h.c.a _ g f;rw[e]at c;have⟨m1,m2⟩:=h.m l b K i e;have⟨_,o,u,_,s,_⟩:=k.h l _ _ w m1;have m:o=b:=by simp_all
 subst m;exact⟨_,by rw[f,c.1.1],c.1.2,s⟩
theorem aP.W(a:T.g)(h:aP T S n N0 n0 w0 ms ws (.dF k) p ρ q wk gs t w)(y:gs[n+3]?=some g)(R:g.status= .running/\dk t (n+3)=0)(W:T.i k (p (n+3)) g w)(f:T.d[k]?=some x)(M:j0<3)(Y:ws j0= .eA)(d)(D):dO T S n N0 n0 w0 (n+3) d D gs t w (bW T.d.length ms ws (.dF k)):=by
 have⟨_,o,U,K⟩:=a.C k x _ g w W f;have ah:((n+3)==0)=false:=by simp
 have⟨s,b⟩:=h.a.r;have b:w.heap[T.c]?=some (.chan 0 #[] false s s false):=b;have⟨af,J,_⟩:=h.F a M Y;obtain⟨l,gj,aa,C,G,N,v,c⟩:=p7 (sl:=D) y (show ef P ((n+3)==0) g (w.at d)=_ by exact U _ (jn _ _ _)) (show(w.at d).heap[T.c]?=_ from b) (λ e=>by have:=D5 (i:=n+3) (by omega) J;grind) (λ l k Q=>by have⟨ab,ac,ad,F,sh,ae,E,m⟩:=h.d Q;grind);have⟨_,_,ag,F,sh,_,E,m⟩:=h.d (D5 (i:=n+3) N v);obtain⟨j,z,O,B⟩:∃j,j<3/\l=n+j/\ws j= .eA:=by obtain⟨_,e,_⟩| ⟨_,_,e,_⟩| ⟨e,_⟩| ⟨e,_⟩:=m;exact absurd e h.a.c.1;all_goals trivial
 subst O;have⟨r,u,I,L⟩:=h.F a z B;have A:en gj #[ep T.c aa] C=en r #[ep T.c T.y] (.recv true):=l1 (v.symm.trans u);have V:C= .recv true:=(Cj A).2;subst V;rw[kH,hQ,oM rfl,jA,CF]at c;rw[Bj A _]at c;have⟨p',ρ',q',wk',Z,H⟩:=h.A a z (.inr B) (.inl rfl) f u y ⟨I,R.2⟩ (λ w'=>L x w' (ny f)) K G s b o.frame.fn gj.frame.fn o.frame.place gj.frame.place;exact⟨_,_,_,_,_,_,_,_,_,_,c,Z,H⟩
theorem aP.Q(f:T.g)(h:aP T S n N0 n0 w0 ms ws (.ff k) p ρ q wk gs t w)(K:j<3)(W:ws j= .eC)(u:gs[n+j]?=some g)(O:g.status= .running/\dk t (n+j)=0)(U:T.f (p (n+j)) g w)(d)(A):dO T S n N0 n0 w0 (n+j) d A gs t w (bW T.d.length ms ws (.ff k)):=by
 have⟨_,o,Q,_,I,_⟩:=f.i _ g w U;have ag:=rO h j;have G:((n+j)==0)=false:=by grind
 have⟨s,a⟩:=h.a.r;have a:w.heap[T.c]?=some (.chan 0 #[] false s s false):=a;have⟨E,x,b,H,z,J⟩:=h.aj7 rfl;obtain⟨l,gj,c,Z,Y,D,L,r,y⟩:=p8 (sl:=A) u (show ef P ((n+j)==0) g (w.at d)=_ by rw[G];exact Q _) (show(w.at d).heap[T.c]?=_ from a) (λ e=>by have:=Bx (i:=n+j) (by omega) b;grind) (λ l k N=>by have⟨aa,ab,ac,C,sh,ad,B,m⟩:=h.d N;grind);have⟨_,_,ae,C,sh,_,B,m⟩:=h.d (Bx (i:=n+j) L r);have M:l=n+3:=by obtain⟨e,_⟩| ⟨e,_⟩| ⟨_,e,_⟩| ⟨_,_,e,_⟩:=m;cases e;cases e;exact absurd e h.a.c.1;omega
 subst M;have v:en gj #[eH T.c c Z] Y=en E #[eH T.c x (.tuple #[])] .send:=l1 (r.symm.trans b);have⟨af,R⟩:=Cj v;have V:c=x:=by grind[eH]
 subst R V;rw[kH,hQ,oM rfl,jA,CF,Bj v,Po (by omega)]at y;have⟨p',ρ',q',wk',X,F⟩:=h.A f K (.inl W) (.inr rfl) z u b ⟨O.2,H⟩ (λ w'=>I c w' (ny z)) J D s a gj.frame.fn o.frame.fn gj.frame.place o.frame.place;exact⟨_,_,_,_,_,_,_,_,_,_,y,X,F⟩
theorem aP.Y(b:T.g)(h:aP T S n N0 n0 w0 (.dH l0) ws fs p ρ q wk gs t w)(a:j<3)(o:ws j= .iz x)(z:gs[n+j]?=some g)(V:g.status= .running/\dk t (n+j)=0)(Y:T.k x (p (n+j)) g w)(d)(C):dO T S n N0 n0 w0 (n+j) d C gs t w (bW T.d.length (.dH l0) ws fs):=by
 have⟨_,own,ac,v,W,R,U,K⟩:=b.D x _ g w Y;have aj:=rO h j;have H:((n+j)==0)=false:=by grind
 have J:fs.a=false:=by cases fs<;>first|rfl|exact absurd rfl (As h.a.o a (by grind)).2.2.2
 have⟨s,c⟩:=h.a.q;rw[J]at c;have aa:x∈T.d:=by have:=h.f j a;rw[o]at this;exact this.1
 have⟨u,f,I,L⟩:=h.aj9 b rfl;obtain⟨l,gj,ad,B,F,M,y,m⟩:=p7 (sl:=C) z (show ef P ((n+j)==0) g (w.at d)=_ by rw[H];exact W _ (jn _ _ _)) (show(w.at d).heap[T.b]?=_ from c) (λ e=>by have:=D5 (i:=n+j) (by omega) f;grind) (λ l k Q=>by have⟨ae,af,ag,E,sh,ah,D,r⟩:=h.d Q;grind);have⟨_,_,ai,E,sh,_,D,r⟩:=h.d (D5 (i:=n+j) M y);have N:l=0:=by obtain⟨_,_,e,_⟩| ⟨_,e,_⟩| ⟨e,_⟩| ⟨e,_⟩:=r;exact e;exact absurd e (bk h.a.c.1);all_goals trivial
 subst N;have A:en gj #[ep T.b ad] B=en u #[ep T.b T.o] (.recv true):=l1 (y.symm.trans f);have X:B= .recv true:=(Cj A).2;subst X;rw[kH,hQ,oM rfl,jA,CF,Po (by omega)]at m;rw[Bj A _]at m;have⟨p',ρ',q',wk',ab,G⟩:=h.G b a (.inl ⟨o,rfl⟩) z f ⟨V.2,I⟩ ⟨R,U⟩ aa K (λ p' w'=>L x own ac p' w' (h.a.d.y rfl a (by rw[o];rfl))) F s c v.frame.fn gj.frame.fn v.frame.place gj.frame.place;exact⟨_,_,_,_,_,_,_,_,_,_,m,ab,G⟩
theorem aP.ajP(o:T.g)(h:aP T S n N0 n0 w0 (.eD l0) ws fs p ρ q wk gs t w)(z:gs[0]?=some g)(V:g.status= .running/\dk t 0=0)(Y:T.e l0 (p 0) g w)(A:j0<3){ag ae ad}(aa:ws j0= .eh ag ae ad)(d)(D):dO T S n N0 n0 w0 0 d D gs t w (bW T.d.length (.eD l0) ws fs):=by
 have⟨_,u,W,_,M,_⟩:=o.h l0 _ g w Y;have au:=h.a.e;have L:fs.a=false:=by cases fs<;>first|rfl|exact absurd rfl (As h.a.o A (by grind)).2.2.2
 have⟨s,f⟩:=h.a.q;rw[L]at f;have⟨ap,K,_⟩:=h.B A aa;have⟨l,gj,c,ah,af,G,O,y,C⟩:=p8 (sl:=D) z (show ef P (0==0) g (w.at d)=_ from W (w.at d)) (show(w.at d).heap[T.b]?=_ from f) (λ e=>by have:=Bx (i:=0) (by omega) K;grind) (λ l k U=>by have⟨ai,aj,ak,F,sh,al,E,r⟩:=h.d U;grind);have⟨_,_,aq,F,sh,_,E,r⟩:=h.d (Bx (i:=0) O y);obtain⟨j,x,own,a,m,R,b⟩:∃j x own a,j<3/\l=n+j/\ws j= .eh x own a:=by obtain⟨e,_⟩| ⟨e,_⟩| ⟨_,_,⟨j,x,own,a,am,an,ao,_⟩,_⟩| ⟨_,e,_⟩:=r;cases e;cases e;grind;exact absurd e (bk h.a.c.1)
 subst R;have⟨H,v,J,ab,N⟩:=h.B m b;have B:en gj #[eH T.b c ah] af=en H #[eH T.b own (.tuple #[])] .send:=l1 (y.symm.trans v);have⟨ar,X⟩:=Cj B;have Z:c=own:=by grind[eH]
 subst X Z;rw[kH,hQ,oM rfl,jA,CF,Bj B]at C;have⟨p',ρ',q',wk',ac,I⟩:=h.G o m (.inr ⟨b,rfl⟩) v z ⟨J,V.2⟩ (h.a.g j x c a b) ab N (λ p' w'=>M x c a p' w' (h.a.d.y rfl m (by rw[b];rfl))) G s f gj.frame.fn u.frame.fn gj.frame.place u.frame.place;exact⟨_,_,_,_,_,_,_,_,_,_,C,ac,I⟩
end
variable{P:Program}{T:dY P}{S:Nat->Prop}{n N0 n0:Nat}{w0:World}{ms ms':bD}{ws ws':Nat->bm}{fs fs':bJ}{p p':Nat->ai}{ρ ρ':Nat->dm}{q wk q':Nat->Nat}{gs:Array Goroutine}{t u:Trace}{w w':World}
theorem afx{a}(c:a.status= .running)(b:a.offers=none)(h:g={a with status:= .blocked}\/g=a)(w):g.again w=a:=by obtain rfl|rfl:=h;have⟨d,e,f,i,j⟩:=a;subst c b;rfl;grind[Dk]
theorem aP.akc(B:T.g)(h:aP T S n N0 n0 w0 ms ws .dZ p ρ q wk gs t w)(A:j<3)(v:ws j= .dt)(I:gs[n+j]?=some g)(af:T.E (dk t (n+j)) g)(d)(Q):dO T S n N0 n0 w0 (n+j) d Q gs t w (bW T.d.length ms ws .dZ):=by
 have⟨aw,aF,aB,g',ae,ac,N,az⟩:=B.y _ g af;have⟨_,H,ay,y⟩:=D6 h A (.inr (.inr v));have y:ba T.a w 0 0:=by grind
 have aC:=rO h j;have E:((n+j)==0)=false:=by grind
 have⟨au,_,aI⟩:=IA (T:=T) y 1;let w':=(w.at d).setCell (dL T.a) (.int .u32 1);have u:∀a,a≠T.a->w'.heap[a]?=w.heap[a]?:=λ a o=>nI _ _ _ o;have F:w'.heap.size=w.heap.size:=au;have D:bE n (b2 ws j .cd) .eE=bE n ws .dZ:=mJ (λ l _=>sj (by rw[v];rfl) l) rfl;have ad:de T ms .eE=de T ms .dZ:=wu ms _ _ (by simp) (by simp);have ag:bP S (λ b=>b=T.a\/b=T.c\/b=T.b) n0 (bE n (b2 ws j .cd) .eE) (de T ms .eE) p (t++eg (n+j) g.frame.fn g.frame.place (lu (dL T.a))) w':=by
  rw[D,ad];exact(Pk (h.c.c d).k h.o _ _ _).m (gg F.symm)
 have L:∀l,bO (p l) w w':=λ l=> ⟨gg F.symm,λ a o=>u a λ e=>(h.c.k.c l a o).2.2 (.inl e),rfl,rfl,rfl⟩;have al:ed T ms (b2 ws j .cd) .dZ:=h.a.d.r A (by grind) (by simp) (by simp) (by simp) (λ _=>rfl) (by rw[v];rfl);have aq:ib T ms (b2 ws j .cd) .eE w':=by
  refine .inr ⟨by rw[oG (by rw[v];rfl)];omega,j,A,λ l i aA=>by grind[cr],.inr (.inr ⟨I7 y _,df _ _ _⟩)⟩
 have V:Ab T n N0 w0 ms (b2 ws j .cd) .eE p (t++eg (n+j) g.frame.fn g.frame.place (lu (dL T.a))) w':=by
  refine h.a.z (al.o rfl rfl (by simp) (by simp) (by simp) rfl rfl (by simp) (by simp)) aq (let⟨s,e⟩:=h.a.r; ⟨s,(u _ (bk h.a.c.2.1)).trans e⟩) (let⟨s,e⟩:=h.a.q; ⟨s,(u _ (bk h.a.c.2.2)).trans e⟩) F (λ a o _ _=>u a o) (by rw[D];exact h.a.l) (λ l x own ai e=>?_) h.a.f
   (uh λ e aa=>?_) (h.a.h (uM λ e aa x G=>?_) rfl (by simp)) ⟨rfl,rfl,rfl⟩
  have i:l≠j:=λ z=>by grind[df]
  rw[cr ws _ i]at e;have⟨ah,O⟩:=h.a.g l x own ai e;exact⟨B.e x _ _ w _ ah λ b E=>u b λ z=>(h.c.k.c _ b (h.c.k.e _ b (O b E))).2.2 (.inl z),O⟩
  all_goals grind[BS,f,xd,Aj,k8,yd]
 have aE:∀c,dT w c->dT w' c:=λ c H=>JE (w:=w.at d) y rfl _ H;have ar:∀x,fu P g g' w' x=x.again w':=λ x=>by grind[fu]
 let ρ':=b2 (b2 ρ (n+3) (.cF T.J T.m)) (n+j) (.cF JT gM);let q':=b2 (b2 q (n+3) 0) (n+j) N;have U:ρ' (n+j)= .cF JT gM:=df _ _ _;have R:ρ' (n+3)= .cF T.J T.m:=by grind[b2,cr,df]
 have m:∀l,l≠n+j->l≠n+3->ρ' l=ρ l:=λ l a b=>by grind[b2,cr]
 have ao:q' (n+j)=N:=df _ _ _;have am:q' (n+3)=0:=by grind[b2,cr,df]
 have an:∀l,l≠n+j->l≠n+3->q' l=q l:=λ l a b=>by grind[b2,cr]
 have⟨aH,ab,ax⟩:=h.u;have ap:fa P S (λ b=>b=T.a\/b=T.c\/b=T.b) n0 (bE n (b2 ws j .cd) .eE) (de T ms .eE) p ρ' q' (λ _=>1) ((gs.map (fu P g g' w')).setIfInBounds (n+j) g') (t++eg (n+j) g.frame.fn g.frame.place (lu (dL T.a))) w':=by
  refine h.c.m I ag ?_ (λ l x i G=>?_) (λ l av r e=>?_)
  rw[U,ao];exact⟨.inl ac,by grind[H9]⟩;by_cases C:l=n+3;subst C;have k:=h.c.a _ x G;rw[ab]at k;rw[R,am,ar,afx k.1.1 k.2.1 (k.2.2.imp id And.left)];have Z:((n+3)==0)=false:=by simp
  refine⟨.inl k.1.1,?_⟩;rw[Z,k.1.2];trivial;rw[m l i C,an l i C];exact eJ.b (h.c.a l x G) (L l) (by grind) g _;rw[D];by_cases W:l=n+j
  grind
  by_cases z:l=n+3
  grind
  rw[m l W z]at e;exact h.c.b l _ r e
 refine⟨_,w',_,ms,b2 ws j .cd,.eE,p,ρ',_,_,kL (sl:=Q) I (show ef P ((n+j)==0) g (w.at d)=_ by rw[E];exact ae _ y),⟨ap,V,by simp[h.e],h.o,?_,λ l i=>?_,R,λ aG h0 Y=>?_,λ l X K e M=>?_⟩,?_⟩
 rw[m 0 (by omega) (by omega)];exact h.r;by_cases J:l=j;subst J;rw[df,U];rfl;rw[cr _ _ J,m _ (by omega) (by omega)];exact h.f l i;rw[m _ (by omega) (by omega)];exact h.k _ h0 Y;rw[m 0 (by omega) (by omega)]at M;have⟨m1,m2⟩:=h.m l X K e M;exact⟨B.f _ _ _ _ _ m1 (L 0),m2⟩;refine J4 A (by rw[v];rfl) ?_ rfl
 grind[bm.c,bJ.b]
theorem aP.H(c:T.g)(h:aP T S n N0 n0 w0 ms ws fs p ρ q wk gs t w)(f:j<3)(a:ws j= .lN)(v:gs[n+j]?=some g)(I:dk t (n+j)=0)(C:T.D (p (n+j)) g w)(d)(o):dO T S n N0 n0 w0 (n+j) d o gs t w (bW T.d.length ms ws fs):=by
 have⟨K,g',L,B,k,J⟩:=c.R _ g w C;have m:=h.a.d;have y:=rO h j;have H:((n+j)==0)=false:=by grind
 have s:bE n (b2 ws j .ln) fs=bE n ws fs:=mJ (λ l _=>sj (by rw[a];rfl) l) rfl;have A:eg (n+j) g.frame.fn g.frame.place #[]= #[]:=oM rfl _ _ _;have r:Ab T n N0 w0 ms (b2 ws j .ln) fs p (t++eg (n+j) g.frame.fn g.frame.place #[]) (w.at d):=h.a.A c d (m.m f (by grind) (by simp) (λ e=>absurd e (by simp)) (λ _ _ _ e=>absurd e (by simp)) (λ _=>m.b j (by rw[a];rfl)) (by rw[a];rfl)) (sY h.a.o (by rw[a];rfl) rfl (oG (by rw[a];rfl))) rfl rfl (λ i u=>by simp_all) (λ l x own N e=>by by_cases b:l=j;grind[df];rw[cr ws _ b]at e;exact h.a.g l x _ _ e) (λ op z=>by grind) (λ op z x M=>by grind) rfl bl;have⟨G,ops,E,F⟩:=h.E c v d o (by grind) (ws':=b2 ws j .ln) (fs':=fs) (ms':=ms) (p':=p) (w':=w.at d) (by rw[s,A,Array.append_empty];exact(h.c.c d).k) (λ _ _=>rfl) (.cF T.J T.F) k rfl (λ _ _ _ _=>rfl) (λ _ _ x=>x) ⟨rfl,rfl,rfl⟩ r ⟨.inl B,by grind[gb,dk]⟩ (λ _ _ e=>by cases e) (λ l b u=>by simp_all) rfl (.inr (by omega)) (λ _=>rfl) (λ e=>absurd e y) (λ l b=>cr ws _ (by omega)) (λ l _ b=>by
  obtain rfl:l=j:=by omega
  rw[df];rfl) (λ _=>rfl) (λ e=>by omega);exact⟨_,_,_,_,_,_,_,_,_,_,E,F,rb f (by rw[a];rfl) (by grind[bm.c])⟩
variable{i:Nat}{J:World->Prop}
theorem aP.who(h:aP T S n N0 n0 w0 ms ws fs p ρ q wk gs t w)(b:gs[i]?=some g):i=0\/(0<i/\i<n)\/(∃j,j<3/\i=n+j/\ws j≠ .fD)\/(i=n+3/\fs≠ .cg):=by
 have f:i<n+ms.a:=h.e▸(ew.1 b).1;have d:ms.a<=4:=by cases ms<;>simp[bD.a]<;>omega
 rcases rm i with e|l
 omega;rcases hz i n with c|c;omega;obtain⟨j,rfl⟩:∃j,i=n+j:= ⟨i- n,by omega⟩;rcases hz j 3 with a|a;exact .inr (.inr (.inl ⟨j,a,rfl,λ e=>by have:=(h.a.d.d j a).1 e;omega⟩));obtain rfl:j=3:=by omega
 exact .inr (.inr (.inr ⟨rfl,λ e=>by have:=h.a.d.a.1 e;omega⟩))
inductive Xq{P:ee}(T:dY P)(S:Nat->Prop)(n N0 n0:Nat)(w0:dr)(i d:Nat)(b:Option (Nat×Nat))(ms:bD)(ws:Nat->bm)(fs:bJ)(ρ:Nat->dm)(q wk:Nat->Nat)(gs:Array ei)(t:hD)(w:dr):Prop where|A5 (h:dO T S n N0 n0 w0 i d b gs t w (bW T.d.length ms ws fs))|KN (Stop:ai->ei->dr->Prop) (f:dr->dI) (w1:dr) (a:Array ei) (w':dr) (ops:Array p1) (p':Nat->ai) (e:ρ i= .cC Stop (.mk f)) (c:hN P (eV gs (w.at d) b) i=(.next (eV a w' b),ops)) (h:aP T S n N0 n0 w0 ms ws fs p' (b2 ρ i (.cC Stop (f w1))) q (λ _=>1) a (t++ops) w')|Mj (J:dr->Prop) (Stop:Nat->ei->Prop) (k:Nat) (a:Array ei) (ops:Array p1) (p':Nat->ai) (e:ρ i= .cF J Stop) (m:q i=k+1) (c:hN P (eV gs (w.at d) b) i=(.next (eV a (w.at d) b),ops)) (h:aP T S n N0 n0 w0 ms ws fs p' ρ (b2 q i k) (λ _=>1) a (t++ops) (w.at d))|On (g:ei) (a:Array ei) (ops:Array p1) (p':Nat->ai) (e:∃j,ρ i= .kD j) (l:wk i=1) (c:hN P (eV gs (w.at d) b) i=(.next (eV a (w.at d) b),ops)) (h:aP T S n N0 n0 w0 ms ws fs p' (b2 ρ i (.kD g)) q (b2 wk i 0) a (t++ops) (w.at d))
theorem aP.N(s:T.g)(h:aP T S n N0 n0 w0 ms ws fs p ρ q wk gs t w){i g}(f:gs[i]?=some g){Stop r}(B:ρ i= .cC Stop r)(u:g.status= .running/\dk t i=0)(m:Stop (p i) g w) (J:∀l,ms= .eF l->i=0->¬T.l l (p 0) g w) (d) (o):dO T S n N0 n0 w0 i d o gs t w (bW T.d.length ms ws fs):=by
 rcases h.who f with e| ⟨h0,I⟩| ⟨j,y,e,E⟩| ⟨e,E⟩;subst e;have z:=h.r;rw[B]at z;cases ms with
  |eD l=>
   have⟨r',e⟩:=z;cases e;by_cases G:fs= .dD;subst G;exact h.ajU s f u m d o
   by_cases hp:∃j x own A,ws j= .eh x own A;have⟨j,x,own,A,hp⟩:=hp;have y:j<3:=n3 λ D=>by rw[h.a.d.c j D]at hp;cases hp
   exact h.ajP s f u m y hp d o;exact h.ajQ s f u m ⟨λ j x own A e=>hp ⟨j,x,own,A,e⟩,G⟩ d o|eF l=>have⟨r',e⟩:=z;cases e;exact absurd m (J l rfl rfl)|dH l=>have⟨C,K,e⟩:=z;cases e|iN j=>cases z.2|go j=>cases z.2|lI=>cases z|mW=>cases z
 have:=h.k i h0 I;rw[B]at this;cases this;subst e;have a:=h.f j y;rw[B]at a;cases b:ws j with
 |eC=>rw[b]at a;have⟨r',e⟩:=a;cases e;cases H:fs.c with|true=>exact h.O s y b f u m H d o|false=>
   by_cases hp:∃k,fs= .ff k;obtain⟨k,rfl⟩:=hp;exact h.Q s y b f u m d o;exact h.R s y b f u m ⟨λ k e=>hp ⟨k,e⟩,H⟩ d o
 |iz x=>rw[b]at a;have⟨_,r',e⟩:=a;cases e;by_cases hp:∃l,ms= .dH l;obtain⟨l,rfl⟩:=hp;exact h.Y s y b f u m d o;exact h.ajV s y b f u m (λ l e=>hp ⟨l,e⟩) d o|fD=>exact absurd b E|eA=>rw[b]at a;have⟨C,e⟩:=a;cases e|eh x own A=>rw[b]at a;have⟨_,C,e⟩:=a;cases e|lN=>rw[b]at a;have⟨r',e⟩:=a;cases e;exact h.H s y b f u.2 m d o|ln=>rw[b]at a;cases a|lF=>rw[b]at a;cases a|dg=>rw[b]at a;cases a|dA=>rw[b]at a;cases a|dt=>rw[b]at a;cases a|cd=>rw[b]at a;cases a
 subst e;have v:=h.u;rw[B]at v;cases fs with
 |dF k=>have⟨_,r',e⟩:=v;cases e;cases F:T.d[k]? with|none=>exact h.ajT s f u m F d o|some x=>
   by_cases hp:∃j,ws j= .eA;have⟨j,hp⟩:=hp;have y:j<3:=n3 λ D=>by rw[h.a.d.c j D]at hp;cases hp
   exact h.W s f u m F y hp d o;exact h.ajN s f u m F (λ j e=>hp ⟨j,e⟩) d o
 |fG=>have⟨r',e⟩:=v;cases e;exact h.J s f u m d o|cg=>exact absurd rfl E|ff k=>have⟨C,x,K,_,e,_⟩:=v;cases e|dZ=>have⟨L,e,_⟩:=v;cases e|ir=>cases v|lD c=>cases v|iH=>cases v|eE=>cases v|kI=>cases v|jC=>cases v|dD=>cases v
theorem aP.X(s:T.g)(h:aP T S n N0 n0 w0 ms ws fs p ρ q wk gs t w){i g}(m:gs[i]?=some g){J Stop}(z:ρ i= .cF J Stop)(D:g.status= .running)(b:Stop (dk t i) g)(d)(o):dO T S n N0 n0 w0 i d o gs t w (bW T.d.length ms ws fs):=by
 have fin:gM (dk t i) g->False:=λ e=>by rw[e.1]at D;cases D
 rcases h.who m with e| ⟨h0,E⟩| ⟨j,y,e,B⟩| ⟨e,B⟩;subst e;have v:=h.r;rw[z]at v;cases ms with|iN j=>have⟨_,e⟩:=v;cases e;exact h.ajY s m b d o|lI=>cases v;exact h.U s m b d o|go j=>have⟨_,e⟩:=v;cases e;exact h.aj8 s m b d o|mW=>cases v;exact h.aj5 s m b d o|eD l=>have⟨r,e⟩:=v;cases e|eF l=>have⟨r,e⟩:=v;cases e|dH l=>have⟨A,K,e⟩:=v;cases e
 have:=h.k i h0 E;rw[z]at this;cases this;exact(fin b).elim;subst e;have a:=h.f j y;rw[z]at a;cases f:ws j with
 |ln=>rw[f]at a;cases a;exact h.aj0 s y f m b d o|lF=>rw[f]at a;cases a;exact h.aj6 s y f m b d o|dg=>rw[f]at a;cases a;exact h.ajW s y f m b d o|dA=>rw[f]at a;cases a;exact h.L s y f m b d o|dt=>rw[f]at a;cases a;by_cases C:fs= .dZ;subst C;exact h.akc s y f m b d o;exact h.aj3 s y f C m b d o|cd=>rw[f]at a;cases a;exact(fin b).elim|fD=>exact absurd f B|eC=>rw[f]at a;have⟨r,e⟩:=a;cases e|lN=>rw[f]at a;have⟨r,e⟩:=a;cases e|iz x=>rw[f]at a;have⟨_,r,e⟩:=a;cases e|eA=>rw[f]at a;have⟨A,e⟩:=a;cases e|eh x own F=>rw[f]at a;have⟨_,A,e⟩:=a;cases e
 subst e;have u:=h.u;rw[z]at u;cases fs with|ir=>cases u;exact h.V s m b d o|lD c=>cases u;exact h.ajZ s m b d o|iH=>cases u;exact h.ajR s m b d o|eE=>cases u;exact h.aj2 s m b d o|kI=>cases u;exact h.M s m b d o|jC=>cases u;exact h.aj4 s m b d o|dD=>cases u;exact(fin b).elim|cg=>exact absurd rfl B|dF k=>have⟨_,r,e⟩:=u;cases e|fG=>have⟨r,e⟩:=u;cases e|ff k=>have⟨A,x,K,_,e,_⟩:=u;cases e|dZ=>have⟨G,e,_⟩:=u;cases e
theorem acn(h:ib T ms ws fs w):T.J w:=by cases fs with|iH=>rcases h with⟨k,_⟩| ⟨_,j,_,_,⟨k,_⟩| ⟨k,_⟩| ⟨k,_⟩⟩<;>exact⟨_,_,k⟩|eE=>rcases h with⟨k,_⟩| ⟨_,j,_,_,⟨k,_⟩| ⟨k,_⟩| ⟨k,_⟩⟩<;>exact⟨_,_,k⟩|dZ=>rcases h with⟨k,_⟩| ⟨_,j,_,_,⟨k,_⟩| ⟨k,_⟩⟩<;>exact⟨_,_,k⟩|_=>exact⟨_,_,h.1⟩
theorem aP.akb(h:aP T S n N0 n0 w0 ms ws fs p ρ q wk gs t w){i g}(z:gs[i]?=some g){J Stop}(s:ρ i= .cF J Stop)(d):J (w.at d):=by
 have b:T.J (w.at d):=acn (w:=w.at d) h.a.o;rcases h.who z with e| ⟨h0,y⟩| ⟨j,A,e,v⟩| ⟨e,v⟩;subst e;have o:=h.r;rw[s]at o;cases ms with|iN j=>have⟨_,e⟩:=o;cases e;exact b|lI=>cases o;exact b|go j=>have⟨_,e⟩:=o;cases e;exact b|mW=>cases o;exact b|eD l=>have⟨r,e⟩:=o;cases e|eF l=>have⟨r,e⟩:=o;cases e|dH l=>have⟨u,K,e⟩:=o;cases e
 have:=h.k i h0 y;rw[s]at this;cases this;exact trivial;subst e;have a:=h.f j A;rw[s]at a;cases m:ws j with|ln=>rw[m]at a;cases a;exact b|lF=>rw[m]at a;cases a;exact b|dg=>rw[m]at a;cases a;exact b|dA=>rw[m]at a;cases a;exact b|dt=>rw[m]at a;cases a;exact b|cd=>rw[m]at a;cases a;exact trivial|fD=>exact absurd m v|eC=>rw[m]at a;have⟨r,e⟩:=a;cases e|lN=>rw[m]at a;have⟨r,e⟩:=a;cases e|iz x=>rw[m]at a;have⟨_,r,e⟩:=a;cases e|eA=>rw[m]at a;have⟨u,e⟩:=a;cases e|eh x own B=>rw[m]at a;have⟨_,u,e⟩:=a;cases e
 subst e;have f:=h.u;rw[s]at f;cases fs with|ir=>cases f;exact b|lD c=>cases f;exact b|iH=>cases f;exact b|eE=>cases f;exact b|kI=>cases f;exact b|jC=>cases f;exact b|dD=>cases f;exact trivial|cg=>exact absurd rfl v|dF k=>have⟨_,r,e⟩:=f;cases e|fG=>have⟨r,e⟩:=f;cases e|ff k=>have⟨u,x,K,_,e,_⟩:=f;cases e|dZ=>have⟨C,e,_⟩:=f;cases e
theorem aP.aka(A:T.g)(h:aP T S n N0 n0 w0 ms ws fs p ρ q wk gs t w){i g}(u:gs[i]?=some g)(y:g.status= .running)(H:∀l,ms= .eF l->i=0->¬T.l l (p 0) g w)(d)(z):Xq T S n N0 n0 w0 i d z ms ws fs ρ q wk gs t w:=by have o:=h.c.a i g u;cases m:ρ i with
 |cC Stop r=>rw[m]at o;cases r with
  |eM=>exact .A5 (h.N A u m o.1 (o.2 w (.c _ _)) H d z)|mk f=>
   obtain b| ⟨_,b⟩:=o.2
   exact .A5 (h.N A u m o.1 (b w (.c _ _)) H d z);have⟨C,w',ops,p',B,D⟩:=h.ajX A u m y d z b;exact .KN Stop f _ C w' ops p' m B D
 |cF J Stop=>rw[m]at o;cases F:q i with
  |zero=>rw[F]at o;exact .A5 (h.X A u m y o.2 d z)|succ k=>
   rw[F]at o;obtain b| ⟨_,g',es,v,b,L,Q⟩:=o.2
   exact .A5 (h.X A u m y b d z);have⟨C,ops,B,D⟩:=h.aj1 A u m F y d z v b (h.akb u m d) L Q;exact .Mj J Stop k C ops _ m F B D
 |ic E R W=>rw[m]at o;rw[o.1.1]at y;cases y|kD I=>
  rw[m]at o;have N:i=n+3/\fs= .dZ/\T.m 1 I:=by
   rcases h.who u with e| ⟨h0,B⟩| ⟨j,O,e,G⟩| ⟨e,G⟩
   subst e;have v:=h.r;rw[m]at v;cases ms with
   |iN j=>cases v.2
   |go j=>cases v.2
   |lI=>cases v
   |mW=>cases v
   |eD l=>have⟨r,e⟩:=v;cases e
   |eF l=>have⟨r,e⟩:=v;cases e
   |dH l=>have⟨E,K,e⟩:=v;cases e
   have:=h.k i h0 B;rw[m]at this;cases this;subst e;have a:=h.f j O;rw[m]at a;cases b:ws j with
   |fD=>exact absurd b G
   |eC=>rw[b]at a;have⟨r,e⟩:=a;cases e
   |lN=>rw[b]at a;have⟨r,e⟩:=a;cases e
   |iz x=>rw[b]at a;have⟨_,r,e⟩:=a;cases e
   |eA=>rw[b]at a;have⟨E,e⟩:=a;cases e
   |eh x own U=>rw[b]at a;have⟨_,E,e⟩:=a;cases e
   |ln=>rw[b]at a;cases a
   |lF=>rw[b]at a;cases a
   |dg=>rw[b]at a;cases a
   |dA=>rw[b]at a;cases a
   |dt=>rw[b]at a;cases a
   |cd=>rw[b]at a;cases a
   subst e;have s:=h.u;rw[m]at s;cases fs with
   |dZ=>have⟨V,e,hp⟩:=s;cases e;exact⟨rfl,rfl,hp⟩
   |cg=>exact absurd rfl G
   |dF k=>have⟨_,r,e⟩:=s;cases e
   |fG=>have⟨r,e⟩:=s;cases e
   |ff k=>have⟨E,x,K,_,e,_⟩:=s;cases e
   |ir=>cases s
   |lD c=>cases s
   |iH=>cases s
   |eE=>cases s
   |kI=>cases s
   |jC=>cases s
   |dD=>cases s
  obtain⟨rfl,rfl,hp⟩:=N;have M:g=I/\wk (n+3)=1:=o.2.2.resolve_left λ e=>by rw[e]at y;cases y
  have⟨rfl,P⟩:=M;have⟨C,B,D⟩:=h.Z A u (by rw[o.1.2];exact hp) d z;exact .On g C _ _ ⟨_,m⟩ P B D
end
def Fa(m:Nat)(a b:Nat->dI):=∃i,i<m/\dI.a (a i) (b i)/\∀j,j≠i->a j=b j
theorem L5:∀m R,Acc (Fa m) R
 |0,R=> ⟨_,λ _⟨i,a,_⟩=>by omega⟩|m+1,R=>by
  generalize d:R m=r
  induction r using dI.b.induction generalizing R with|_ r f=>
   have inner:Acc (Fa m) R:=L5 m R
   induction inner with|intro R _ inner=>constructor;rintro c⟨i,a,b,heq⟩;by_cases e:i=m;grind;exact inner _ ⟨i,by omega,b,heq⟩ (by grind)
section
variable{P:Program}{T:dY P}{S:Nat->Prop}{n N0 n0:Nat}{w0:World}{ms ms':bD}{ws ws':Nat->bm}{fs fs':bJ}{p p':Nat->ai}{ρ ρ':Nat->dm}{q wk q':Nat->Nat}{gs:Array Goroutine}{t u:Trace}{w w':World}
theorem kN{Y i d k b pp g J Stop}(h:eJ P Y i d pp b k g w (.cF J Stop))(a:∀d g,Stop d g->g.status= .running):g.status= .running:=by have⟨_,h⟩:=h;cases b with|zero=>exact a d g h|succ n=>exact h.elim (a d g) And.left
theorem aP.akd(m:T.g)(h:aP T S n N0 n0 w0 ms ws fs p ρ q wk gs t w):∃(i:Nat)(g:ei),gs[i]?=some g/\g.status= .running:=by have O:=h.a.e;have B:=h.a.d;have⟨z,A⟩:=h.y (l:=0) (by omega);have o:=h.c.a 0 z A;have C:=h.r;cases ms with|iN j=>have⟨_,e⟩:=C;rw[e]at o;exact⟨0,z,A,kN o λ d g x=>(m.M _ d g x).2.1⟩|lI=>rw[show ρ 0=_ from C]at o;exact⟨0,z,A,kN o λ d g x=>(m.A d g x).2.1⟩|go j=>have⟨_,e⟩:=C;rw[e]at o;exact⟨0,z,A,kN o λ d g x=>(m.Q _ d g x).2.1⟩|mW=>rw[show ρ 0=_ from C]at o;exact⟨0,z,A,kN o λ d g x=>(m.K d g x).2.1⟩|eD l=>have⟨r,e⟩:=C;rw[e]at o;exact⟨0,z,A,o.1.1⟩|eF l=>have⟨r,e⟩:=C;rw[e]at o;exact⟨0,z,A,o.1.1⟩|dH l=>
 have J:fs≠ .cg:=λ e=>by have:=B.a.1 e;simp[bD.a]at this
 have G:∀j,j<3->ws j≠ .fD:=λ j u e=>by have:=(B.d j u).1 e;simp[bD.a]at this;omega
 have⟨H,v⟩:=h.ajO J;have b:=h.c.a _ H v;have y:=h.u;have D:∀j,j<3->(∀l,ws j≠ .eA)->ws j≠ .cd->∃(i:Nat)(g:ei),gs[i]?=some g/\g.status= .running:=λ j u hp N=>by have⟨g,E⟩:=h.D u (G j u);have a:=h.c.a _ g E;have f:=h.f j u;refine⟨n+j,g,E,?_⟩;cases s:ws j with
  |fD=>exact absurd s (G j u)|eC=>rw[s]at f;have⟨r,e⟩:=f;rw[e]at a;exact a.1.1|lN=>rw[s]at f;have⟨r,e⟩:=f;rw[e]at a;exact a.1.1|iz x=>rw[s]at f;have⟨_,r,e⟩:=f;rw[e]at a;exact a.1.1|eA=>exact absurd s (hp 0)|eh x own K=>exact absurd s (B.h l j x own K rfl)|ln=>rw[s]at f;rw[show ρ (n+j)=_ from f]at a;exact kN a λ d g x=>(m.L d g x).2.1|lF=>rw[s]at f;rw[show ρ (n+j)=_ from f]at a;exact kN a λ d g x=>(m.H d g x).2.1|dg=>rw[s]at f;rw[show ρ (n+j)=_ from f]at a;exact kN a λ d g x=>(m.B d g x).2.1|dA=>rw[s]at f;rw[show ρ (n+j)=_ from f]at a;exact kN a λ d g x=>(m.t d g x).2.1|dt=>rw[s]at f;rw[show ρ (n+j)=_ from f]at a;exact kN a λ d g x=>(m.y d g x).2.1|cd=>trivial
 cases fs with
 |cg=>trivial|dF k=>have⟨_,r,e⟩:=y;rw[e]at b;exact⟨_,_,v,b.1.1⟩|fG=>have⟨r,e⟩:=y;rw[e]at b;exact⟨_,_,v,b.1.1⟩|dD=>exact absurd rfl (B.n l rfl)|ir=>rw[show ρ (n+3)=_ from y]at b;exact⟨_,_,v,kN b λ d g x=>(m.E d g x).2.1⟩|lD c=>rw[show ρ (n+3)=_ from y]at b;exact⟨_,_,v,kN b λ d g x=>(m.N c d g x).2.1⟩|iH=>rw[show ρ (n+3)=_ from y]at b;exact⟨_,_,v,kN b λ d g x=>(m.z d g x).2.1⟩|eE=>rw[show ρ (n+3)=_ from y]at b;exact⟨_,_,v,kN b λ d g x=>(m.u d g x).2.1⟩|kI=>rw[show ρ (n+3)=_ from y]at b;exact⟨_,_,v,kN b λ d g x=>(m.q d g x).2.1⟩|jC=>rw[show ρ (n+3)=_ from y]at b;exact⟨_,_,v,kN b λ d g x=>(m.I d g x).2.1⟩|ff k=>refine D 0 (by omega) (λ _=>B.g k 0 rfl) λ e=>?_;have:=B.b 0 (by rw[e];rfl);trivial|dZ=>
  have F:∀j,ws j≠ .eA:=B.f rfl;obtain⟨_,M,P⟩| ⟨_,j,u,_,L⟩:=h.a.o
  have:∃j,j<3/\(ws j).b=false:=by
   grind[absurd,bz,bD.c]
  obtain⟨j,u,I⟩:=this;exact D j u (λ _=>F j) λ e=>by rw[e]at I;trivial
  refine D j u (λ _=>F j) λ e=>?_
  grind
def qk(T:dY P)(S:Nat->Prop)(n N0 n0:Nat)(w0:dr)(gs:Array ei)(w:dr)(sl:Option (Nat×Nat))(t:hD):=∃N a w' c t' l ws' fs' p' ρ' q' wk' b,runNT P N (eV gs w sl) t=(.next (eV a w' c),t')/\aP T S n N0 n0 w0 (.eF l) ws' fs' p' ρ' q' wk' a t' w'/\a[0]?=some b/\T.l l (p' 0) b w'
theorem qk.a{a w1 sl b}{ops:hD}(h:stepT P (eV gs w sl)=(.next (eV a w1 b),ops))(d:qk T S n N0 n0 w0 a w1 b (t++ops)):qk T S n N0 n0 w0 gs w sl t:=have⟨N,g,w',e,t',l,ws',fs',p',ρ',q',wk',f,i,c⟩:=d;⟨N+1,_,_,e,_,l,_,_,_,_,_,_,_,by grind[runNT],c⟩
theorem Rw{ρ i j}{r:dm}(h:j≠i):(b2 ρ i r j).a=(ρ j).a:=by rw[cr _ r h]
theorem aP.run(A:T.g):∀F ms ws fs p ρ q wk gs t w sl,bW T.d.length ms ws fs=F->aP T S n N0 n0 w0 ms ws fs p ρ q wk gs t w->qk T S n N0 n0 w0 gs w sl t:=by
 intro F
 induction F using o2 with|_ F N=>
  have W:∀{ms:bD}{ws:Nat->bm}{fs:bJ}{gs:Array ei}{t:hD}{w:dr}{sl c:Option (Nat×Nat)}{i d:Nat},bW T.d.length ms ws fs=F->stepT P (eV gs w sl)=hN P (eV gs (w.at d) c) i->dO T S n N0 n0 w0 i d c gs t w (bW T.d.length ms ws fs)->qk T S n N0 n0 w0 gs w sl t:=λ a o⟨b,w',ops,ms',ws',fs',p',ρ',q',wk',D,E,G⟩=>qk.a (o.trans D) (N _ (a▸G) ms' ws' fs' p' ρ' q' wk' b _ w' _ rfl E);intro ms ws fs;have main:∀R,Acc (Fa (n+ms.a)) R->∀Q K p ρ q wk gs t w sl,(∀i,(ρ i).a=R i)->hL (n+ms.a) q=Q->hL (n+ms.a) wk=K->bW T.d.length ms ws fs=F->aP T S n N0 n0 w0 ms ws fs p ρ q wk gs t w->qk T S n N0 n0 w0 gs w sl t:=by
   intro R e
   induction e with|intro R _ V=>
    intro Q
    induction Q using o2 with|_ Q U=>
     intro K
     induction K using o2 with|_ K O=>
      intro p ρ q wk gs t w sl e H X a h;have⟨i,g,d,c,y,I,o⟩:=h.c.s (h.akd A) sl;have z:i<n+ms.a:=h.e▸(ew.1 y).1;by_cases B:∃l x,ms= .eF l/\gs[0]?=some x/\T.l l (p 0) x w;obtain⟨l,x,s,u,v⟩:=B;exact⟨0,_,w,_,t,l,_,_,p,_,q,_,_,rfl,s▸h,u,v⟩;cases h.aka A y I (λ l s u v=>B ⟨l,g,s,u▸y,v⟩) d c with
      |A5 aa=>grind
      |KN Stop f w1 b w' ops p' r m hp=>
       refine qk.a (o.trans m) (V (λ j=>(b2 ρ i (.cC Stop (f w1)) j).a) ⟨i,z,?_,λ j C=>?_⟩ _ _ p' _ q (λ _=>1) b _ w' c (λ _=>rfl) rfl rfl a hp);simp only[df];rw[<-e i,r];exact .mk f _
       grind[Rw]
      |Mj J Stop k b ops p' r Z m hp=>
       refine qk.a (o.trans m) (U _ ?_ _ _ _ _ _ _ _ _ _ e rfl rfl a hp);have:hL (n+ms.a) (b2 q i k)+ (k+1)=hL (n+ms.a) q+k:=by
        have:=sumTo_upd q k id z;simp_all
       omega
      |On g' b ops p' r Y m hp=>
       obtain⟨ab,M⟩:=r;refine qk.a (o.trans m) (O (hL (n+ms.a) (b2 wk i 0)) ?_ p' _ q (b2 wk i 0) b _ _ c (λ j=>?_) H rfl a hp);have:hL (n+ms.a) (b2 wk i 0)+1=hL (n+ms.a) wk:=by
        have:=sumTo_upd wk 0 id z;simp_all
       omega;by_cases C:j=i;subst C;rw[df,<-e j,M];rfl
       grind[Rw]
  intro p ρ q wk gs t w sl a h;exact main _ (L5 _ _) _ _ p _ q _ _ t w _ (λ _=>rfl) rfl rfl a h
variable{g:Goroutine}{p0:ai}
theorem ag9{k d}(h:QuitsD P k d g):g.status= .running\/g.status= .finished:=h.status
structure Cx(T:dY P)(S:Nat->Prop)(w0:dr)(p0:ai)(gs:Array ei)(q:Nat->Nat)(t:hD)(w:dr):Prop where
 y:∃g,gs[0]?=some g/\bM P true T.J 0 g (T.n 0)
 r:Leavers P t gs q
 h:Past (eG S) w.heap.size t
 f:gI w0.heap.size p0 t
 p:∀b,p0.b b->p0.a b
 m:∀b,p0.a b->b<w.heap.size/\¬S b
 l:∀b,S b->b<w.heap.size
 d:w0.heap.size<=T.a/\w0.heap.size<=T.c/\w0.heap.size<=T.b
 c:¬p0.a T.a/\¬p0.a T.c/\¬p0.a T.b
 i:T.c≠T.b/\T.a≠T.c/\T.a≠T.b
 s:∀a,T.z a->p0.a a
 z:∀a,p0.b a->T.z a\/w0.heap.size<=a
 u:ba T.a w 0 0
 k:w.heap[T.c]?=some (.chan 0 #[] false 0 0 false)
 j:w.heap[T.b]?=some (.chan 0 #[] false 0 0 false)
 o:T.h w
 e:mq w0 w
theorem Cx.x(h:Cx T S w0 p0 gs q t w):∃(p:Nat->ai)(ρ:Nat->dm)(q' O:Nat->Nat),aP T (λ b=>S b\/b=T.a) gs.size w0.heap.size t.size w0 (.iN 0) (λ _=> .fD) .cg p ρ q' O gs t w:=by
 obtain⟨g,z,C,k,E⟩:=h.y
 let s:ai:= ⟨p0.a,λ b=>p0.b b/\¬T.z b⟩
 let p:Nat->ai:=λ i=>if i=0 then s else⟨λ _=>False,λ _=>False⟩
 have v:bE gs.size (λ _=>bm.fD) bJ.cg=λ i=>i=0:=by
  funext i;apply propext;constructor
  ·rintro(e| ⟨_,_,_,e⟩| ⟨_,e⟩)
   all_goals trivial
  ·exact .inl
 have L:∀i,¬(p i).a T.a/\¬(p i).a T.c/\¬(p i).a T.b:=λ i=>by
  by_cases c:i=0
  subst c;exact h.c
  grind
 have lt:∀{a:Nat}{o:Obj},w.heap[a]?=some o->a<w.heap.size:=λ e=>(ew.1 e).1;obtain⟨ty,u⟩:=h.u;have k1:bP (λ b=>S b\/b=T.a) (λ b=>b=T.a\/b=T.c\/b=T.b) t.size (λ i=>i=0) (λ _=>False) p t w:=by
  refine bP.I (bP.J h.h s (λ b f=>h.p b f.1) h.m h.l) (λ b f=> .inr ?_) (λ b f=> .inl f) (λ b(f:S b\/b=T.a)=>f.imp id λ(e:b=T.a)=> ⟨by grind,λ i=>by simp_all⟩);rcases f with rfl|rfl|rfl
  exact⟨lt u,λ i=>(L i).1,h.f.d _ h.d.1 h.c.1⟩;exact⟨lt h.k,by simp_all,h.f.d _ h.d.2.1 h.c.2.1⟩;exact⟨lt h.j,by simp_all,h.f.d _ h.d.2.2 h.c.2.2⟩
 have J:bP (λ b=>S b\/b=T.a) (λ b=>b=T.a\/b=T.c\/b=T.b) t.size (bE gs.size (λ _=>bm.fD) bJ.cg) (de T (.iN 0) .cg) p t w:=by
  rw[v];exact k1.G (i:=0) rfl (by grind)
 let ρ:Nat->dm:=λ i=>if i=0 then .cF T.J (T.n 0)else .cF JT gM
 have P:ρ 0= .cF T.J (T.n 0):=if_pos rfl;have B:∀i,i≠0->ρ i= .cF JT gM:=λ i c=>if_neg c
 let q':Nat->Nat:=λ i=>if i=0 then k else q i
 have N:q' 0=k:=if_pos rfl;have M:∀i,i≠0->q' i=q i:=λ i c=>if_neg c;refine⟨p,ρ,q',λ _=>1,⟨J,λ i x m=>?_,h.r.above,λ i Q r e=>?_⟩,?_,by rfl,.inr rfl,by trivial,λ j D=>trivial,trivial,λ i h0 _=>B i (by omega),λ l R K e=>by cases e⟩
 by_cases c:i=0;subst c;rw[z]at m;cases m;rw[P,N,h.h.hears];exact⟨.inl C,E⟩;have I:=h.r.old i x (by omega) m;rw[B i c,M i c];have f:(i==0)=false:=by grind
 refine⟨ag9 I,?_⟩
 grind[PT]
 grind
 refine⟨(ew.1 z).1,λ i d=>?_,h.o,h.i,?_,?_,⟨0,h.k⟩,⟨0,h.j⟩,λ j x own V e=>(by cases e),λ op G=>h.f.f (bg T.a) h.d.1 op G,λ k x m U F=>?_,h.e.d,λ i a d=>?_,h.d,λ a d=>?_,⟨h.e.f,h.e.c,h.e.e,h.e.b,rfl⟩⟩;rw[v]at d;have d:i=0:=d;subst d;exact λ a A=> ⟨h.s a A,λ y=>y.2 A⟩;exact⟨by grind,by grind,by grind,by grind,λ _ e=>(by cases e),λ j D=>(by simp[bD.a]),(by simp[bD.a]),λ _ _=>rfl,by rfl,by grind⟩;refine⟨?_,λ _=>by simp⟩;have:bz (.iN 0) (λ _=>bm.fD)=0:=rfl;exact⟨_,u⟩;exact absurd (show iX _=some _ by rw[F];rfl) (h.f.d _ h.d.1 h.c.1 k x m);by_cases c:i=0;subst c;exact(h.z a d.1).resolve_left d.2
 grind
 have n:=h.s a d;refine⟨(h.m a n).1,λ e=>?_,λ e=>?_,λ e=>?_⟩;exact h.c.1 (e▸n);exact h.c.2.1 (e▸n);exact h.c.2.2 (e▸n)
structure Jd(T:dY P)(S:Nat->Prop)(w0:dr)(p:ai)(gs:Array ei)(q:Nat->Nat)(t:hD)(w:dr)(l:List ea)(g:ei):Prop where
 o:gs[0]?=some g
 i:T.l l p g w
 f:T.d.Perm l
 m:Leavers P t gs q
 d:Past (eG S) w.heap.size t
 e:∀b,p.a b->b<w.heap.size/\¬S b
 h:∀b,S b->b<w.heap.size
 j:∀a,p.b a->w0.heap.size<=a
 r:∀a,p.b a->p.a a
 s:T.p p
 k:T.h w
 c:mq w0 w
theorem aP.ake{l:List ea}{m:Nat->bm}{fs:bJ}{p:Nat->ai}{ρ:Nat->dm}{F:Nat->Nat}(h:aP T S n N0 n0 w0 (.eF l) m fs p ρ q F gs t w)(s:gs[0]?=some g)(C:T.l l (p 0) g w):Jd T S w0 (p 0) gs q t w l g:=by
 have z:=h.a.d;have D:fs= .dD:=z.i l rfl;subst D;obtain⟨J,o⟩:ba T.a w 0 0/\∀l,l<3->m l= .cd:=h.a.o;have k:=h.a.m.2.2.2.2;have B:∀i,bE n m .dD i->i=0:=λ i c=>by
  rcases c with e| ⟨j,f,_,e⟩| ⟨_,e⟩
  exact e;rw[o j f]at e;cases e
  trivial
 have v:=h.c.a 0 g s;obtain⟨r,E⟩:=h.r;rw[E]at v;refine⟨s,C,?_,⟨λ i x G y=>?_,h.c.e⟩,h.c.k.L B (λ a=>id) v.1.2,λ b d=> ⟨(h.c.k.c 0 b d).1,(h.c.k.c 0 b d).2.1⟩,λ b d=>h.c.k.d b (.inl d),λ a c=>k▸h.a.f 0 a c,h.c.k.e 0,h.a.l 0 (.inl rfl),h.a.y,⟨k▸h.a.m.2.2.2.1,λ a c=>h.a.E a (k▸c),h.a.m.1,h.a.m.2.1,h.a.m.2.2.1⟩⟩
 have:=z.e
 grind[bJ.e,bD.f,bm.a]
 have d:(i==0)=false:=by grind
 have u:=h.c.a i x y;have:ρ i= .cF JT gM:=by
  rcases h.who y with e| ⟨h0,A⟩| ⟨j,f,e,_⟩| ⟨e,_⟩;omega;exact h.k i h0 A;subst e;have:=h.f j f;rw[o j f]at this;trivial;subst e;exact h.u
 rw[this]at u;have I:=u.2
 grind[OP]
theorem dY.I(d:T.g)(h:Cx T S w0 p0 gs q t w)(sl):∃N a w' c t' q' p' l g,runNT P N (eV gs w sl) t=(.next (eV a w' c),t')/\Jd T (λ b=>S b\/b=T.a) w0 p' a q' t' w' l g:=have⟨p,ρ,n,o,k⟩:=h.x;have⟨N,a,w',c,t',l,ws',fs',p',ρ',q',wk',m,e,f,i,j⟩:=aP.run d _ _ _ _ _ _ _ _ _ _ _ sl rfl k;⟨N,_,_,_,_,_,_,l,_,e,f.ake i j⟩
end
def vf(P:ee)(main:Bool)(g:ei):Array Event:=
 match ef P main g lT with
 | .go _ _ es=>es
 |_=> #[]
def jo(P:ee)(main:Bool):Nat->ei->dr->List GStep
 |0,_,_=> []
 |k+1,g,w=>ef P main g w::jo P main k (lO P main g) w
def jl(P:ee)(main:Bool):Nat->ei->dr->List GStep
 |0,_,_=> []
 |k+1,g,w=> .go (lO P main g) w (vf P main g)::jl P main k (lO P main g) w
def Jg:GoStatus->Bool| .running=>true|_=>false
def gJ(P:ee)(main:Bool):Nat->ei->Bool
 |0,g=>Jg g.status
 |k+1,g=>Jg g.status&& (vf P main g).toList.all tl&&gJ P main k (lO P main g)
def tI(P:ee)(main:Bool):Nat->Nat->ei->Nat
 |0,d,_=>d
 |k+1,d,g=>tI P main k (gb d (vf P main g)) (lO P main g)
theorem AM{s}(h:Jg s=true):s= .running:=by cases s<;>first|rfl|cases h
theorem qI{P main}:∀{k:Nat}{g:ei},gJ P main k g=true->g.status= .running|0,g,h=>AM h|k+1,g,h=>by grind[gJ,AM]
def gY:kq->kq| .seq a _=>a|c=>c
def bX:kq->kq| .seq _ b=>b|c=>c
def ek:kq->Array fl| .region _ ops _=>ops|_=> #[]
def Af(P:ee)(f:Nat):Code:=((P.funcs[f]?).bind (·.body)).getD .skip
def GG(fn:Nat)(sl:List ea)(todo:List Item)(a:List Deferred)(cs:List fv):Goroutine:=
 {frame:={fn,tmps:= ⟨sl⟩,todo,defers:=a,mode:= .run,kind:= .normal},callers:=cs,status:= .running,dying:=none}
def aK(g:ei)(v:ea):Goroutine:={frame:=g.frame.finish v,callers:=g.callers,status:= .running,dying:=g.dying}
def Ch(P:ee)(main:Bool)(k d d':Nat)(g:ei):=∀w,(jo P main k g w,gJ P main k g,tI P main k d g)=(jl P main k g w,true,d')
def fP(P:ee)(main:Bool)(k d d':Nat)(g g':ei):=∀w,(jo P main k g w,gJ P main k g,tI P main k d g,dR P main k g)=(jl P main k g w,true,d',g')
section
variable{P:Program}{main:Bool}{k d d':Nat}{g g':Goroutine}
theorem Ch.t(h:Ch P main k d d' g)(w):jo P main k g w=jl P main k g w:=congrArg (·.1) (h w)
theorem Ch.m(h:Ch P main k d d' g):gJ P main k g=true:=congrArg (·.2.1) (h lT)
theorem Ch.c(h:Ch P main k d d' g):tI P main k d g=d':=congrArg (·.2.2) (h lT)
theorem fP.c(h:fP P main k d d' g g'):Ch P main k d d' g:=λ w=>congrArg (λ x=>(x.1,x.2.1,x.2.2.1)) (h w)
theorem fP.e(h:fP P main k d d' g g'):dR P main k g=g':=congrArg (·.2.2.2) (h lT)
end
section
variable{J:World->Prop}{f:FuncId}{az:Array Operand}{fn:Func}{e:Array Value->Sem Value}{vs:Array Value}
theorem A6{P:ee}{main:Bool}{Stop:Nat->ei->Prop}:∀{k n d:Nat}{g:ei},(∀w,jo P main k g w=jl P main k g w)->gJ P main k g=true->kE P main J Stop n (tI P main k d g) (dR P main k g)->kE P main J Stop (k+n) d g
 |0,n,d,g,_,_,h=>by rw[Nat.zero_add];exact h
 |k+1,n,d,g,f,a,b=>by
  have c:∀w,ef P main g w= .go (lO P main g) w (vf P main g):=λ w=>by
   simp_all[jo,jl,List.cons.injEq]
  simp only[gJ,Bool.and_eq_true]at a;rw[Nat.add_right_comm];exact .inr ⟨AM a.1.1,_,_,λ e i=>by
   grind,λ w _=>c w,.inl (qI a.2),A6 (λ w=>by
   simp_all[jo,jl,List.cons.injEq]) a.2 b⟩
theorem Uv{P main Stop n d g g'}(a:g.status= .running)(c:∀w,J w->ef P main g w= .go g' w #[])(b:g'.status= .running)(h:kE P main J Stop n d g'):kE P main J Stop (n+1) d g:= .inr ⟨a,_,_,by grind,c,.inl b,by trivial⟩
def oy(g:ei):=match g.frame.todo with| .inRegion ops _::_=>ops|_=> #[]
def hI(g:ei):=match g.frame.todo with| .inRegion _ (i::_)::_=>i|_=>0
def wJ(g:ei):=match g.frame.todo with| .inRegion _ (_::l)::_=>l|_=> []
def hK(g:ei):=match g.frame.todo with|_::k=>k|_=> []
def bj(g:ei):Oper:=((oy g)[hI g]?).getD default
def Sd:Op->Array eo| .call c=>c.args|_=> #[]
def Ia:Op->Array Go.TypeId| .call c=>c.argTypes|_=> #[]
def bY(g:ei):Go.Act:= ⟨g.frame.tmps,g.frame.defers⟩
def It:CallKind->Bool| .early=>false|_=>true
theorem BR{k}(h:It k=true):k≠ .early:=by rintro rfl;cases h
structure dh(g:ei)(o:fl):Prop where
 m:g.frame={fn:=g.frame.fn,tmps:=g.frame.tmps,todo:= .inRegion (oy g) (hI g::wJ g)::hK g,defers:=g.frame.defers,mode:= .run,kind:=g.frame.kind}
 k:(oy g)[hI g]?=some o
 a:oj o (yielded (oy g) g.frame.tmps)=true
 h:It g.frame.kind=true
 i:g.dying=none
section
variable{P:Program}{main:Bool}{g:Goroutine}{o:Oper}{w w':World}{v:Value}
theorem dh.n(h:dh g o):g.frame=g.frame.at (bY g) (.inRegion (oy g) (hI g::wJ g)::hK g):=h.m
theorem dh.c(h:dh g o):ef P main g w=ef P main (G (g.frame.at (bY g) (.inRegion (oy g) (hI g::wJ g)::hK g)) g.callers) w:=nB (h:=G _ _) h.n rfl h.i w
theorem dh.d(h:dh g o)(v):G (g.frame.at ((bY g).put o.dst v) (.inRegion (oy g) (wJ g)::hK g)) g.callers=aK g v:=by
 have a:g.frame.finish v=g.frame.at ((bY g).put o.dst v) (.inRegion (oy g) (wJ g)::hK g):=by
  conv=>lhs;rw[h.n]
  rw[rH,h.k];rfl
 unfold aK G;rw[a,h.i]
theorem dh.b(h:dh g o)(a:(ej (bY g).eval o).run P w= .ok (.value v) w'):ef P main g w= .go (aK g v) w' (listed P g.frame.fn (bY g) o w):=by rw[h.c,stepG_value h.k h.a (BR h.h) a,h.d]
theorem dh.l(h:dh g o){b}(m:o.op= .call {callee:= .value (.func f),args:=az,argTypes:=b})(q:az.map (bY g).eval=vs)(j:P.funcs[f]?=some fn)(l:(fn.name== "runtime.NumGoroutine")=false)(c:fn.body.isNone=true)(k:lb fn=none)(d:ma fn=some e){a}(n:(e vs).run P w= .ok v w')(i:(e vs).events P w #[⟨.mark (.extern f),false,true⟩]= #[⟨.mark (.extern f),false,true⟩]++a)(p:∀x∈a,x.sync=true/\∀g,x.loc≠ .mark (.extern g)):ef P main g w= .go (aK g v) w' a:=by subst q;rw[h.c,stepG_entry h.k h.a (BR h.h) m j l c k d n i p,h.d]
theorem dh.j(h:dh g o)(c:g.status= .running)(b:g.offers=none){d}(n:o.op= .call {callee:= .value (.func f),args:=az,argTypes:=d})(q:az.map (bY g).eval=vs)(k:P.funcs[f]?=some fn)(m:(fn.name== "runtime.NumGoroutine")=false)(i:fn.body.isNone=true)(l:lb fn=none)(j:ma fn=some e)(p:(e vs).run P w= .halt .blocked w'):ef P main g w= .go {g with status:= .blocked} w' #[]:=by
 subst q;rw[h.c,stepG_entry_blocked h.k h.a n k m i l j p,<-h.n]
 congr 1;have⟨r,s,t,u,v⟩:=g;have a:=h.i;subst a c b;rfl
theorem dh.p(h:dh g o){c b t x a u}(j:o.op= .convert c b x)(m:(bY g).eval x= .pointer (some a))(k:P.underlying c=some (.pointer t))(f:P.underlying b=some .unsafePointer)(l:(P.info? t).map (λ i=>decide (i.size=0))=some false)(e:w.cell? a=some u):ef P main g w= .go (aK g (.pointer (some a))) w #[]:=by
 have d:(ej (bY g).eval o).run P w= .ok (.value (.pointer (some a))) w:=by simp_all[ej,qz]
 rw[h.b d];simp_all[listed,ej,events_convert_to_unsafe,qz,Result.evThen,seen_none]
end
variable{P:Program}{main:Bool}{g:Goroutine}{o:Oper}{w w':World}{v:Value}{ats:Array TypeId}{Wg:Nat}{st sm:Int}
variable{ad:Addr}{n:Int}{k:IntKind}
theorem ox(h:ba Wg w st sm):w.cell? (bg Wg)=some (.int .u64 st):=by have⟨ty,e⟩:=h;grind[s4]
theorem Ap(h:ba Wg w st sm):w.cell? (dL Wg)=some (.int .u32 sm):=by have⟨ty,e⟩:=h;grind[s4]
theorem AG(h:ba Wg w st sm):w.frozen? (bg Wg)=false:=by have⟨ty,e⟩:=h;grind[r4]
theorem Md(h:ba Wg w st sm):w.frozen? (dL Wg)=false:=by have⟨ty,e⟩:=h;grind[r4]
structure iP(P:ee)(f:kp)(e:Array ea->Sem ea):Prop where
 a:∃fn,P.funcs[f]?=some fn/\(fn.name== "runtime.NumGoroutine")=false/\fn.body.isNone=true/\lb fn=none/\ma fn=some e
structure cP(g:ei)(f:kp)(vs:Array ea):Prop where
 o:∃o az ats,dh g o/\o.op= .call {callee:= .value (.func f),args:=az,argTypes:=ats}/\az.map (bY g).eval=vs
theorem cP.a(h:cP g f vs)(n:iP P f e){a}(q:(e vs).run P w= .ok v w')(p:(e vs).events P w #[⟨.mark (.extern f),false,true⟩]= #[⟨.mark (.extern f),false,true⟩]++a)(r:∀x∈a,x.sync=true/\∀g,x.loc≠ .mark (.extern g)):ef P main g w= .go (aK g v) w' a:=have⟨o,az,ats,k,l,m⟩:=h.o;have⟨fn,b,c,d,i,j⟩:=n.a;k.l l m b c d i j q p r
theorem cP.p{d x}(h:cP g f #[.pointer (some ad),.int k d])(b:iP P f (vR (pv .add) k true))(a:w.cell? ad=some (.int k x))(c:w.frozen? ad=false):ef P main g w= .go (aK g (.int k (k.wrap (x+d)))) (w.setCell ad (.int k (k.wrap (x+d)))) #[⟨.cell ad,false,true⟩,⟨.cell ad,true,true⟩]:=h.a b (run_add_entry a c) (by grind[events_add_entry]) (sync_rw _)
theorem cP.c{k ad x}(h:cP g f #[.pointer (some ad)])(a:iP P f (xM (.int k)))(b:w.cell? ad=some (.int k x)):ef P main g w= .go (aK g (.int k x)) w #[⟨.cell ad,false,true⟩]:=h.a a (by change Sem.run P (do kV _ (<-hB (.pointer _))) w=_;simp_all[kV,hB]) (by change tm P (do kV _ (<-hB (.pointer _))) w _=_;simp_all[kV,hB,events_load]) (sync_r _)
theorem ah9(ad):∀x∈(#[⟨.cell ad,true,true⟩]:Array Go.Event),x.sync=true/\∀g,x.loc≠ .mark (.extern g):=by simp
theorem cP.m{k:IntKind}{ad:Go.Addr}{y:Int}{u:ea}(h:cP g f #[.pointer (some ad),.int k y])(c:iP P f w6)(a:w.cell? ad=some u)(b:w.frozen? ad=false):
 ef P main g w= .go (aK g (.tuple #[])) (w.setCell ad (.int k y)) #[⟨.cell ad,true,true⟩]:=
 h.a c (by
  change Sem.run P (do
   Go.store (<-hB (.pointer _)) (.int k y) _
   pure _) w=_
  simp[hB,a,b,kg P w ad (.int k y) .atomic rfl,x0]) (by
  change tm P (do
   Go.store (<-hB (.pointer _)) (.int k y) _
   pure _) w _=_
  simp[hB,a,b,pc P w _ ad (.int k y) .atomic rfl]) (ah9 _)
theorem cP.l{x}(h:cP g f #[.pointer (some ad),.int k x,.int k n])(a:iP P f (q3 (.int k)))(b:w.cell? ad=some (.int k x))(c:w.frozen? ad=false):ef P main g w= .go (aK g (.bool true)) (w.setCell ad (.int k n)) #[⟨.cell ad,false,true⟩,⟨.cell ad,true,true⟩]:=h.a a (by grind[l4,run_cas_hit_entry]) (by grind[l4,events_cas_hit_entry]) (sync_rw _)
theorem cP.d{x old}(h:cP g f #[.pointer (some ad),.int k old,.int k n])(a:iP P f (q3 (.int k)))(b:w.cell? ad=some (.int k x))(d:w.frozen? ad=false)(c:¬x=old):ef P main g w= .go (aK g (.bool false)) w #[⟨.cell ad,false,true⟩]:=h.a a (by grind[l4,run_cas_miss_entry]) (by grind[l4,events_cas_miss_entry]) (sync_r _)
theorem cP.b(mk)(b:∀ad g,mk ad≠ .extern g){ad vs}(h:cP g f vs)(a:iP P f (np mk))(c:vs[0]?=some (.pointer (some ad))):ef P main g w= .go (aK g (.tuple #[])) w #[⟨.mark (mk ad),false,true⟩]:=h.a a (by simp_all[np,rL,x1]) (by simp_all[np,rL]) (by grind)
theorem cP.i(h:cP g f vs)(e:iP P f hZ)(c:vs[0]?=some (.pointer (some ad)))(a:w.cell? ad=some (.int .u32 n))(b:n≠0)(d:w.frozen? ad=false):ef P main g w= .go (aK g (.tuple #[])) (w.setCell ad (.int .u32 (n- 1))) (lf ad):=h.a e (by simp[hZ,jc,c,a,b,d,q5,kg P w ad (.int .u32 (n- 1)) .atomic rfl]) (by simp[hZ,jc,c,a,b,d,lf,pc P w _ ad (.int .u32 (n- 1)) .atomic rfl,kg P w ad (.int .u32 (n- 1)) .atomic rfl]) (qW _)
theorem cP.j(h:cP g f vs)(n:g.status= .running)(m:g.offers=none)(l:iP P f hZ)(q:vs[0]?=some (.pointer (some ad)))(p:w.cell? ad=some (.int .u32 0)):ef P main g w= .go {g with status:= .blocked} w #[]:=have⟨o,az,ats,i,j,k⟩:=h.o;have⟨fn,a,b,c,d,e⟩:=l.a;i.j n m j k a b c d e (by simp_all[hZ,jc])
theorem cP.h(h:cP g f vs)(d:iP P f nc)(b:vs[0]?=some (.pointer (some ad)))(a:w.cell? ad=some (.int .u32 n))(c:w.frozen? ad=false):ef P main g w= .go (aK g (.tuple #[])) (w.setCell ad (.int .u32 (IntKind.u32.wrap (n+1)))) (lf ad):=h.a d (by simp[nc,jc,b,a,c,q5,pv,kg P w ad (.int .u32 (IntKind.u32.wrap (n+1))) .atomic rfl]) (by simp[nc,jc,b,a,c,lf,pv,pc P w _ ad (.int .u32 (IntKind.u32.wrap (n+1))) .atomic rfl,kg P w ad (.int .u32 (IntKind.u32.wrap (n+1))) .atomic rfl]) (qW _)
def Du(g:ei):fv×Option fl×Bool×Bool×Option Value:=(g.frame,(oy g)[hI g]?,oj (bj g) (yielded (oy g) g.frame.tmps),It g.frame.kind,g.dying.map λ _=>Go.undef)
def Bn(g:ei):fv×Option fl×Bool×Bool×Option Value:=({fn:=g.frame.fn,tmps:=g.frame.tmps,todo:= .inRegion (oy g) (hI g::wJ g)::hK g,defers:=g.frame.defers,mode:= .run,kind:=g.frame.kind},some (bj g),true,true,none)
theorem ao{g}(h:Du g=Bn g):dh g (bj g):= ⟨congrArg (·.1) h,congrArg (·.2.1) h,congrArg (·.2.2.1) h,congrArg (·.2.2.2.1) h,by simp_all[congrArg,Du,Bn]⟩
theorem ac{g f}(h:(Du g,(bj g).op,(Sd (bj g).op).map (bY g).eval)=(Bn g,.call {callee:= .value (.func f),args:=Sd (bj g).op,argTypes:=Ia (bj g).op},vs)):cP g f vs:= ⟨_,_,_,ao (by grind),congrArg (·.2.1) h,by grind⟩
theorem ie{P:ee}{f:kp}(h:(P.funcs[f]?,(P.funcs.getD f default).name== "runtime.NumGoroutine",(P.funcs.getD f default).body.isNone)=(some (P.funcs.getD f default),false,true))
 (h4:lb (P.funcs.getD f default)=none) (h5:ma (P.funcs.getD f default)=some e):iP P f e:= ⟨_,congrArg (·.1) h,by grind,by grind,h4,h5⟩
end
section
variable[aW][ck][Gl]
theorem Xp{P:ee}{fs:Array Func}{fr:fv}{u:dr}(p:Hd u)(t:fr.mode= .returning)(r:fr.defers= [])(w:fr.roundOf=none):∀{n:Nat}{i:fv}{g:List fv}{k:dr},gw (lp P fs) n (ht fr [gd] u)= .next (ht i g k)->g.length<=1:=by
 intro n i g k h;cases n with
 |zero=>
  grind[gw,Stepped.next.injEq,kt]
 |succ n=>
  obtain⟨fn,d,j,A,C,kind,E⟩:=fr;subst t r w;have D:∀(m:Nat)(b:dr),Hd b->∀i g k,gw (lp P fs) m (ht gd [] b)= .next (ht i g k)->g.length<=1:=λ m b z i g k e=>by
   cases m with
   |zero=>
    simp only[gw,Stepped.next.injEq]at e;rw[<-(kt e).2.1];simp
   |succ m=>
    simp only[gw,GM]at e;cases m with
    |zero=>
     simp only[gw,Stepped.next.injEq]at e;rw[<-(kt e).2.1];simp
    |succ m=>
     obtain⟨o,F,y⟩:=H5 (Q:=lp P fs) z;simp only[gw,y]at e;cases e
  have key:(∃o b,step (lp P fs) (ht ⟨fn,d,j,[],.returning,kind,none⟩ [gd] u)= .ended o b)\/∃b,Hd b/\step (lp P fs) (ht ⟨fn,d,j,[],.returning,kind,none⟩ [gd] u)= .next (ht gd [] b):=by
   have ret:∀(v:ea)(b:dr),doReturn (lp P fs) true ⟨fn,d,j,[],.returning,kind,none⟩ [gd] none v b= .go (G0 gd []) b:=λ v b=>by
    cases kind<;>rfl
   have c:ef (lp P fs) true (G0 ⟨fn,d,j,[],.returning,kind,none⟩ [gd]) u=unwind (lp P fs) true ⟨fn,d,j,[],.returning,kind,none⟩ [gd] none u:=rfl;simp only[unwind]at c;cases s:(lp P fs).funcs[fn]? with
   |none=>
    rw[s]at c;simp only[ret]at c;exact .inr ⟨u,p,(gG c).2 _ _ _ _ rfl⟩
   |some f=>
    rw[s]at c;simp only at c;have l:=so (lp P fs) (results f d) u #[];generalize B:(results f d).runT (lp P fs) u #[]=q at c l;obtain⟨q,es⟩:=q;cases q with
    |ok a b=>
     simp only[ret,mb]at c;have:=RO.d (P:=P) (fs:=fs) f d u a b l.symm;subst this;exact .inr ⟨_,p,(gG c).2 _ _ _ _ rfl⟩
    |halt x b=>cases x<;>exact .inl ((gG c).1 _ _ _ rfl)
  grind[gw]
variable{C:dC}{X:cS}{F:Nat->Bool}{R:Frame->World->Prop}
def HZ(Q:ee)(Stop:fv->List fv->dr->Prop)(k:ajL):=∀T,gy k.D k.h T 0->∃n fr cs w,gw Q n (ht k.a k.b (k.v.tp T k.D))= .next (ht fr cs w)/\Stop fr cs w/\2<=cs.length
theorem adO(x:C.a)(e:X.b)(ai:X.a= []/\X.d= [])(ak:∀f,C.b f=false){Stop:fv->List fv->dr->Prop}{k:ajL}(a:tQ C X F R k)(h2:HZ C.Q Stop k):
 ∃k':ajL,tQ C X F R k'/\kY C.Q X R k'.e k.e/\∃T,gy k'.D k'.h T 0/\Stop k'.a k'.b (k'.v.tp T k'.D):=by
 have p:=HV (k:=k.e) e a.a;generalize U:k.e=l at p
 induction p generalizing k with
 |intro l _ V=>
  subst U;by_cases N:∃T,gy k.D k.h T 0/\Stop k.a k.b (k.v.tp T k.D)
  exact⟨k,a,.ni _,N⟩;have o:¬jU X k.a k.b:=by
   rintro⟨s,P⟩;have O:gy k.D k.h k.h 0:=λ j _=>by simp
   obtain⟨n,fr,cs,w,i,D,E⟩:=h2 k.h O;have aj:k.a.roundOf=none:=by
    have:=a.d;generalize k.b=cs0 at this s;generalize k.a=ad at this;generalize k.c=ae at this;generalize k.d=ab at this;cases this with
    |jE g al=>omega
    |up g am hp Q=>
     have af:=Q.c;grind
   rcases P with⟨_,_,h⟩| ⟨h,L⟩
   grind
   rw[e.b]at L;rw[s,e.a]at i;have ag:Hd (k.v.tp k.h k.D):=a.c;grind[Xp]
  obtain⟨d,t,J,A,v2,Z,K,B,w2,ac,v,ao,b,W,Y,ap,aq,r⟩:=ak8 x e true a o;rcases b with b|b
  let k':ajL:= ⟨J,A,v2,Z,K,B,w2,k.D+d,iu k.D k.h t⟩
  have u:lM C.Q X R k'.e k.e:= ⟨r,o,d,t,v,rfl,rfl⟩;have M:HZ C.Q Stop k':=by
   intro T hT;obtain⟨y,z⟩:=rP hT;obtain⟨n,fr,cs,w,i,D,E⟩:=h2 T y;obtain⟨es,q⟩:=v T k.D z;have q:=(gG (cs:=k.b) q).2 _ _ _ _ rfl;rcases td i q with⟨aa,c2⟩| ⟨m,c⟩
   cases n with
   |zero=>
    grind[gw,kt]
   |succ n=>
    grind[gw]
   grind
  obtain⟨an,G,H,I⟩:=V k'.e u ⟨b,W,Y,r⟩ M rfl;exact⟨_,G,H.a (.mf u (.ni _)),I⟩;obtain⟨f,_,_,_,_,_,_,_,_,_,_,ah,_⟩:=b
  grind
end
section
variable[aW][ck][Gl]{C:dC}{X:cS}{F:Nat->Bool}{R:Frame->World->Prop}
variable{id:Nat}{c:Code}{i:Nat}
structure At(C:dC)(X:cS)(F:Nat->Bool)(R:fv->dr->Prop)(cs:List fv)(hp:Array Obj)(fr:fv):Prop where
 N:∃k,tQ C X F R k/\k.a=fr/\k.b=cs/\k.v.heap=hp
 x:cs≠X.c
variable{cs:List Frame}{hp:Array Obj}{fr gr:Frame}
theorem At.n(OK:C.a)(hX:X.b)(hnx:∀f,C.b f=false)(h:At C X F R cs hp fr):
 ∃(w:dr)(gr:fv)(b:List fv)(w2:dr)(es:Array Go.Event),w.heap=hp/\ef C.Q true (G0 fr cs) w= .go (G0 gr b) w2 es/\(b≠X.c->At C X F R b w2.heap gr)/\(gr.mode= .run\/gr.mode= .returning):=by
 obtain⟨⟨k,o,rfl,rfl,rfl⟩,n⟩:=h;obtain⟨d,t,gr,b,v2,H,x,u,w2,v,p,D,a,r,s,E,G,i⟩:=ak8 OK hX true o λ l=>n l.1
 have c:gy (k.D+d) (iu k.D k.h t) (iu k.D k.h t) 0:=λ j _=>by simp
 obtain⟨es,q⟩:=p _ k.D (rP c).2;rcases a with a|a
 refine⟨k.v.tp _ k.D,_,_,_,_,rfl,q,λ m=> ⟨⟨⟨_,_,_,_,_,_,_,_,_⟩,⟨a,r,s,i⟩,rfl,rfl,rfl⟩,m⟩,?_⟩;cases a with
 |jE g A=>rcases g.f.b with⟨e,_⟩| ⟨e,_⟩<;>simp[e]
 |up g B hp y=>rcases g.f.b with⟨e,_⟩| ⟨e,_⟩<;>simp[e]
 obtain⟨f,_,_,_,_,_,_,_,_,_,_,z,_⟩:=a
 grind
variable(OK:C.a)(hX:X.b)(hnx:∀f,C.b f=false)
include OK hX hnx
theorem At.g(h:At C X F R cs hp fr)(k:∀w,ef C.Q true (G0 fr cs) w= .go (G0 gr cs) w):At C X F R cs hp gr:=by have⟨w,g,b,w2,es,i,a,j,_⟩:=h.n OK hX hnx;rw[k]at a;have e:=pk a;have c:gr=g:=congrArg nH e.1;have d:cs=b:=congrArg q6 e.1;have f:w=w2:=e.2.1;subst c d f;rw[<-i];exact j h.x
variable{b:Frame}{a:Act}{k:List Item}
theorem At.f{x y}(h:At C X F R cs hp (b.at a (.code (.seq x y)::k))):At C X F R cs hp (b.at a (.code x:: .code y::k)):=h.g OK hX hnx λ w=>rfl
theorem At.o(h:At C X F R cs hp (b.at a (.code .skip::k))):At C X F R cs hp (b.at a k):=h.g OK hX hnx λ w=>rfl
theorem At.e{ops}(h:At C X F R cs hp (b.at a (.code (.region id ops false)::k))):At C X F R cs hp (b.at a (.inRegion ops (List.range ops.size)::k)):=h.g OK hX hnx λ w=>rfl
theorem At.d{ops}(h:At C X F R cs hp (b.at a (.inRegion ops []::k))):At C X F R cs hp (b.at a k):=h.g OK hX hnx λ w=>rfl
theorem At.s(h:At C X F R cs hp (b.at a (.code (.block id c)::k))):At C X F R cs hp (b.at a (.code c:: .inBlock id::k)):=h.g OK hX hnx λ w=>rfl
theorem At.z(h:At C X F R cs hp (b.at a (.code (.loop c)::k))):At C X F R cs hp (b.at a (.code c:: .inLoop c::k)):=h.g OK hX hnx λ w=>rfl
theorem At.q(h:At C X F R cs hp (b.at a (.inLoop c::k))):At C X F R cs hp (b.at a (.code c:: .inLoop c::k)):=h.g OK hX hnx λ w=>rfl
theorem At.u{why}(h:At C X F R cs hp (b.at a (.code (.refuse why)::k))):False:=by have⟨w,d,c,w2,es,e,f,_⟩:=h.n OK hX hnx;trivial
theorem At.l{c x y}(h:At C X F R cs hp (b.at a (.code (.cond c x y)::k))):∃t,a.eval c= .bool t/\At C X F R cs hp (b.at a (.code (if t then x else y)::k)):=by
 have i:∀w,ef C.Q true (G0 (b.at a (.code (.cond c x y)::k)) cs) w=(match a.eval c with| .bool t=> .go (G0 (b.at a (.code (if t then x else y)::k)) cs) w|_=> .ended (.stuck "cond: bool expected" ((b.at a (.code (.cond c x y)::k)).pos C.Q)) w):=λ w=>by rfl
 have⟨w,e,d,w2,es,f,g,_⟩:=h.n OK hX hnx;cases j:a.eval c with
 |bool t=>refine⟨t,rfl,h.g OK hX hnx λ w=>?_⟩;grind|_=>grind
theorem At.M{ops:Array fl}{l:List Nat}{o:fl}{Ψ:Next->dr->Prop}(h:At C X F R cs hp (b.at a (.inRegion ops (i::l)::k)))(J:ops[i]?=some o)(O:∀K,oj o (yielded ops K)=true)
 (H:∀w,w.heap=hp->(∃y w2,(ej a.eval o).run C.Q w= .ok y w2/\Ψ y w2)\/∃y u,(ej a.eval o).run C.Q w= .halt y u/\jX y=true):
 ∃y w2,Ψ y w2/\∀x,y= .value x->At C X F R cs w2.heap (b.at (a.put o.dst x) (.inRegion ops l::k)):=by
 obtain⟨w,r,t,w2,es,D,c,E,I⟩:=h.n OK hX hnx;have G:ef C.Q true (G0 (b.at a (.inRegion ops (i::l)::k)) cs) w=stepG.apply C.Q true (b.at a (.inRegion ops (i::l)::k)) cs none (ej a.eval o) w:=by
  have B:(b.at a (.inRegion ops (i::l)::k)).eval=a.eval:=by rfl
  rw[<-B];show pN _ true _ (b.at a (.inRegion _ (i::l)::k)) _ _ w=_
  grind[pN,stepG.oper,Frame.oper?,Frame.at]
 rw[G]at c;have hT:=so C.Q (ej a.eval o) w #[];simp only[stepG.apply,if_true]at c;generalize N:(ej a.eval o).runT C.Q w #[]=q at c hT;obtain⟨q,M⟩:=q;rcases H w D with⟨y,u,j,n⟩| ⟨y,u,j,n⟩
 rw[j]at hT;subst hT;refine⟨y,u,n,λ x e=>?_⟩;subst e;have e:=pk c;have d:(b.at a (.inRegion ops (i::l)::k)).finish x=r:=congrArg nH e.1;have z:cs=t:=congrArg q6 e.1;have A:u=w2:=e.2.1;subst z A;have:=E h.x;rw[<-d,rH,J]at this;exact this;exfalso;rw[j]at hT;subst hT;cases y with
 |panic p=>
  simp only[mb]at c;have d:(b.at a (.inRegion ops (i::l)::k)).raise [{v:=p,recovered:=false}]=r:=congrArg nH (pk c).1;obtain⟨L,f⟩:=vN (b.at a (.inRegion ops (i::l)::k)) [{v:=p,recovered:=false}];rw[d]at f;rcases I with s|s<;>rw[s]at f<;>cases f
 |stuck m=>simp only[mb]at c;cases c
 |unsupported u=>
  cases u with
  |initOrder g=>cases n
  |_=>trivial
 |_=>trivial
theorem At.A{id:Nat}{k':List Item}(h:At C X F R cs hp (b.at a (.code (.exit id)::k)))(c:exitTo id k=some k'):At C X F R cs hp (b.at a k'):=
 h.g OK hX hnx λ w=>by grind[ef,pN,Frame.at]
omit OK hX hnx
def An:Obj->Bool| .view .. | .pending .. =>false|_=>true
theorem At.E(h:At C X F R cs hp fr){v:ea}(j:fr.tmps[i]?=some v){ad:Go.Addr}(f:v= .pointer (some ad)):∃o,hp[ad.block]?=some o/\An o=true:=by
 obtain⟨⟨k,c,rfl,rfl,rfl⟩,q⟩:=h;have hT:AV k.f k.a.tmps k.c.tmps:=by
  have:=c.d;generalize k.b=cs0 at this;generalize k.d=l at this;cases this with
  |jE g r=>exact g.b
  |up g s hp p=>exact g.b
 rcases hT.d i with⟨a,_⟩| ⟨v1,y,a,n,d⟩
 grind
 rw[j]at a;cases a;obtain⟨a',e⟩:∃a',k.f ad.block a':=by
  subst f;cases d with
  |dc h=>
   rename_i a';cases a' with
   |none=>trivial
   |some a'=>exact⟨_,h.1⟩
 obtain⟨o,u,k1,t,b⟩:=c.b.b _ _ e;refine⟨o,k1,?_⟩;revert b;generalize F ad.block=m;intro b;cases b<;>rfl
end
end Go.Rs
end
namespace Go.Abs
section
variable{R:Type}
inductive Ty where|ay (k:fb)|aO|aJ|aH (e:Ty)|aF (a b:Ty)|dP (a r:Ty)|dX (a b:Ty)|cO (k v:Ty)|ec (e:Ty) deriving DecidableEq
@[reducible] def Ty.b:Ty->Type
 | .ay _=>Int
 | .aO=>Bool
 | .aJ=>List UInt8
 | .aH e=>List e.b
 | .aF a b=>a.b×b.b
 | .dP a r=>a.b->Option r.b
 | .dX a b=>List (a.b×b.b)
 | .cO k v=>List (k.b×v.b)
 | .ec e=>Option e.b
def Ty.a:Ty->Nat| .aF a b=>a.a+b.a|_=>1
def Ty.c:Ty->Bool| .aF _ _=>true|_=>false
def Ty.e(e:Ty):Nat->Ty|0|1=>e|n+2=> .aF e (Ty.e e (n+1))
def Ty.f:(t:Ty)->t.b->t.b->Bool| .ay _,x,y=>(x:Int)==y| .aO,x,y=>(x:Bool)==y| .aJ,x,y=>(x:List UInt8)==y| .aF a b,(x,c),(y,d)=>a.f x y&&b.f c d|_,_,_=>false
def Ty.i:Ty->Bool| .ay _| .aO| .aJ=>true| .aF a b=>a.i&&b.i|_=>false
def Ty.g:(t:Ty)->t.b| .ay _=>(0:Int)| .aO=>false| .aJ=>([]:List UInt8)| .aH _=> []| .aF a b=>(a.g,b.g)| .dP _ _=>λ _=>none| .dX _ _=> []| .cO _ _=> []| .ec _=>none
def Ty.h:Ty->Bool| .ay _| .aO| .aJ=>true| .aF a b=>a.h&&b.h|_=>false
def Ty.j:Ty->Bool| .dP _ _| .dX _ _| .cO _ _| .ec _=>false| .aF a b=>a.j&&b.j|_=>true
@[reducible] def ax:List Ty->Type
 | []=>Unit
 | [t]=>t.b
 |t::u::ts=>t.b×ax (u::ts)
def Rg:(a:List Ty)->ax a| []=>()| [t]=>t.g|t::u::a=>(t.g,Rg (u::a))
def gN{t t':Ty}(d:t.b):=if h:t=t' then some (h▸d)else none
inductive aU where|aE (t:Ty) (d:t.b)|js|dx (id ver off:Nat)|gB (t:Ty) (d:t.b)|rD (id ver:Nat) (e:Ty) (i:Int)|dj (id ver:Nat)|rN (f:Nat)|AN|sd (id ver off:Nat) (k:fb) (n:Nat) (i:Int)|Dq (id ver off:Nat) (k:fb) (n:Nat) (m:Int)|nX|ku|oH (f id ver:Nat)
inductive bQ where|v (a:aU)|ju (l:List aU)|oF (l:List aU)
structure fX where
 L:List (Nat×Bool)
 g:Bool
 s:bQ
inductive fJ where|eu (t:Ty) (cells:List aU)|c8 (e:Ty) (l:List e.b)|uj (t:Ty) (d:t.b)|tX (e:Ty) (l:List e.b)|kB (k v:Ty) (l:List (k.b×v.b))|xL (k v:Ty) (l:List (k.b×v.b))|it (k v:Ty) (c:Option (k.b×v.b)) (l:List (k.b×v.b))
namespace Map
variable{α:Type}
def av:List (Nat×α)->Nat->Option α| [],_=>none| (k',v)::r,k=>bif eb k' k then some v else av r k
def jw:List (Nat×α)->Nat->α->List (Nat×α)| [],k,v=> [(k,v)]| (k',v')::r,k,v=>bif p5 k k' then(k,v)::(k',v')::r else bif eb k' k then(k,v)::r else(k',v')::jw r k v
end Map
structure au where
 N:Nat
 d:List Nat
 a:List (Nat×fX)
 b:List (Nat×(Nat×fJ))
 c:List Nat
inductive RM(β:Type):Type 1 where|aA (b:β)|aa|nh (d:Nat) (f:Option fX->RM β)|dS (id:Nat) (f:Option (Nat×fJ)->RM β)|dG (α:Type) (m:Option α) (f:α->RM β)
namespace RM
variable{α β:Type}
def aB:RM α->(α->RM β)->RM β| .aA a,k=>k a| .aa,_=> .aa| .nh d f,k=> .nh d λ x=>(f x).aB k| .dS id f,k=> .dS id λ x=>(f x).aB k| .dG b m f,k=> .dG b m λ x=>(f x).aB k
def af:RM β->au->Option β| .aA b,_=>some b| .aa,_=>none| .nh d f,st=>(f (Map.av st.a d)).af st| .dS id f,st=>(f (Map.av st.b id)).af st| .dG _ m f,st=>m.bind λ x=>(f x).af st
def jT:RM β->au->(β->Option R)->Option R| .aA b,_,K=>K b| .aa,_,_=>none| .nh d f,st,K=>(f (Map.av st.a d)).jT st K| .dS id f,st,K=>(f (Map.av st.b id)).jT st K| .dG _ m f,st,K=>m.bind λ x=>(f x).jT st K
abbrev _root_.Go.Abs.pD:=Nat×Bool
def ij:RM β->au->List pD| .aA _,_=> []| .aa,_=> []| .nh d f,st=>(d,true)::(f (Map.av st.a d)).ij st| .dS id f,st=>(id,false)::(f (Map.av st.b id)).ij st| .dG _ m f,st=>match m with|some x=>(f x).ij st|none=> []
def si:RM β->au->(β->List pD->Option R)->Option R| .aA b,_,K=>K b []| .aa,_,_=>none| .nh d f,st,K=>(f (Map.av st.a d)).si st λ x ks=>K x ((d,true)::ks)| .dS id f,st,K=>(f (Map.av st.b id)).si st λ x ks=>K x ((id,false)::ks)| .dG _ m f,st,K=>m.bind λ x=>(f x).si st K
def nS:Option β->RM β|some b=> .aA b|none=> .aa
end RM
structure eZ where
 a:Ty
 b:Nat
 c:Bool
structure fc where
 c:List Ty
 b:List Ty
 a:List Ty
 g:ax c->ax b->Option (ax a)
 d:Bool
structure vT where
 a:List Ty
 b:Ty
 c:ax a->Option b.b
structure u7 where
 a:Ty
 ins:List Ty
 fn:List a.b->ax ins->Option (List a.b)
 back:Bool
structure o9 where
 t:Ty
 ins:List Ty
 fn:t.b->ax ins->Option t.b
structure aq where
 G:List (Nat×eZ)
 C:List (Nat×fc)
 Q:List (Nat×Ty)
 I:List (Nat×vT)
 N:List Nat
 M:List (Nat×u7)
 O:List (Nat×o9)
def aq.b(E:aq)(T:Nat):=(Map.av E.G T).map (·.a)
def aq.c(E:aq)(T:Nat):Option Ty:=match E.b T with|some (.aH e)=>some e|_=>none
def aU.a:ea->Option aU| .int k n=>some (.aE (.ay k) n)| .bool b=>some (.aE .aO b)| .string s=>some (.aE .aJ s.data.toList)| .slice none 0 0=>some .js| .nilFunc=>some .nX| .pointer none=>some .AN|_=>none
def tL:List ea->Option (List aU)| []=>some []|v::vs=>match aU.a v,tL vs with|some a,some l=>some (a::l)|_,_=>none
def bQ.b:ea->Option bQ| .agg cs=>(tL cs.toList).map .ju|x=>(aU.a x).map .v
def Ju(a L:List (Nat×Bool)):=a.all λ p=>L.any λ q=>eb p.1 q.1&& (bif p.2 then q.2 else !q.2)
def rd(L:List (Nat×Bool)):eo->RM bQ
 | .tmp t=> .nh t λ|some sl=>bif Ju sl.L L then .aA sl.s else .aa|none=> .aa
 | .const v=> .nS (bQ.b v)| .func f=> .aA (.v (.rN f))| .global _=> .aa
def bQ.c:bQ->RM aU| .v a=> .aA a|_=> .aa
def c9(L:List (Nat×Bool))(x:eo):=(rd L x).aB bQ.c
def sb(L:List (Nat×Bool)):List eo->RM (List bQ)| []=> .aA []|x::r=>(rd L x).aB λ s=>(sb L r).aB λ l=> .aA (s::l)
abbrev W:=List (Nat×(Nat×fJ))
def o8:Ty->Bool| .ec _=>true|_=>false
def akv:= [(190,254),(200,258)]
def afJ:= "criadera/round.proves"
def fc.f(c:fc)(a r:Ty):Option (a.b->Option r.b):=match c with| ⟨[a'],[],[r'],f,_⟩=>if h:a'=a/\r'=r then some (λ x=>h.2▸f (h.1▸x) ())else none|_=>none
def gX(E:aq)(t:Ty):aU->RM (t.b×W)
 | .aE u d=>match gN (t:=u) (t':=t) d with|some x=> .aA (x,[])|none=> .aa
 | .js=>match t with| .aH _=> .aA ([],[])|_=> .aa
 | .AN=>match t with| .ec _=> .aA (none,[])|_=> .aa
 | .dj id ver=> .dS id λ
  |some (cv,.c8 e l)=>bif eb cv ver then(match gN (t:= .aH e) (t':=t) l with|some x=> .aA (x,[(id,(cv,.tX e l))])|none=> .aa)else .aa|some (cv,.tX e l)=>bif eb cv ver then(match gN (t:= .aH e) (t':=t) l with|some x=> .aA (x,[])|none=> .aa)else .aa|some (cv,.kB k v l)=>bif eb cv ver then(match gN (t:= .cO k v) (t':=t) l with|some x=> .aA (x,[(id,(cv,.xL k v l))])|none=> .aa)else .aa|some (cv,.xL k v l)=>bif eb cv ver then(match gN (t:= .cO k v) (t':=t) l with|some x=> .aA (x,[])|none=> .aa)else .aa|_=> .aa
 | .rN f=>match t,Map.av E.C f with
  | .dP a r,some c=>bif o8 a then .aa else match c.f a r with|some g=> .aA (g,[])|none=> .aa
  |_,_=> .aa
 |_=> .aa
def iD(E:aq):(t:Ty)->List aU->RM ((t.b×W)×List aU)| .aF a b,l=>(iD E a l).aB λ x=>(iD E b x.2).aB λ y=> .aA (((x.1.1,y.1.1),x.1.2++y.1.2),y.2)| .ay k,a::l=>(gX E (.ay k) a).aB λ x=> .aA (x,l)| .aO,a::l=>(gX E .aO a).aB λ x=> .aA (x,l)| .aJ,a::l=>(gX E .aJ a).aB λ x=> .aA (x,l)| .aH e,a::l=>(gX E (.aH e) a).aB λ x=> .aA (x,l)| .dP p r,a::l=>(gX E (.dP p r) a).aB λ x=> .aA (x,l)| .dX p q,a::l=>(gX E (.dX p q) a).aB λ x=> .aA (x,l)| .cO p q,a::l=>(gX E (.cO p q) a).aB λ x=> .aA (x,l)| .ec p,a::l=>(gX E (.ec p) a).aB λ x=> .aA (x,l)|_,[]=> .aa
def jd(E:aq)(t:Ty):bQ->RM (t.b×W)| .v a=>gX E t a| .ju l=>bif t.c then(iD E t l).aB λ x=>match x.2 with| []=> .aA x.1|_=> .aa else .aa| .oF _=> .aa
def tn:(t:Ty)->t.b->List aU| .aF a b,(x,y)=>tn a x++tn b y| .ay k,d=> [.aE (.ay k) d]| .aO,d=> [.aE .aO d]| .aJ,d=> [.aE .aJ d]| .aH e,d=> [.aE (.aH e) d]| .dP a r,d=> [.aE (.dP a r) d]| .dX a b,d=> [.aE (.dX a b) d]| .cO a b,d=> [.aE (.cO a b) d]| .ec e,d=> [.aE (.ec e) d]
def bQ.a:bQ->RM (List aU)| .v (.aE t d)=> .aA (tn t d)| .v .nX=> .aa| .v a=> .aA [a]| .ju l=> .aA l| .oF _=> .aa
def rF:Ty->List aU| .aF a b=>rF a++rF b| .aH _=> [.js]| .ay k=> [.aE (.ay k) (0:Int)]| .aO=> [.aE .aO false]| .aJ=> [.aE .aJ ([]:List UInt8)]| .dP _ _| .dX _ _| .cO _ _| .ec _=> [.nX]
def aG{α:Type}(l:List α)(i:Int):=if 0<=i then l[i.toNat]? else none
def tD{α:Type}(l:List α)(i:Int)(x:α):=if 0<=i/\i.toNat<l.length then some (l.set i.toNat x)else none
def iB{α:Type}(l:List α)(lo a:Int):=if 0<=lo/\lo<=a/\a<=(l.length:Int)then some ((l.take a.toNat).drop lo.toNat)else none
def SM(k:fb)(x y:Int):=if y=0 then none else some (k.wrap (x.tdiv y))
def NL(x y:Int):=if y=0 then none else some (x.tmod y)
def iZ:=4294967296
def jk(n:Nat):=if n<=iZ then some ()else none
def CO(n:Int):=if 0<=n/\n<=(iZ:Int)then some ()else none
def U1(x y:Int):=if y>x then y else x
def bu(x y:Int):=if y<x then y else x
def DZ:List Nat->Bool| []=>true|i::r=>!r.any (eb i)&&DZ r
def yi(l:List Nat)(n:Nat):=l.any (eb n)
def bI{α:Type}(g:Bool)(m:Option α)(d:α):=bif g then m else some d
def mM:Ty->Option (fb×Nat)
 | .ay k=>some (k,1)| .aF (.ay k) r=>match mM r with|some (k',n)=>if k'=k then some (k,n+1)else none|none=>none
 |_=>none
def eZ.d(a:eZ):Option (fb×Nat):=match a.c,mM a.a with|true,some (k,m)=>bif eb a.b m then some (k,m)else none|_,_=>none
def cQ(i:Int)(n:Nat):=if 0<=i/\i< (n:Int)then some ()else none
def kZ(i:Int)(n:Nat):=if 0<=i/\i<=(n:Int)then some ()else none
def nU(k:fb):Nat->List aU->RM (List Int)|0,[]=> .aA []|n+1,.aE (.ay k') d::r=>if k'=k then(nU k n r).aB λ l=> .aA ((d:Int)::l)else .aa|_,_=> .aa
def tO(k:fb):Nat->List Int->Int->Int->List aU|_,[],_,_=> []|j,x::r,i,d=> .aE (.ay k) (bif decide (i=(j:Int))then d else x)::tO k (j+1) r i d
def su(k:fb):Nat->List Int->Int->List Int->List aU|_,[],_,_=> []|j,x::r,n,l=> .aE (.ay k) (bif decide ((j:Int)<n)then(l[j]?).getD x else x)::su k (j+1) r n l
def nJ:(n i:Nat)->(t:Ty)->t.b->Option (Σ u:Ty,u.b)|1,0,t,d=>some ⟨t,d⟩|_+2,0,.aF a _,(x,_)=>some ⟨a,x⟩|n+2,i+1,.aF _ b,(_,y)=>nJ (n+1) i b y|_,_,_,_=>none
def uH:(n i:Nat)->Ty->Option Ty|1,0,t=>some t|_+2,0,.aF a _=>some a|n+2,i+1,.aF _ b=>uH (n+1) i b|_,_,_=>none
def jm:(n i:Nat)->Ty->Option Nat
 |1,0,_=>some 0|_+2,0,.aF _ _=>some 0|n+2,i+1,.aF a b=>match jm (n+1) i b with|some o=>some (a.a+o)|none=>none
 |_,_,_=>none
def oX:Nat->Ty->List (Nat×Nat)|1,t=> [(0,t.a)]|n+2,.aF a b=>(0,a.a)::(oX (n+1) b).map λ p=>(a.a+p.1,p.2)|_,_=> []
def pI:(t:Ty)->t.b->t.b->Option Bool
 | .ay _,x,y=>some ((x:Int)==y)| .aO,x,y=>some ((x:Bool)==y)| .aJ,x,y=>some ((x:List UInt8)==y)| .aF a b,(x,c),(y,d)=>match pI a x y,pI b c d with|some p,some q=>some (p&&q)|_,_=>none
 |_,_,_=>none
def Qh(k:fb)(x y:Int):=k.wrap ((kk k.bits x&&&kk k.bits y).toNat:Nat)
def Ru(k:fb)(x y:Int):=k.wrap ((kk k.bits x|||BitVec.ofInt k.bits y).toNat:Nat)
def Kt(k:fb)(x y:Int):=k.wrap ((kk k.bits x^^^kk k.bits y).toNat:Nat)
def Rh(k:fb)(x y:Int):=if y<0 then none else some (k.wrap (x*2^ (min y.toNat k.bits)))
def PW(k:fb)(x y:Int):=if y<0 then none else some (x.fdiv (2^ (min y.toNat k.bits)))
def FX(g:Bool)(op:hS)(k:fb)(x y:Int):RM aU:=match op with| .shl=> .dG Int (bI g (Rh k x y) 0) λ q=> .aA (.aE (.ay k) q)| .shr=> .dG Int (bI g (PW k x y) 0) λ q=> .aA (.aE (.ay k) q)|_=> .aa
def Qc:hS->Bool| .shl| .shr=>true|_=>false
def G6(g:Bool)(op:hS)(k:fb)(x y:Int):RM aU:=match op with| .add=> .aA (.aE (.ay k) (k.wrap (x+y)))| .sub=> .aA (.aE (.ay k) (k.wrap (x- y)))| .mul=> .aA (.aE (.ay k) (k.wrap (x*y)))| .quo=> .dG Int (bI g (SM k x y) 0) λ q=> .aA (.aE (.ay k) q)| .rem=> .dG Int (bI g (NL x y) 0) λ q=> .aA (.aE (.ay k) q)| .and=> .aA (.aE (.ay k) (Qh k x y))| .or=> .aA (.aE (.ay k) (Ru k x y))| .xor=> .aA (.aE (.ay k) (Kt k x y))| .eql=> .aA (.aE .aO (x==y))| .neq=> .aA (.aE .aO (x !=y))| .lss=> .aA (.aE .aO (decide (x<y)))| .leq=> .aA (.aE .aO (decide (x<=y)))| .gtr=> .aA (.aE .aO (decide (x>y)))| .geq=> .aA (.aE .aO (decide (x>=y)))|_=> .aa
def Ik(g:Bool)(op:hS)(x y:List UInt8):RM aU:=match op with| .eql=> .aA (.aE .aO (x==y))| .neq=> .aA (.aE .aO (x !=y))| .add=> .dG Unit (bI g (jk (x.length+y.length)) ()) λ _=> .aA (.aE .aJ (x++y))|_=> .aa
def EB(E:aq)(op:hS)(t:Ty)(s s':bQ):RM aU:=(jd E t s).aB λ d=>(jd E t s').aB λ a=>match pI t d.1 a.1 with
 |some b=>match op with| .eql=> .aA (.aE .aO b)| .neq=> .aA (.aE .aO (!b))|_=> .aa
 |none=> .aa
def HP(E:aq)(g:Bool)(op:hS)(T:Nat)(s s':bQ):RM aU:=match E.b T with
 |some (.ay k)=>bif Qc op then(jd E (.ay k) s).aB λ x=>(match s' with| .v (.aE (.ay _) y)=>FX g op k x.1 y|_=> .aa)else(jd E (.ay k) s).aB λ x=>(jd E (.ay k) s').aB λ y=>G6 g op k x.1 y.1|some .aJ=>(jd E .aJ s).aB λ x=>(jd E .aJ s').aB λ y=>Ik g op x.1 y.1|some .aO=>EB E op .aO s s'|some (.aF a b)=>match Map.av E.Q T with|some t=>if t= .aF a b then EB E op (.aF a b) s s' else .aa|none=> .aa
 |_=> .aa
def Ef:aU->RM Nat
 | .aE (.aH _) l=> .aA (hA l)| .js=> .aA 0| .dj id ver=> .dS id λ|some (cv,.c8 _ l)=>bif eb cv ver then .aA l.length else .aa|some (cv,.tX _ l)=>bif eb cv ver then .aA l.length else .aa|_=> .aa
 |_=> .aa
def CA:aU->RM Nat
 | .aE (.cO _ _) l=> .aA (hA l)| .dj id ver=> .dS id λ|some (cv,.kB _ _ l)=>bif eb cv ver then .aA l.length else .aa|some (cv,.xL _ _ l)=>bif eb cv ver then .aA l.length else .aa|_=> .aa
 |_=> .aa
def BG(t:Ty)(l:List aU):RM bQ:=match t.c,l with|false,[c]=> .aA (.v c)|true,l=>bif eb l.length t.a then .aA (.ju l)else .aa|_,_=> .aa
def ug(g:Bool)(t:Ty):aU->RM bQ
 | .dx id ver off=> .dS id λ|some (cv,.eu u cells)=>bif eb cv ver then BG t ((cells.drop off).take t.a)else .aa|some (cv,.uj u d)=>bif eb cv ver then(if t=u/\off=0 then .aA (.v (.aE u d))else BG t (((tn u d).drop off).take t.a))else .aa|_=> .aa
 | .gB u d=>if t=u then .aA (.v (.aE u d))else .aa| .rD id ver u i=> .dS id λ|some (cv,.c8 e l)=>bif eb cv ver then(if t=e/\u=e then .dG e.b (bI g (aG l i) e.g) λ x=> .aA (.v (.aE e x))else .aa)else .aa|some (cv,.tX e l)=>bif eb cv ver then(if t=e/\u=e then .dG e.b (bI g (aG l i) e.g) λ x=> .aA (.v (.aE e x))else .aa)else .aa|_=> .aa
 | .sd id ver off k n i=> .dS id λ|some (cv,.eu _ cells)=>bif eb cv ver then(if t= .ay k then(nU k n ((cells.drop off).take n)).aB λ z=> .dG Int (bI g (aG z i) 0) λ x=> .aA (.v (.aE (.ay k) x))else .aa)else .aa|some (cv,.uj u d)=>bif eb cv ver then(if t= .ay k then(nU k n (((tn u d).drop off).take n)).aB λ z=> .dG Int (bI g (aG z i) 0) λ x=> .aA (.v (.aE (.ay k) x))else .aa)else .aa|_=> .aa
 |_=> .aa
def uQ(a:eZ)(i:Nat):aU->RM bQ
 | .dx id ver off=> .dS id λ
  |some (cv,_)=>bif eb cv ver then(match jm a.b i a.a with|some o=> .aA (.v (.dx id ver (off+o)))|none=> .aa)else .aa|none=> .aa
 | .gB t d=>if a.a=t then(match nJ a.b i t d with|some ⟨u,x⟩=> .aA (.v (.gB u x))|none=> .aa)else .aa|_=> .aa
def G3(g:Bool)(b:eZ)(n:Int)(a:aU):RM bQ:=match b.d,a with
 |some (k,m),.dx id ver off=> .dS id λ|some (cv,_)=>bif eb cv ver then .dG Unit (bI g (cQ n m) ()) λ _=> .aA (.v (.sd id ver off k m n))else .aa|none=> .aa
 |_,a=> .dG Unit (if 0<=n then some ()else none) λ _=>uQ b n.toNat a
def akK(g:Bool)(b:eZ)(n:Int)(a:aU)(i:eo):RM bQ:=match i,a,b.d with| .tmp _,.gB t d,some (k,m)=>if t=b.a then(nU k m (tn t d)).aB λ z=> .dG Int (bI g (aG z n) 0) λ x=> .aA (.v (.gB (.ay k) x))else .aa|_,_,_=>G3 g b n a
def DV(g:Bool)(e:Ty)(n:Int):aU->RM bQ
 | .aE (.aH u) l=>if e=u then .dG u.b (bI g (aG l n) u.g) λ x=> .aA (.v (.gB u x))else .aa| .dj id ver=> .dS id λ
  |some (cv,.c8 u l)=>bif eb cv ver then(if e=u then .dG u.b (bI g (aG l n) u.g) λ _=> .aA (.v (.rD id ver u n))else .aa)else .aa|some (cv,.tX u l)=>bif eb cv ver then(if e=u then .dG u.b (bI g (aG l n) u.g) λ x=> .aA (.v (.gB u x))else .aa)else .aa|_=> .aa
 |_=> .aa
def zI(L:List (Nat×Bool))(a:eZ)(cells:List aU):List (Nat×eo)->RM (List aU)| []=> .aA cells| (i,x)::r=>(rd L x).aB λ s=>s.a.aB λ l=>match(oX a.b a.a)[i]? with|some (o,n)=>bif eb l.length n&&hF (o+n) cells.length then zI L a (cells.take o++l++cells.drop (o+n)) r else .aa|none=> .aa
def tu(L:List (Nat×Bool))(x:eo):=(c9 L x).aB λ| .aE (.ay _) n=> .aA n|_=> .aa
def lr(L:List (Nat×Bool))(a:Int):Option eo->RM Int|none=> .aA a|some x=>tu L x
def JX(L:List (Nat×Bool))(g:Bool)(t:Ty)(lo a:Option eo):aU->RM bQ| .aE (.aH u) l=>if t= .aH u then(lr L 0 lo).aB λ x=>(lr L (hA l:Nat) a).aB λ y=>.dG (List u.b) (bI g (iB l x y) []) λ z=> .aA (.v (.aE (.aH u) z))else .aa| .aE .aJ l=>if t= .aJ then(lr L 0 lo).aB λ x=>(lr L (hA (α:=UInt8) l:Nat) a).aB λ y=>.dG (List UInt8) (bI g (iB (α:=UInt8) l x y) []) λ z=> .aA (.v (.aE .aJ z))else .aa|_=> .aa
def j4{a α:Type}(eq:a->a->Bool):List (a×α)->a->Option α| [],_=>none|p::r,x=>bif eq p.1 x then some p.2 else j4 eq r x
def lz{a α:Type}(eq:a->a->Bool):List (a×α)->a->α->List (a×α)| [],x,y=> [(x,y)]|p::r,x,y=>bif eq p.1 x then(x,y)::r else p::lz eq r x y
@[reducible] def ajC{α:Type}(l:List (Int×α))(x:Int):Option α:=j4 (λ(a b:Int)=>a==b) l x
@[reducible] def ajK{α:Type}(l:List (Int×α))(x:Int)(y:α):List (Int×α):=lz (λ(a b:Int)=>a==b) l x y
def Bh(q:Ty)(u:Ty):aU->RM (List (q.b×u.b))
 | .aE t d=> .nS (gN (t:=t) (t':= .cO q u) d)| .dj id ver=> .dS id λ|some (cv,.kB k v l)=>bif eb cv ver then .nS (gN (t:= .cO k v) (t':= .cO q u) l)else .aa|some (cv,.xL k v l)=>bif eb cv ver then .nS (gN (t:= .cO k v) (t':= .cO q u) l)else .aa|_=> .aa
 |_=> .aa
def JM(E:aq)(q:Ty)(L:List (Nat×Bool))(x:eo):=(rd L x).aB λ s=>(jd E q s).aB λ d=>match d.2 with| []=> .aA d.1|_=> .aa
def DJ(u:Ty)(ok:Bool)(r:Option u.b):bQ:=bif ok then .oF [.aE u (r.getD u.g),.aE .aO r.isSome]else .v (.aE u (r.getD u.g))
def pL:aU->RM Bool| .aE .aO b=> .aA b|_=> .aa
def FY(L:List (Nat×Bool))(c a b:eo):RM bQ:=match c with
 | .tmp s=>(c9 L (.tmp s)).aB λ c=>(pL c).aB λ t=>match a,b with| .const (.bool true),_=>(c9 ((s,false)::L) b).aB λ y=>(pL y).aB λ y=> .aA (.v (.aE .aO (t||y)))|_,.const (.bool false)=>(c9 ((s,true)::L) a).aB λ x=>(pL x).aB λ x=> .aA (.v (.aE .aO (t&&x)))|_,_=> .aa
 |_=> .aa
def il(E:aq)(L:List (Nat×Bool))(g:Bool)(op:Op):=match op with
 | .move x| .assign x=>rd L x| .binOp b T x y _=>(rd L x).aB λ s=>(rd L y).aB λ s'=>(HP E g b T s s').aB λ a=> .aA (.v a)| .nilCheck x=>(c9 L x).aB λ
  | .aE (.ec e) d=> .dG e.b (bI g d e.g) λ x=> .aA (.v (.gB e x))
  | .gB e d=> .aA (.v (.gB e d))
  | .dx id ver off=> .dS id λ
   |some (cv,_)=>bif eb cv ver then .aA (.v (.dx id ver off))else .aa
   |none=> .aa
  |_=> .aa
 | .unOp u _ x=>(c9 L x).aB λ
  | .aE .aO b=>match u with
   | .not=> .aA (.v (.aE .aO (!b)))
   |_=> .aa
  | .aE (.ay k) n=>match u with
   | .neg=> .aA (.v (.aE (.ay k) (k.wrap (0- (n:Int)))))
   |_=> .aa
  |_=> .aa
 | .pick c a b=>FY L c a b| .load T a=>match E.b T with
  |some t=>(c9 L a).aB (ug g t)
  |none=> .aa
 | .fieldAddr T x i=>match Map.av E.G T with
  |some f=>bif f.a.c&&!f.c then(c9 L x).aB (uQ f i)else .aa
  |none=> .aa
 | .field T x i=>match Map.av E.G T with
  |some f=>bif f.a.c&&!f.c then(c9 L x).aB λ
   | .aE t d=>match gN (t:=t) (t':=f.a) d with
    |some d=>match nJ f.b i f.a d with
     |some u=> .aA (.v (.aE u.1 u.2))
     |none=> .aa
    |none=> .aa
   |_=> .aa else .aa
  |none=> .aa
 | .indexAddr T x i=>match Map.av E.G T with
  |some f=>bif f.c then(c9 L x).aB λ a=>(tu L i).aB λ n=>akK g f n a i else match f.a with
   | .aH e=>(c9 L x).aB λ a=>(tu L i).aB λ n=>DV g e n a
   |_=> .aa
  |none=> .aa
 | .index T x i=>match E.b T with
  |some .aJ=>(c9 L x).aB λ
   | .aE .aJ l=>(tu L i).aB λ n=> .dG UInt8 (bI g (aG (α:=UInt8) l n) 0) λ c=> .aA (.v (.aE (.ay .u8) (c.toNat:Int)))
   |_=> .aa
  |_=>match Map.av E.G T with
   |some f=>(match f.d with
    |some (k,m)=>(rd L x).aB λ s=>s.a.aB λ l=>(nU k m l).aB λ z=>(tu L i).aB λ n=> .dG Int (bI g (aG z n) 0) λ c=> .aA (.v (.aE (.ay k) c))
    |none=> .aa)
   |none=> .aa
 | .extract t i=>(rd L t).aB λ
  | .oF l=>match l[i]? with
   |some a=> .aA (.v a)
   |none=> .aa
  |_=> .aa
 | .slice T x lo h none=>match E.b T with
  |some t=>(c9 L x).aB (JX L g t lo h)
  |none=> .aa
 | .entry x=>(c9 L x).aB λ
  | .dj id ver=> .dS id λ
   |some (cv,.it k v (some y) _)=>bif eb cv ver then .aA (.oF [.aE k y.1,.aE v y.2])else .aa
   |_=> .aa
  |_=> .aa
 | .lookup T m k ok=>match E.b T with
  |some (.cO q u)=>bif u.j then(c9 L m).aB λ a=>(Bh q u a).aB λ l=>(JM E q L k).aB λ n=> .aA (DJ u ok (j4 q.f l n))else .aa
  |_=> .aa
 | .convert S T x=>match E.b S,E.b T with
  |some (.ay _),some (.ay k)=>(tu L x).aB λ n=> .aA (.v (.aE (.ay k) (k.wrap n)))
  |_,_=> .aa
 | .build T ps=>match Map.av E.G T with
  |some f=>bif f.a.c then(zI L f (rF f.a) ps.toList).aB λ l=> .aA (.ju l)else .aa
  |none=> .aa
 | .call {callee:= .builtin .len,args,argTypes}=>match args.toList,argTypes.toList with
  | [x],[T]=>match E.b T with
   |some (.aH _)=>(c9 L x).aB λ a=>(Ef a).aB λ n=> .aA (.v (.aE (.ay .i64) (n:Int)))
   |some .aJ=>(c9 L x).aB λ
    | .aE .aJ l=> .aA (.v (.aE (.ay .i64) (hA (α:=UInt8) l:Nat)))
    |_=> .aa
   |some (.cO _ _)=>(c9 L x).aB λ a=>(CA a).aB λ n=> .aA (.v (.aE (.ay .i64) (n:Int)))
   |_=> .aa
  |_,_=> .aa
 | .call {callee:= .builtin .max,args,.. }=>match args.toList with
  | [x,y]=>(c9 L x).aB λ
   | .aE (.ay k) a=>(c9 L y).aB λ
    | .aE (.ay k') b=>if k=k' then .aA (.v (.aE (.ay k) (U1 a b)))else .aa
    |_=> .aa
   |_=> .aa
  |_=> .aa
 | .call {callee:= .builtin .min,args,.. }=>match args.toList with
  | [x,y]=>(c9 L x).aB λ
   | .aE (.ay k) a=>(c9 L y).aB λ
    | .aE (.ay k') b=>if k=k' then .aA (.v (.aE (.ay k) (bu a b)))else .aa
    |_=> .aa
   |_=> .aa
  |_=> .aa
 |_=> .aa
def qu(E:aq)(t:Ty):aU->RM (t.b×W)
 | .gB u d=> .nS ((gN (t:=u) (t':=t) d).map λ d=>(d,[]))| .dx id ver 0=> .dS id λ
  |some (cv,.eu u cells)=>bif eb cv ver then(iD E u cells).aB λ p=>match p.2 with| []=> .nS ((gN (t:=u) (t':=t) p.1.1).map λ d=>(d,p.1.2++ [(id,(cv,.uj u p.1.1))]))|_=> .aa else .aa|some (cv,.uj u d)=>bif eb cv ver then .nS ((gN (t:=u) (t':=t) d).map λ d=>(d,[]))else .aa|_=> .aa
 |_=> .aa
def EU(E:aq)(t:Ty)(s:bQ):RM (t.b×W):=match t,s with| .ec e,.v (.dx id ver off)=>(qu E e (.dx id ver off)).aB λ x=> .aA (some x.1,x.2)| .ec e,.v (.gB u d)=>(qu E e (.gB u d)).aB λ x=> .aA (some x.1,x.2)|t,s=>jd E t s
def rl(E:aq):(a:List Ty)->List bQ->RM (ax a×W)| [],[]=> .aA ((),[])| [t],[s]=>EU E t s|t::u::a,s::ss=>(EU E t s).aB λ x=>(rl E (u::a) ss).aB λ y=> .aA ((x.1,y.1),x.2++y.2)|_,_=> .aa
def mh:(a:List Ty)->ax a->List aU| [],_=> []| [t],x=> [.aE t x]|t::u::a,(x,y)=> .aE t x::mh (u::a) y
def oE:(a:List Ty)->ax a->bQ| [],_=> .oF []| [t],x=> .v (.aE t x)|t::u::a,r=> .oF (mh (t::u::a) r)
def zz:List Ty->Bool| [.aH e]=>e.h|_=>false
def fc.e(c:fc):=c.a.all Ty.h|| (c.d&&zz c.a)
def fc.h(c:fc)(x:ax c.c):Option (ax c.a):=match c,x with| ⟨_,[],_,f,_⟩,x=>f x ()|_,_=>none
def DX(E:aq)(L:List (Nat×Bool))(g:Bool)(f:Nat)(args:List eo):RM ((Bool×bQ)×W):=match Map.av E.C f with
 |some c=>(sb L args).aB λ l=>(rl E c.c l).aB λ x=>.dG (ax c.a) (bI g (c.h x.1) (Rg c.a)) λ r=> .aA ((c.d,oE c.a r),bif c.e then[]else x.2)|none=> .aa
def zW(E:aq)(L:List (Nat×Bool))(g:Bool)(f:eo)(args:List eo):=match f with
 | .func f=>DX E L g f args| .tmp t=>(c9 L (.tmp t)).aB λ
  | .rN f=>DX E L g f args| .aE (.dP a r) f=>bif o8 a then .aa else(sb L args).aB λ| [s]=>(jd E a s).aB λ x=> .dG r.b (bI g (f x.1) r.g) λ y=> .aA ((false,.v (.aE r y)),bif r.h then[]else x.2)|_=> .aa
  |_=> .aa
 |_=> .aa
def akq(E:aq)(x:eo)(name:String)(args:List eo):RM ((Bool×bQ)×W):=(c9 [] x).aB λ
 | .aE (.dP (.ec a) r) f=>if name=afJ then(sb [] args).aB λ| [s]=>(jd E (.ec a) s).aB λ x=> .dG r.b (bI true (f x.1) r.g) λ y=> .aA ((false,.v (.aE r y)),bif r.h then[]else x.2)|_=> .aa else .aa|_=> .aa
structure er where
 c:Option (Nat×fX)
 d:W
def er.a(d:Option Nat)(L:List (Nat×Bool))(g:Bool)(s:bQ)(w:W):er:= ⟨match d with|some d=>some (d,⟨L,g,s⟩)|none=>none,w⟩
def iY(d:Nat)(o:fJ)(a:Nat->aU)(w:W):RM er:= .dS d λ|none=> .aA ⟨some (d,⟨[],true,.v (a 0)⟩),w++ [(d,(0,o))]⟩|some (cv,_)=> .aA ⟨some (d,⟨[],true,.v (a (cv+1))⟩),w++ [(d,(cv+1,o))]⟩
def rE(E:aq)(L:List (Nat×Bool))(e:Ty)(l:List e.b)(w:W):List (Nat×eo)->RM (List e.b×W)| []=> .aA (l,w)| (i,x)::r=>(rd L x).aB λ s=>(jd E e s).aB λ d=>bif p5 i l.length then rE E L e (l.set i d.1) (w++d.2) r else .aa
def Cn(E:aq)(t:Ty)(x:eo):=(c9 [] x).aB (qu E t)
def uD(E:aq):(a:List Ty)->List eo->RM (ax a×W)| [],[]=> .aA ((),[])| [t],[x]=>Cn E t x|t::u::a,x::r=>(Cn E t x).aB λ d=>(uD E (u::a) r).aB λ y=> .aA ((d.1,y.1),d.2++y.2)|_,_=> .aa
def S9(E:aq):(ins caps b:List Ty)->(ax ins->ax caps->Option (ax b))->ax caps->List bQ->RM (aU×W)| [a],_,[r],f,caps,[]=>bif o8 a then .aa else .aA (.aE (.dP a r) λ x=>f x caps,[])| [t,a],_,[r],f,caps,[s]=>bif o8 a then .aa else(jd E t s).aB λ d=> .aA (.aE (.dP a r) λ x=>f (d.1,x) caps,d.2)|_,_,_,_,_,_=> .aa
def akw(E:aq):(ins caps b:List Ty)->(ax ins->ax caps->Option (ax b))->bQ->RM (aU×W)| [t,.ec a],[],[r],f,s=>(jd E t s).aB λ d=> .aA (.aE (.dP (.ec a) r) λ x=>f (d.1,x) (),d.2)|_,_,_,_,_=> .aa
def C6(E:aq)(c:fc)(caps:ax c.b)(first:List bQ):=S9 E c.c c.b c.a c.g caps first
def mU{α:Type}(l:List α)(off:Nat)(x:List α):=l.take off++x++l.drop (off+x.length)
def Ei(E:aq)(t:Ty)(x:eo):aU->RM er
 | .dx id ver off=>(rd [] x).aB λ s=>s.a.aB λ l=> .dS id λ
  |some (cv,.eu u cells)=>bif eb cv ver&&eb l.length t.a&&hF (off+t.a) cells.length then .aA ⟨none,[(id,(cv,.eu u (mU cells off l)))]⟩else .aa|_=> .aa
 | .sd id ver off k n i=>(rd [] x).aB λ
  | .v (.aE (.ay k') d)=> .dS id λ|some (cv,.eu u cells)=>bif eb cv ver&&hF (off+n) cells.length then(if t= .ay k/\k'=k then(nU k n ((cells.drop off).take n)).aB λ z=> .aA ⟨none,[(id,(cv,.eu u (mU cells off (tO k 0 z i d))))]⟩else .aa)else .aa|_=> .aa
  |_=> .aa
 | .rD id ver u i=>(rd [] x).aB λ s=>(jd E t s).aB λ d=> .dS id λ|some (cv,.c8 e l)=>bif eb cv ver&&d.2.all (λ p=>!eb p.1 id)then(if h:t=e/\u=e then .dG (List e.b) (tD l i (h.1▸d.1)) λ l'=> .aA ⟨none,d.2++ [(id,(cv,.c8 e l'))]⟩else .aa)else .aa|_=> .aa
 |_=> .aa
def Ht(E:aq)(T d:Nat)(x:eo):aU->RM er
 | .dj id ver=>(c9 [] x).aB λ a=> .dS id λ|some (cv,.c8 e l)=>bif eb cv ver then(if E.b T=some (.aH e)then(gX E (.aH e) a).aB λ m=>.dG Unit (jk (l.length+hA m.1)) λ _=> .aA ⟨some (d,⟨[],true,.v (.dj id (cv+1))⟩),[(id,(cv+1,.c8 e (l++m.1)))]⟩else .aa)else .aa|_=> .aa
 | .js=>match E.b T with
  |some (.aH e)=>(c9 [] x).aB λ a=>(gX E (.aH e) a).aB λ m=>.dG Unit (jk (hA m.1)) λ _=>iY d (.c8 e m.1) (.dj d) []|_=> .aa
 |_=> .aa
def kv(l:List UInt8):=l.map λ c=>(c.toNat:Int)
def uS(id:Nat):(t:Ty)->t.b->RM (List aU×W)
 | .aH e,l=> .dS id λ|none=> .aA ([.dj id 0],[(id,(0,.c8 e l))])|some (cv,_)=> .aA ([.dj id (cv+1)],[(id,(cv+1,.c8 e l))])
 | .aF a b,(x,y)=>(uS id a x).aB λ p=>(uS (id+a.a) b y).aB λ q=> .aA (p.1++q.1,p.2++q.2)|t,d=> .aA ([.aE t d],[])
def FL(d:Option Nat)(r:(Bool×bQ)×W):RM er:=match r.1.1,r.1.2,d with|true,.v (.aE (.aH e) l),some d=>iY d (.c8 e l) (.dj d) r.2|true,.v (.aE (.aF a b) x),some d=>(uS ((d+1)*4096) (.aF a b) x).aB λ p=> .aA ⟨some (d,⟨[],true,.ju p.1⟩),r.2++p.2⟩|_,s,d=> .aA (.a d [] true s r.2)
def BT(E:aq)(T:Nat)(m k x:eo):RM er:=match E.b T with
 |some (.cO q u)=>(c9 [] m).aB λ
  | .dj id ver=>(JM E q [] k).aB λ n=>(rd [] x).aB λ s=>(jd E u s).aB λ d=> .dS id λ|some (cv,.kB q' a l)=>bif eb cv ver&&d.2.all (λ p=>!eb p.1 id)then(if h:q'=q/\a=u then .aA ⟨none,d.2++ [(id,(cv,.kB q' a (lz q'.f l (h.1▸n) (h.2▸d.1))))]⟩else .aa)else .aa|_=> .aa
  |_=> .aa
 |_=> .aa
def akB(E:aq):Operand->RM (Option (u7⊕(o9×Nat×Nat)))
 | .func g=> .aA ((Map.av E.M g).map .inl)
 | .tmp t=> .nh t λ
  |some ⟨[],_,.v (.oH g id ver)⟩=> .aA ((Map.av E.O g).map λ c=> .inr (c,id,ver))
  |_=> .aA none
 |_=> .aA none
def akM(E:aq)(d:Option Nat)(c:u7)(args:List Operand):RM er:=match args with
 | []=> .aa
 |x::r=>(c9 [] x).aB λ
  | .dj id ver=>(sb [] r).aB λ a=>(rl E c.ins a).aB λ y=> .dS id λ
   |some (cv,.c8 e l)=>bif Nat.beq cv ver&&y.2.all (λ p=>!Nat.beq p.1 id)then
    (if h:e=c.a then .dG (List c.a.b) (c.fn (h▸l) y.1) λ l'=>match c.back,d with
     |true,some d=> .aA ⟨some (d,⟨[],true,.v (.dj id (cv+1))⟩),y.2++ [(id,(cv+1,.c8 c.a l'))]⟩
     |false,d=> .aA ⟨d.map λ d=>(d,⟨[],true,.oF []⟩),y.2++ [(id,(cv,.c8 c.a l'))]⟩
     |_,_=> .aa
    else .aa)else .aa
   |_=> .aa
  |_=> .aa
def akL(E:aq)(d:Option Nat)(c:o9)(id ver:Nat)(args:List eo):RM er:=(sb [] args).aB λ a=>(rl E c.ins a).aB λ y=> .dS id λ
 |some (cv,.eu u cells)=>bif eb cv ver&&y.2.isEmpty&&u.h then(iD E u cells).aB λ p=>bif p.2.isEmpty&&p.1.2.isEmpty then (if h:u=c.t then .dG c.t.b (c.fn (h▸p.1.1) y.1) λ x=> .aA ⟨d.map λ d=>(d,⟨[],true,.oF []⟩),[(id,(cv,.eu c.t (tn c.t x)))]⟩else .aa)else .aa else .aa|_=> .aa
def EV(E:aq)(d:Nat)(k:fb)(m:Nat)(y:Int)(u:Ty)(id ver off:Nat):RM er:=(qu E u (.dx id ver 0)).aB λ p=>(nU k m (((tn u p.1).drop off).take m)).aB λ z=>bif hF m 999 then .aA ⟨some (d,⟨[],true,.v (.aE (.aH (.ay k)) (z.take y.toNat))⟩),p.2⟩else .aa
def IT(E:aq)(d:Nat)(b:eZ)(a:Option eo)(id ver off:Nat):RM er:=match b.d with
 |some (k,m)=>(lr [] (m:Int) a).aB λ y=> .dG Unit (kZ y m) λ _=> .dS id λ|some (cv,.eu u cells)=>bif eb cv ver then(bif yi E.N d then(bif hF (off+m) cells.length then .aA ⟨some (d,⟨[],true,.v (.Dq id ver off k m y)⟩),[]⟩else .aa)else EV E d k m y u id ver off)else .aa|some (cv,.uj u _)=>bif eb cv ver then EV E d k m y u id ver off else .aa|_=> .aa
 |none=> .aa
def Iv(E:aq)(T:Nat)(a:Option Nat)(x y:eo):RM er:=(c9 [] x).aB λ
 | .Dq id ver off k n m=>(c9 [] y).aB λ
  | .aE (.aH (.ay k')) l=> .dS id λ|some (cv,.eu u cells)=>bif eb cv ver&&hF (off+n) cells.length then(if k'=k/\E.b T=some (.aH (.ay k))then(nU k n ((cells.drop off).take n)).aB λ z=>.aA ⟨a.map λ d=>(d,⟨[],true,.v (.aE (.ay .i64) (bu m (hA l:Nat)))⟩),[(id,(cv,.eu u (mU cells off (su k 0 z m l))))]⟩else .aa)else .aa|_=> .aa
  |_=> .aa
 |_=> .aa
def D2(E:aq)(o:Oper):RM er:=
 match o.op with
 | .assign (.const (.slice none 0 0))=>match o.dst,E.b o.type with
  |some d,some (.aH e)=>iY d (.c8 e []) (.dj d) []
  |_,_=> .aa
 | .alloc T=>match o.dst,E.b T with
  |some d,some t=>iY d (.eu t (rF t)) (λ v=> .dx d v 0) []
  |_,_=> .aa
 | .box T x=>match o.dst,E.b T with
  |some d,some t=>(rd [] x).aB λ s=>s.a.aB λ l=>bif Nat.beq l.length t.a then iY d (.eu t l) (λ v=> .dx d v 0) []else .aa
  |_,_=> .aa
 | .buildSlice T n ps=>match o.dst,E.c T with
  |some d,some e=>(rE E [] e (List.replicate n e.g) [] ps.toList).aB λ l=>
   bif e.j&&Nat.ble (n*e.a) 16777216 then iY d (.c8 e l.1) (.dj d) l.2 else .aa
  |_,_=> .aa
 | .makeSlice T (.tmp x) (.tmp y)=>match o.dst,E.b T with
  |some d,some (.aH e)=>(c9 [] (.tmp x)).aB λ
   | .aE (.ay .i64) n=>bif Nat.beq x y&&e.j then .dG Unit (CO n) λ _=>iY d (.c8 e (List.replicate (n:Int).toNat e.g)) (.dj d) []else .aa
   |_=> .aa
  |_,_=> .aa
 | .store T a x=>match o.dst,E.b T with
  |none,some t=>(c9 [] a).aB (Ei E t x)
  |_,_=> .aa
 | .call {callee:= .builtin .append,args,argTypes}=>match o.dst,args.toList,argTypes.toList with
  |some d,[s,x],[T,g]=>bif Nat.beq T g then(c9 [] s).aB (Ht E T d x)else .aa
  |_,_,_=> .aa
 | .makeFunc (.func f) first cap=>match Map.av E.C f with
  |some c=>(uD E c.b cap.toList).aB λ y=>(sb [] first.toList).aB λ l=>(C6 E c y.1 l).aB λ a=>
   .aA (.a o.dst [] true (.v a.1) (y.2++a.2))
  |none=>match Map.av E.I f with
   |some c=>bif first.toList.isEmpty then(uD E c.a cap.toList).aB λ y=> .dG c.b.b (c.c y.1) λ xs=> .aA (.a o.dst [] true (.v (.aE c.b xs)) y.2)else .aa
   |none=>match Map.av E.O f,first.toList,cap.toList with
    |some c,[],[x]=>(c9 [] x).aB λ
     | .dx id ver 0=> .dS id λ
      |some (cv,.eu u _)=>bif Nat.beq cv ver&&decide (u=c.t)then .aA (.a o.dst [] true (.v (.oH f id ver)) [])else .aa
      |_=> .aa
     |_=> .aa
    |_,_,_=> .aa
 | .makeMap T none=>match o.dst,E.b T with
  |some d,some (.cO k u)=>iY d (.kB k u []) (.dj d) []
  |_,_=> .aa
 | .range T x=>match o.dst,E.b T with
  |some d,some (.cO k u)=>(c9 [] x).aB λ
   | .aE t l=>(RM.nS (gN (t:=t) (t':= .cO k u) l)).aB λ l=>iY d (.it k u none l) (.dj d) []
   |_=> .aa
  |_,_=> .aa
 | .mapUpdate T m k x=>match o.dst with
  |none=>BT E T m k x
  |some _=> .aa
 | .insert T m k x=>match o.dst with
  |none=>BT E T m k x
  |some _=> .aa
 | .slice T x lo b none=>(c9 [] x).aB λ a=>match a,o.dst with
  | .dj id ver,some d=> .dS id λ
   |some (cv,.c8 e l)=>bif Nat.beq cv ver then(if E.b T=some (.aH e)then(lr [] 0 lo).aB λ p=>(lr [] (List.length l:Nat) b).aB λ q=>
    .dG (List e.b) (iB l p q) λ z=> .aA ⟨some (d,⟨[],true,.v (.dj id (cv+1))⟩),[(id,(cv+1,.c8 e z))]⟩else .aa)else .aa
   |_=> .aa
  | .dx id ver off,some d=>match Map.av E.G T,lo with
   |some h,none=>IT E d h b id ver off
   |_,_=> .aa
  |_,_=>(il E [] true (.slice T x lo b none)).aB λ s=> .aA (.a o.dst [] true s [])
 | .call {callee:= .builtin .copy,args,argTypes}=>match args.toList,argTypes.toList with
  | [x,y],[T,_]=>Iv E T o.dst x y
  |_,_=> .aa
 | .call {callee:= .value f,args,.. }=>(akB E f).aB λ
  |some (.inl c)=>akM E o.dst c args.toList
  |some (.inr c)=>akL E o.dst c.1 c.2.1 c.2.2 args.toList
  |none=>(zW E [] true f args.toList).aB (FL o.dst)
 | .call {callee:= .invoke x name,args,.. }=>(akq E x name args.toList).aB (FL o.dst)
 | .makeInterface T x=>match Map.av akv T with
  |some f=>match Map.av E.C f with
   |some c=>(rd [] x).aB λ s=>(akw E c.c c.b c.a c.g s).aB λ a=> .aA (.a o.dst [] true (.v a.1) a.2)
   |none=> .aa
  |none=> .aa
 | .convert S T x=>match E.b S,E.b T with
  |some .aJ,some (.aH (.ay .u8))=>(c9 [] x).aB λ
   | .aE .aJ l=> .aA (.a o.dst [] true (.v (.aE (.aH (.ay .u8)) (kv l))) [])
   |_=> .aa
  |_,_=>(il E [] true (.convert S T x)).aB λ s=> .aA (.a o.dst [] true s [])
 |op=>(il E [] true op).aB λ s=> .aA (.a o.dst [] true s [])
def CP(L:List (Nat×Bool))(g b:Bool):=match L with| []=>b|_::_=>g&&b
def zO(E:aq)(o:fl)(s:Nat)(want:Bool):RM er:= .nh s λ
 |some ⟨L,g,.v (.aE .aO b)⟩=>let c:=(s,want)::L;let g':Bool:=CP L g (bif want then b else !b)
  match o.op with
  | .call {callee:= .value f,args,.. }=>(zW E c g' f args.toList).aB λ r=>match r.2 with| []=> .aA (.a o.dst c g' r.1.2 [])|_=> .aa
  | .buildSlice T n ps=>match E.b T with
   |some (.aH e)=>(rE E c e (List.replicate n e.g) [] ps.toList).aB λ l=>match l.2 with| []=>bif e.j&&hF (n*e.a) 16777216 then .aA (.a o.dst c g' (.v (.aE (.aH e) l.1)) [])else .aa|_=> .aa
   |_=> .aa
  |op=>(il E c g' op).aB λ s=> .aA (.a o.dst c g' s [])
 |_=> .aa
def gx(E:aq)(ops:Array fl)(o:fl):=match o.guard with|none=>D2 E o|some (j,want)=>match(ops[j]?).bind (·.dst)with|some s=>zO E o s want|none=> .aa
def kS(ops:Array fl)(o:fl):Option Nat:=match o.guard with|none=>none|some (j,_)=>(ops[j]?).bind (·.dst)
def eX:List (Nat×(Nat×fJ))->W->List (Nat×(Nat×fJ))|h,[]=>h|h,(id,o)::r=>eX (Map.jw h id o) r
def au.e(st:au)(d:Nat):=p5 d st.N&&!st.d.any (eb d)&&!st.c.any (eb d)
def nT(m:Option Nat)(l:List Nat):=match m with|some s=>s::l|none=>l
def xY(m:Option Nat)(d:Nat):=match m with|some s=>eb d s|none=>false
def cD(st:au)(m:Option Nat)(u:er):Option au:=match u.c with
 |some (d,sl)=>bif st.e d&&!xY m d then some {N:=st.N,d:=nT m st.d,a:=Map.jw st.a d sl,b:=eX st.b u.d,c:=st.c}else none|none=>some {N:=st.N,d:=nT m st.d,a:=st.a,b:=eX st.b u.d,c:=st.c}
def Ge(E:aq)(ops:Array fl)(o:fl)(st:au)(K:au->Option R):=(gx E ops o).jT st λ u=>match cD st (kS ops o) u with|some st=>K st|none=>none
structure FP where
 r:List pD
 w:List pD
def er.b(u:er):List pD:=(match u.c with|some (d,_)=> [(d,true)]|none=> [])++u.d.map λ p=>(p.1,false)
def Od(k k':pD):=eb k.1 k'.1&& (bif k.2 then k'.2 else !k'.2)
def DO(l m:List pD):=l.all λ k=>!m.any (Od k)
def tW(f g:FP):=DO f.w g.r&&DO g.w f.r&&DO f.w g.w
def yh(a:Nat)(g:FP):Nat->List FP->Bool|_,[]=>true|i,f::r=>(Nat.testBit a i||tW f g)&&yh a g (i+1) r
def Bd(E:aq)(ops:Array fl)(a:List Nat):List fl->List FP->au->(au->Option R)->Option R| [],_,st,K=>K st|o::r,fs,st,K=>(gx E ops o).si st λ u ks=>match cD st (kS ops o) u with|some st=>bif yh (a.getD fs.length 0) ⟨ks,u.b⟩ 0 fs then Bd E ops a r (fs++ [⟨ks,u.b⟩]) st K else none|none=>none
def tA(E:aq):List Nat->au->Option au
 | [],st=>some st|n::r,st=>bif hF 1000000 n then(match Map.av st.a (n- 1000000)with
  |some ⟨[],_,.v (.dx id ver 0)⟩=>match Map.av st.b id with|some (cv,.eu u cells)=>((qu E u (.dx id ver 0)).af st).bind λ d=>tA E r {N:=st.N,d:=st.d,a:=st.a,b:=eX st.b d.2,c:=st.c}|_=>tA E r st
  |_=>tA E r st)else tA E r st
def jO(st:au):au:={st with d:= [],a:=st.a.map λ p=>(p.1,if p.2.L.isEmpty then p.2 else⟨[],true,.v .nX⟩)}
def uR:List Edge->List Nat->Nat->Nat| [],_,s=>s|e::r,acc,s=>uR r acc (bif sr .any e then s|||2^e.on|||acc.getD e.on 0 else s)
def qo:List fl->List Nat->List Nat| [],a=>a|o::r,a=>CheckFast.force (uR o.after.toList a 0) λ v=>qo r (a++ [v])
def yq:Nat->List fl->Bool|_,[]=>true|i,o::r=>(o.after.toList.all λ e=>!sr .any e||Nat.blt e.on i)&&yq (i+1) r
abbrev Ev(R:Type):=au->(Exit->au->Option R)->Option R
def Oq(c:eo)(st:au)(x y:Option R):=((c9 [] c).aB pL).jT st λ t=>bif t then x else y
def po(E:aq):List ResultVar->RM (List bQ)| []=> .aA []| .tmp t::r=>(rd [] (.tmp t)).aB λ s=>(po E r).aB λ l=> .aA (s::l)| .cell a T::r=>match E.b T with|some t=>(c9 [] (.tmp a)).aB λ b=>(ug true t b).aB λ s=>(po E r).aB λ l=> .aA (s::l)|none=> .aa
def zV(t:Ty)(a:aU)(r:List aU):RM ((t.b×List Nat)×List aU):=match a with
 | .aE u d=>match gN (t:=u) (t':=t) d with|some x=> .aA ((x,[]),r)|none=> .aa
 |_=> .aa
def vt:(t:Ty)->List aU->RM ((t.b×List Nat)×List aU)
 | .aH e,.dj id ver::r=> .dS id λ
  |some (cv,.c8 c l)=>bif eb cv ver then(match gN (t:= .aH c) (t':= .aH e) l with|some x=> .aA ((x,[id]),r)|none=> .aa)else .aa|_=> .aa
 | .aH e,.js::r=> .aA ((([]:List e.b),[]),r)| .aF a b,l=>(vt a l).aB λ x=>(vt b x.2).aB λ y=> .aA (((x.1.1,y.1.1),x.1.2++y.1.2),y.2)| .ay k,x::r=>zV (.ay k) x r| .aO,x::r=>zV .aO x r| .aJ,x::r=>zV .aJ x r|_,_=> .aa
def zH:(d:List Ty)->List bQ->RM (ax d)
 | [.aH e],[.v (.dj id ver)]=> .dS id λ
  |some (cv,.c8 c l)=>bif eb cv ver then(match gN (t:= .aH c) (t':= .aH e) l with|some x=> .aA x|none=> .aa)else .aa|_=> .aa
 | [.aH e],[.v .js]=> .aA ([]:List e.b)| [.aF a b],[.ju l]=>(vt (.aF a b) l).aB λ x=>match x.2 with| []=>bif DZ x.1.2 then .aA x.1.1 else .aa|_=> .aa
 |_,_=> .aa
def xj(E:aq)(fresh:Bool)(b:List ResultVar)(a:List Ty):Exit->au->Option (ax a)| .normal,st| .ret,st=>bif fresh then((po E b).aB λ l=>zH a l).jT st some else((po E b).aB λ l=>rl E a l).jT st λ x=>some x.1|_,_=>none
def pA:List aU->List aU| []=> []| .aE t d::r=> .gB t d::pA r|a::r=>a::pA r
def yA(n:Nat):List aU->List (Nat×fX)| []=> []|a::r=>(n,⟨[],true,.v a⟩)::yA (n+1) r
def uN(N:Nat)(ins caps:List Ty)(x:ax ins)(y:ax caps):au:={N,d:= [],a:=yA 0 (mh ins x++pA (mh caps y)),b:= [],c:= []}
end
section
variable{w w' w1 w2:World}{c:Value}{st:au}{a:Act}
class Dr where
 b:Bool
variable[Dr]
theorem gF(a b:Nat):eb a b=decide (a=b):=by grind[Nat.beq_eq]
namespace Map
variable{α β:Type}
theorem lq(m)(k)(v:α)(k'):av (jw m k v) k'=if k=k' then some v else av m k':=by induction m with|nil=>grind[jw,av,gF]|cons p r a=>grind[jw,gF,av,decide_false]
theorem Fy(f:α->β)(m)(k):av (m.map λ p=>(p.1,f p.2)) k=(av m k).map f:=by induction m with|nil=>rfl|cons p r a=>grind[av,eb]
theorem afw(f:Nat->Bool)(m:List (Nat×α))(k):av (m.filter λ p=>f p.1) k=if f k then av m k else none:=by induction m with|nil=>simp[av]|cons p r a=>grind[av,gF]
end Map
def Ty.d(t:Ty)(vs:List ea):=if t.c then .agg vs.toArray else vs.headD undef
def aS(l:List ea)(off n:Nat):=(l.drop off).take n
structure eW(w w':dr):Prop where
 d:w'.output=w.output
 e:Dr.b=true->w.drawn<=w'.drawn
theorem eW.b(a:eW w1 w2)(h:eW w w1):eW w w2:= ⟨a.d.trans h.d,λ d=>hg (h.e d) (a.e d)⟩
theorem eW.f(w):eW w w.drew:= ⟨rfl,by simp_all⟩
structure cm(w w':dr):Prop where
 m:w'.os=w.os
 i:w'.tape=w.tape
 g:eW w w'
 f:w.heap.size<=w'.heap.size
 e:∀b,b<w.heap.size->w'.heap[b]?=w.heap[b]?
theorem cm.h(w):cm w w:= ⟨rfl,rfl,⟨rfl,by omega⟩,fx _,λ _ _=>rfl⟩
theorem cm.l(h:cm w w1)(a:cm w1 w2):cm w w2:= ⟨a.m.trans h.m,a.i.trans h.i,a.g.b h.g,hg h.f a.f,λ b c=>(a.e b (hG c h.f)).trans (h.e b c)⟩
theorem cm.d(w)(o):cm w (w.alloc o):= ⟨rfl,rfl,⟨rfl,by simp_all⟩,by simp,vL w o⟩
theorem cm.k(w):cm w w.drew:= ⟨rfl,rfl,.f _,fx _,λ _ _=>rfl⟩
structure fN(ok:Nat->Prop)(w w':dr):Prop where
 e:w.heap.size<=w'.heap.size
 d:∀b,ok b->b<w.heap.size->w'.heap[b]?=w.heap[b]?
theorem cm.j(h:cm w w')(ok):fN ok w w':= ⟨h.f,λ b _ a=>h.e b a⟩
def cM(w:dr)(ok ok':Nat->Prop):=∀b,ok b->b<w.heap.size->ok' b
theorem cM.d(w)(ok):cM w ok ok:=λ _ h _=>h
theorem fN.f{ok ok'}(h:fN ok w w1)(c:fN ok' w1 w2)(e:cM w ok ok'):fN ok w w2:= ⟨hg h.e c.e,λ b d a=>(c.d b (e b d a) (hG a h.e)).trans (h.d b d a)⟩
theorem cM.b{ok ok1 a}(f:w.heap.size<=w1.heap.size)(h:cM w ok ok1)(c:cM w1 ok1 a):cM w ok a:=λ b d e=>c b (h b d e) (by omega)
def lE(P:ee)(f:Nat):=∃fn,P.funcs[f]?=some fn/\(fn.name== "runtime.NumGoroutine")=false/\fn.body.isNone=false
def ft(ok:Nat->Prop)(w:dr)(b:Nat):=ok b\/w.heap.size<=b
structure wm(A S:Nat->Prop)(w:dr)(A' a:Nat->Prop)(w':dr):Prop where
 l:w'.os=w.os
 g:w'.tape=w.tape
 e:eW w w'
 f:w.heap.size<=w'.heap.size
 d:∀b,b<w.heap.size->¬S b->w'.heap[b]?=w.heap[b]?
 m:∀b,A b->A' b
 j:∀b,A' b->A b\/w.heap.size<=b
 i:∀b,A' b->b<w'.heap.size
 k:∀b,a b->S b\/w.heap.size<=b
 h:∀b,a b->A' b
structure Le(K:Nat->Prop)(w w':dr):Prop where
 h:w'.os=w.os
 g:w'.tape=w.tape
 f:eW w w'
 d:w.heap.size<=w'.heap.size
 e:∀b,b<w.heap.size->K b->w'.heap[b]?=w.heap[b]?
def ET{α:Type}(P:ee)(AR:dr->(Nat->Prop)->Array ea->α->Prop)(g:FuncId)(h:Array ea)(A0:Nat->Prop)(w:dr)(ok:Nat->Prop)(xs:List α):=∀l(J:Nat->(Nat->Prop)->(Nat->Prop)->dr->Prop)(d:(Nat->Prop)->(Nat->Prop)->dr->Prop),(∀k A S W A' c a,J k A S W->wm A S W A' c a->J k A' c a)->(∀A S W A' c a,d A S W->wm A S W A' c a->d A' c a)->(∀k x A S W f,J k A S W->xs[k]?=some x->AR W (λ b=>(ok b/\b<w.heap.size)\/(A b/\¬S b)) f x->YieldAt Go.Fence.wide 5 P l f W λ e a=>Le (λ b=>(ok b/\b<w.heap.size)\/A b) W a/\((e= .returned (.bool true)/\J (k+1) A S a)\/(e= .returned (.bool false)/\d A S a)))->J 0 A0 A0 w->mZ P g (#[.func (.yield l) #[] #[]]++h) w λ e a=>(∃v,e= .returned v)/\((∃A S,J xs.length A S a)\/(∃A S,d A S a))
def alh(P:ee)(t f:Nat):=∀v w,(method (P.types.size+Go.Made.depth) t v afJ).run P w= .ok (f,v) w
def anJ(P:ee)(t:Nat):=∀u w,(Go.Instr.makeInterface t u).run P w= .ok (.iface t u) w
def o5(P:ee)(a:Ty)(vs:List ea)(fid:Nat)(first cap:Array ea):Prop:=match a with| .ec _=>∃t u,vs= [.iface t u]/\first= #[u]/\cap= #[]/\alh P t fid|_=>vs= [.func (.func fid) first cap]
theorem o5.one{P a vs fid first cap}(h:o5 P a vs fid first cap):∃v,vs= [v]/\(∀cs,v≠ .agg cs)/\∀cs,v≠ .tuple cs:=by unfold o5 at h;split at h;have⟨t,u,h,_⟩:=h;exact⟨_,h,by simp,by simp⟩;exact⟨_,h,by simp,by simp⟩
theorem o5.fn{P a vs fid first cap}(b:o8 a=false):o5 P a vs fid first cap↔vs= [.func (.func fid) first cap]:=by cases a<;>first|exact bl|cases b
def u8T:Ty->Bool| .ay .u8=>true|_=>false
def x4(es:Array mo)(n:Nat):=(es.toList.map (·.born)).Nodup/\∀x∈es.toList,x.born<n
def aw(P:ee):(t:Ty)->dr->(Nat->Prop)->List ea->t.b->Prop
 | .ay k,_,_,vs,n=>vs= [.int k n]| .aO,_,_,vs,b=>vs= [.bool b]| .aJ,_,_,vs,s=>vs= [.string ⟨⟨s⟩⟩]| .aH e,w,ok,vs,l=>∃a cap,vs= [.slice a l.length cap]/\l.length<=cap/\(cap=0\/∃b off cs T fr,a=some ⟨b,off,none⟩/\ok b/\w.heap[b]?=some (.cells cs T fr)/\off+cap*e.a<=cs.size/\(u8T e=true\/cap<=mx)/\∀i x,l[i]?=some x->aw P e w ok (aS cs.toList (off+i*e.a) e.a) x)| .aF a b,w,ok,vs,(x,y)=>aw P a w ok (vs.take a.a) x/\aw P b w ok (vs.drop a.a) y| .dP a r,w,ok,vs,f=>∃fid first cap,o5 P a vs fid first cap/\lE P fid/\∀w' ok',fN ok w w'->cM w ok ok'->∀xs x,aw P a w' ok' xs x->∀y,f x=some y->mZ P fid (first++ #[a.d xs]++cap) w' λ e j=>∃ys,e= .returned (r.d ys)/\cm w' j/\aw P r j (ft ok' w') ys y| .dX a b,w,ok,vs,xs=>∃g h,vs= [.func (.func g) #[] h]/\lE P g/\∀w' ok',fN ok w w'->cM w ok ok'->ET P (λ W o m x=>∃cs c,m= #[a.d cs,b.d c]/\aw P a W o cs x.1/\aw P b W o c x.2) g h (λ _=>False) w' ok' xs| .cO k v,w,ok,vs,l=>∃b es clock,vs= [.map (some b)]/\ok b/\w.heap[b]?=some (.map es clock)/\x4 es clock/\es.size=l.length/\∀(i:Nat) x e,l[i]?=some x->es[i]?=some e->(∃ks,e.key=k.d ks/\aw P k w ok ks x.1)/\∃us,e.val=v.d us/\aw P v w ok us x.2| .ec e,w,ok,vs,d=>(d=none/\vs= [.pointer none])\/∃x,d=some x/\∃b off cs T fr,vs= [.pointer (some ⟨b,off,none⟩)]/\ok b/\w.heap[b]?=some (.cells cs T fr)/\off+e.a<=cs.size/\aw P e w ok (aS cs.toList off e.a) x
variable{P:Program}
theorem aw.b:(t:Ty)->{w w':dr}->{ok ok':Nat->Prop}->{vs:List ea}->{d:t.b}->fN ok w w'->cM w ok ok'->aw P t w ok vs d->aw P t w' ok' vs d| .ay _,_,_,_,_,_,_,_,_,h=>h| .aO,_,_,_,_,_,_,_,_,h=>h| .aJ,_,_,_,_,_,_,_,_,h=>h| .aH e,w,w',ok,ok',vs,l,j,c,h=>by have⟨a,cap,o,n,m⟩:=h;refine⟨a,_,o,n,?_⟩;obtain m| ⟨b,off,cs,T,fr,q,p,K,F,H,G⟩:=m;grind;refine .inr ⟨b,_,_,T,fr,q,c b p (by grind),?_,F,H,λ i x u=>aw.b e j c (G i x u)⟩;rw[j.d b p (by grind)];omega| .aF a b,w,w',ok,ok',vs,(x,y),j,c,h=> ⟨aw.b a j c h.1,aw.b b j c h.2⟩| .dP a r,w,w',ok,ok',vs,f,j,c,h=>by have⟨fid,first,cap,o,n,m⟩:=h;exact⟨_,_,_,o,n,λ w2 J A z=>m _ _ (j.f A c) (c.b j.e z)⟩| .dX a b,w,w',ok,ok',vs,xs,j,c,h=>by have⟨g,L,o,n,m⟩:=h;exact⟨g,_,o,n,λ w2 J A z=>m _ _ (j.f A c) (c.b j.e z)⟩| .cO k v,w,w',ok,ok',vs,l,j,c,h=>by have⟨b,es,clock,o,n,m,h0,q,p⟩:=h;have s:=(ew.1 m).1;refine⟨b,es,clock,o,c b n s,(j.d b n s).trans m,h0,q,λ i x e u I=>?_⟩;have⟨⟨ks,B,C⟩,us,D,E⟩:=p i x e u I;exact⟨⟨_,B,aw.b k j c C⟩,_,D,aw.b v j c E⟩| .ec e,w,w',ok,ok',vs,d,j,c,h=>by obtain h| ⟨x,h0,b,off,cs,T,fr,o,n,m,q,p⟩:=h;exact .inl h;have s:=(ew.1 m).1;exact .inr ⟨x,h0,b,_,_,T,_,o,c b n s,(j.d b n s).trans m,q,aw.b e j c p⟩
theorem uI{t:Ty}(hp:t.c=false):t.a=1:=by cases t<;>first|rfl|cases hp
theorem aw.d:(t:Ty)->{w:dr}->{ok:Nat->Prop}->{vs:List ea}->{d:t.b}->aw P t w ok vs d->vs.length=t.a| .ay _,_,_,_,_,h=>by simp[aw]at h;subst h;rfl| .aO,_,_,_,_,h=>by simp[aw]at h;subst h;rfl| .aJ,_,_,_,_,h=>by simp[aw]at h;subst h;rfl| .aH e,_,_,_,_,h=>by have⟨a,cap,c,_⟩:=h;subst c;rfl| .dP a r,_,_,_,_,h=>by have⟨fid,first,cap,c,_⟩:=h;obtain⟨v,rfl,_⟩:=c.one;rfl| .dX _ _,_,_,_,_,h=>by have⟨fid,cap,c,_⟩:=h;subst c;rfl| .cO _ _,_,_,_,_,h=>by have⟨b,es,clock,c,_⟩:=h;subst c;rfl| .ec _,_,_,_,_,h=>by rcases h with⟨_,c⟩| ⟨_,_,b,off,cs,T,fr,c,_⟩<;>(subst c;rfl)| .aF a b,w,ok,vs,(x,y),h=>by have c:=aw.d a h.1;have f:=aw.d b h.2;grind[lv,lA,Ty.a]
theorem aw.e:(t:Ty)->{w w':dr}->{ok ok':Nat->Prop}->{vs:List ea}->{d:t.b}->t.h=true->aw P t w ok vs d->aw P t w' ok' vs d| .ay _,_,_,_,_,_,_,_,h=>h| .aO,_,_,_,_,_,_,_,h=>h| .aJ,_,_,_,_,_,_,_,h=>h| .aH e,_,_,_,_,_,_,c,_=>by trivial| .dP a r,_,_,_,_,_,_,c,_=>by trivial| .dX _ _,_,_,_,_,_,_,c,_=>by trivial| .cO _ _,_,_,_,_,_,_,c,_=>by trivial| .ec _,_,_,_,_,_,_,c,_=>by trivial| .aF a b,_,_,_,_,_,(x,y),c,h=>by simp[Ty.h,hy]at c;exact⟨aw.e a c.1 h.1,aw.e b c.2 h.2⟩
def eY:ea->Bool| .agg _| .tuple _=>false|_=>true
theorem aw.f:(t:Ty)->{w:dr}->{ok:Nat->Prop}->{vs:List ea}->{d:t.b}->aw P t w ok vs d->∀v∈vs,eY v=true
 | .ay _,_,_,_,_,h=>by grind[aw,eY]| .aO,_,_,_,_,h=>by grind[aw,eY]| .aJ,_,_,_,_,h=>by grind[aw,eY]| .aH e,_,_,_,_,h=>by have⟨a,cap,c,_⟩:=h;subst c;simp[eY]| .dP a r,_,_,_,_,h=>by have⟨fid,first,cap,c,_⟩:=h;obtain⟨v,rfl,g,i⟩:=c.one;intro u f;rw[rV.1 f];cases v<;>first|rfl|exact absurd rfl (g _)|exact absurd rfl (i _)
 | .dX _ _,_,_,_,_,h=>by have⟨fid,cap,c,_⟩:=h;subst c;simp[eY]| .cO _ _,_,_,_,_,h=>by have⟨b,es,clock,c,_⟩:=h;subst c;simp[eY]| .ec _,_,_,_,_,h=>by rcases h with⟨_,c⟩| ⟨_,_,b,off,cs,T,fr,c,_⟩<;>(subst c;simp[eY])| .aF a b,w,ok,vs,(x,y),h=>by have c:=aw.f a h.1;have j:=aw.f b h.2;grind[k3]
def oi:ea->Option Nat| .pointer (some a)=>some a.block| .slice (some a) _ _=>some a.block| .map (some b)=>some b|_=>none
abbrev dB(c:ea)(b:Nat):=oi c=some b
theorem HE{b}(h:oi c=some b):dB c b:=h
structure bf where
 m:Nat->Option (Nat×ea×Bool)
 B:Nat->Prop
 b:Nat
instance:CoeFun bf λ _=>Nat->Option (Nat×ea×Bool):= ⟨bf.m⟩
structure bC where
 w:dr
 B:Nat->Prop
 M:Nat->Prop
 f:List Deferred
 b:Array ea
 e:Nat
 d:Nat
structure vQ(s:bC)(w:dr):Prop where
 i:w.os=s.w.os
 g:w.tape=s.w.tape
 f:eW s.w w
 d:s.w.heap.size<=w.heap.size
 e:∀b,b<s.w.heap.size->¬s.M b->w.heap[b]?=s.w.heap[b]?
theorem vQ.h{s}(h:vQ s w)(a:cm w w'):vQ s w':= ⟨a.m.trans h.i,a.i.trans h.g,a.g.b h.f,hg h.d a.f,λ b c d=>(a.e b (hG c h.d)).trans (h.e b c d)⟩
structure sQ(s:bC):Prop where
 i:∀b,s.w.heap.size<=b->s.B b
 e:∀b,s.M b->s.B b
 f:∀d∈s.f,∃D,d={target:= .collected D,args:= #[]}/\s.w.heap[D]?=some (.deferred (some []))/\¬s.B D/\s.d<=D
 h:s.f.Nodup
 g:s.d<=s.w.heap.size
abbrev Nm(conc:bf)(id ver:Nat)(v:ea)(Q:ea->Prop):=∃cv c a,conc id=some (cv,c,a)/\ver<=cv/\eY v=true/\(ver=cv->Q c)
def bN(P:ee)(w:dr)(conc:bf)(ok:Nat->Prop):aU->ea->Prop| .aE t d,v=>∃vs,v=t.d vs/\aw P t w ok vs d| .js,v=>v= .slice none 0 0| .dx id ver off,v=>Nm conc id ver v λ c=>∃b,c= .pointer (some ⟨b,0,none⟩)/\v= .pointer (some ⟨b,off,none⟩)| .gB t d,v=>∃b off cs T fr,v= .pointer (some ⟨b,off,none⟩)/\ok b/\w.heap[b]?=some (.cells cs T fr)/\off+t.a<=cs.size/\aw P t w ok (aS cs.toList off t.a) d| .rD id ver e i,v=>Nm conc id ver v λ c=>∃b off n cap,c= .slice (some ⟨b,off,none⟩) n cap/\0<=i/\v= .pointer (some ⟨b,off+i.toNat*e.a,none⟩)| .dj id ver,v=>Nm conc id ver v λ c=>v=c| .rN f,v=>v= .func (.func f) #[] #[]| .AN,v=>v= .pointer none| .sd id ver off k n i,v=>Nm conc id ver v λ c=>∃b,c= .pointer (some ⟨b,0,none⟩)/\0<=i/\i< (n:Int)/\v= .pointer (some ⟨b,off+i.toNat,none⟩)| .Dq id ver off k n m,v=>Nm conc id ver v λ c=>∃b,c= .pointer (some ⟨b,0,none⟩)/\0<=m/\m<=(n:Int)/\v= .slice (some ⟨b,off,none⟩) m.toNat n| .nX,_=>True| .ku,v=>v= .func (.yield conc.b) #[] #[]| .oH f id ver,v=>∃p,v= .func (.func f) #[] #[p]/\Nm conc id ver p λ c=>∃b,c= .pointer (some ⟨b,0,none⟩)/\p= .pointer (some ⟨b,0,none⟩)
def bU{α β:Type}(R:α->β->Prop):List α->List β->Prop| [],[]=>True|a::l,b::m=>R a b/\bU R l m|_,_=>False
def di(P:ee)(w:dr)(conc:bf)(ok:Nat->Prop):bQ->ea->Prop| .v a,v=>bN P w conc ok a v| .ju l,v=>∃vs,v= .agg vs.toArray/\(∀v∈vs,eY v=true)/\bU (bN P w conc ok) l vs| .oF l,v=>∃vs,v= .tuple vs.toArray/\bU (bN P w conc ok) l vs
def eO(a:Array ea)(L:List (Nat×Bool)):=∀p∈L,a[p.1]?=some (.bool p.2)
structure G9(P:ee)(w:dr)(conc:bf)(ok:Nat->Prop)(a:Array ea)(sl:fX)(v:ea):Prop where
 b:eO a sl.L->sl.g=true/\di P w conc ok sl.s v
 d:¬eO a sl.L->v=undef
def fS(P:ee)(w:dr)(conc:bf)(ok:Nat->Prop)(c:ea)(a:Bool):fJ->Prop
 | .eu t l=>a=true/\∃b cs T,c= .pointer (some ⟨b,0,none⟩)/\w.heap[b]?=some (.cells cs T (0,0))/\l.length=t.a/\(∀v∈cs.toList,eY v=true)/\bU (bN P w conc ok) l cs.toList| .c8 e l=>a=true/\((c= .slice none 0 0/\l= [])\/∃b off cap cs T,c= .slice (some ⟨b,off,none⟩) l.length cap/\w.heap[b]?=some (.cells cs T (0,0))/\l.length<=cap/\cap<=mx/\off+cap*e.a<=cs.size/\∀i x,l[i]?=some x->aw P e w ok (aS cs.toList (off+i*e.a) e.a) x)| .uj t d=>a=false/\∃b cs T fr,c= .pointer (some ⟨b,0,none⟩)/\ok b/\w.heap[b]?=some (.cells cs T fr)/\t.a<=cs.size/\aw P t w ok (aS cs.toList 0 t.a) d| .tX e l=>a=false/\aw P (.aH e) w ok [c] l| .kB k v l=>a=true/\∃b es clock,c= .map (some b)/\w.heap[b]?=some (.map es clock)/\x4 es clock/\es.size=l.length/\∀(i:Nat) x e,l[i]?=some x->es[i]?=some e->(∃ks,e.key=k.d ks/\aw P k w ok ks x.1)/\∃us,e.val=v.d us/\aw P v w ok us x.2| .xL k v l=>a=false/\aw P (.cO k v) w ok [c] l| .it k v y l=>a=true/\∃r m es clock g f h,c= .pointer (some ⟨r,0,none⟩)/\w.heap[r]?=some (.mapIter (some m) g f h)/\ok m/\w.heap[m]?=some (.map es clock)/\x4 es g/\g<=h/\g<=clock/\(Go.leftOf es f).size=l.length/\(∀(i:Nat) x e,l[i]?=some x->(Go.leftOf es f)[i]?=some e->(∃ks,e.key=k.d ks/\aw P k w ok ks x.1)/\∃us,e.val=v.d us/\aw P v w ok us x.2)/\∀x,y=some x->h=clock/\∃e∈es.toList,∃j:Array Nat,f=j.push e.born/\(∃ks,e.key=k.d ks/\aw P k w ok ks x.1)/\∃us,e.val=v.d us/\aw P v w ok us x.2
def ae(conc:bf)(b:Nat):=conc.B b/\∀id ver c,conc id=some (ver,c,true)->¬dB c b
structure aD(P:ee)(w0:bC)(conc:bf)(st:au)(a:hU)(w:dr):Prop where
 g:a.defers=w0.f
 n:a.tmps.size=st.N
 m:∀d sl,Map.av st.a d=some sl->∀p∈sl.L,p.1∈st.d
 k:∀d sl,Map.av st.a d=some sl->∃v,a.tmps[d]?=some v/\G9 P w conc (ae conc) a.tmps sl v
 q:∀id ver o,Map.av st.b id=some (ver,o)->∃c z,conc id=some (ver,c,z)/\fS P w conc (ae conc) c z o
 r:∀id,Map.av st.b id=none->conc id=none
 t:∀i j y A c c' b,conc i=some (y,c,true)->conc j=some (A,c',true)->dB c b->dB c' b->i=j
 f:∀i y c b,conc i=some (y,c,true)->dB c b->(w0.w.heap.size<=b\/w0.M b)/\b<w.heap.size
 e:vQ w0 w
 u:conc.B=w0.B
 x:conc.b=w0.e
 h:sQ w0
 l:∀s∈st.c,a.tmps[s]?=w0.b[s]?
theorem aD.F{P w0 conc}(h:aD P w0 conc st a w):∀b,w0.w.heap.size<=b->w0.B b:=h.h.i
theorem aD.z{P w0 conc}(h:aD P w0 conc st a w){i e b}(g:conc i=some (e,c,true))(f:dB c b):w0.B b:=by rcases(h.f i e c b g f).1 with d|d;exact h.h.i b d;exact h.h.e b d
def cT(P:ee)(w0:bC)(st:au)(a:hU)(w:dr):=∃conc,aD P w0 conc st a w
theorem bU.e{α β R S}:{l:List α}->{m:List β}->(∀a b,R a b->S a b)->bU R l m->bU S l m| [],[],_,_=>trivial|_::_,_::_,h,⟨h1,h2⟩=> ⟨h _ _ h1,bU.e h h2⟩| [],_::_,_,h=>h.elim|_::_,[],_,h=>h.elim
theorem bU.b{α β R}:{l:List α}->{m:List β}->bU R l m->l.length=m.length| [],[],_=>rfl|_::l,_::m,⟨_,h2⟩=>by simp[bU.b h2]| [],_::_,h=>h.elim|_::_,[],h=>h.elim
theorem bU.d{α β R}:{l l':List α}->{m m':List β}->bU R l m->bU R l' m'->bU R (l++l') (m++m')| [],_,[],_,_,h=>h|_::_,_,_::_,_,⟨h1,h2⟩,h=> ⟨h1,bU.d h2 h⟩| [],_,_::_,_,h,_=>h.elim|_::_,_,[],_,h,_=>h.elim
theorem bU.g{α β R}:{l:List α}->{m:List β}->(n:Nat)->bU R l m->bU R (l.take n) (m.take n)|_,_,0,_=>by trivial| [],[],_+1,_=>trivial|_::_,_::_,n+1,⟨h1,h2⟩=> ⟨h1,bU.g n h2⟩| [],_::_,_+1,h=>h.elim|_::_,[],_+1,h=>h.elim
theorem bU.f{α β R}:{l:List α}->{m:List β}->(n:Nat)->bU R l m->bU R (l.drop n) (m.drop n)|_,_,0,h=>h| [],[],_+1,_=>trivial|_::_,_::_,n+1,⟨_,h2⟩=>bU.f n h2| [],_::_,_+1,h=>h.elim|_::_,[],_+1,h=>h.elim
theorem bU.h{α β R}:{l:List α}->{m:List β}->(n:Nat)->(a:α)->bU R l m->l[n]?=some a->∃b,m[n]?=some b/\R a b| [],[],_,_,_,h=>by trivial|_::_,b::_,0,a,⟨h1,_⟩,h=>by grind|_::_,_::_,n+1,a,⟨_,h2⟩,h=>by simpa using bU.h n a h2 (by trivial)| [],_::_,_,_,h,_=>h.elim|_::_,[],_,_,h,_=>h.elim
def fU(conc b:bf):=b.b=conc.b/\∀id cv c d,conc id=some (cv,c,d)->∃a c' e,b id=some (a,c',e)/\(cv<a\/(a=cv/\c'=c))
theorem fU.b(conc):fU conc conc:= ⟨rfl,by grind⟩
theorem Nm.b{conc a id ver v Q}(d:fU conc a)(h:Nm conc id ver v Q):Nm a id ver v Q:=by have⟨cv,c,e,b,j,l,k⟩:=h;have⟨f,c',m,g,i⟩:=d.2 id cv c e b;grind
theorem bN.b{conc l ok ok'}(k:fN ok w w')(j:cM w ok ok') (c:fU conc l):(a:aU)->{v:ea}->bN P w conc ok a v->bN P w' l ok' a v| .aE t d,v,⟨vs,g,e⟩=> ⟨vs,g,e.b t k j⟩| .js,v,h=>h| .dx ..,v,h=>Nm.b c h| .gB t d,v,⟨b,off,cs,T,fr,g,e,i,m,n⟩=>⟨b,off,cs,T,fr,g,j b e (ew.1 i).1,(k.d b e (ew.1 i).1).trans i,m,n.b t k j⟩| .rD ..,v,h=>Nm.b c h| .AN,v,h=>h| .sd ..,v,h=>Nm.b c h| .Dq ..,v,h=>Nm.b c h| .dj ..,v,h=>Nm.b c h| .rN f,v,h=>h| .nX,_,_=>trivial| .ku,v,h=>by show v=_;rw[c.1];exact h| .oH ..,v,⟨p,g,e⟩=> ⟨p,g,Nm.b c e⟩
theorem di.b{conc i ok ok'}(g:fN ok w w')(f:cM w ok ok')(e:fU conc i):(s:bQ)->{v:ea}->di P w conc ok s v->di P w' i ok' s v| .v a,v,h=>bN.b g f e a h| .ju l,v,⟨vs,c,h0,d⟩=> ⟨vs,c,h0,d.e λ a b h=>bN.b g f e a h⟩| .oF l,v,⟨vs,c,d⟩=> ⟨vs,c,d.e λ a b h=>bN.b g f e a h⟩
theorem fS.b{conc J ok ok' I}(j:fN ok w w')(g:cM w ok ok') (G:fU conc J) (E:I=true->∀b,dB c b->w'.heap[b]?=w.heap[b]?):(o:fJ)->fS P w conc ok c I o->fS P w' J ok' c I o| .eu t l,⟨h0,b,cs,T,f,q,n,p,s⟩=> ⟨h0,b,cs,T,f,(E h0 b (by rw[f];rfl)).trans q,n,p,s.e λ a b h=>bN.b j g G a h⟩| .c8 e l,⟨h0,.inl h⟩=> ⟨h0,.inl h⟩| .c8 e l,⟨h0,.inr ⟨b,off,cap,cs,T,f,q,n,p,s,F⟩⟩=>⟨h0,.inr ⟨b,off,cap,cs,T,f,(E h0 b (by rw[f];rfl)).trans q,n,p,s,λ i x D=>(F i x D).b e j g⟩⟩| .uj t d,⟨h0,b,cs,T,fr,f,q,n,p,s⟩=>⟨h0,b,cs,T,fr,f,g b q (ew.1 n).1,(j.d b q (ew.1 n).1).trans n,p,s.b t j g⟩| .tX e l,⟨h0,f⟩=> ⟨h0,f.b _ j g⟩| .kB k v l,⟨h0,b,es,clock,f,q,H,n,p⟩=> ⟨h0,b,es,clock,f,(E h0 b (by rw[f];rfl)).trans q,H,n,λ i x e D C=>have⟨⟨ks,u,z⟩,us,A,B⟩:=p i x e D C;⟨⟨_,u,z.b k j g⟩,_,A,B.b v j g⟩⟩| .xL k v l,⟨h0,f⟩=> ⟨h0,f.b _ j g⟩| .it k v y l,⟨h0,r,m,es,clock,S,R,K,f,q,n,p,s,F,M,N,O,L⟩=> ⟨h0,r,m,es,clock,S,R,K,f,(E h0 r (by rw[f];rfl)).trans q,g m n (ew.1 p).1,(j.d m n (ew.1 p).1).trans p,s,F,M,N,λ i x e D C=>by have⟨⟨ks,u,z⟩,us,A,B⟩:=O i x e D C;exact⟨⟨_,u,z.b k j g⟩,_,A,B.b v j g⟩,λ x Q=>have⟨G,e,C,U,H,⟨ks,u,z⟩,us,A,B⟩:=L x Q;⟨G,e,C,U,H,⟨_,u,z.b k j g⟩,_,A,B.b v j g⟩⟩
theorem aD.D{w0 conc}(h:aD P w0 conc st a w)(p:cm w w'):aD P w0 conc st a w' where
 g:=h.g
 n:=h.n
 m:=h.m
 k:=λ d sl C=>have⟨v,s,j⟩:=h.k d sl C;⟨v,s,λ A=> ⟨(j.b A).1,(j.b A).2.b (p.j _) (cM.d _ _) (fU.b _)⟩,j.d⟩
 q:=λ id ver o D=>have⟨c,E,s,j⟩:=h.q id ver o D;⟨c,_,s,j.b (p.j _) (cM.d _ _) (fU.b _) (λ e b y=>by subst e;exact p.e b (h.f _ _ c b s y).2)⟩
 r:=h.r
 t:=h.t
 f:=λ i B c b z y=> ⟨(h.f i B c b z y).1,hG (h.f i B c b z y).2 p.f⟩
 e:=h.e.h p
 u:=h.u
 x:=h.x
 h:=h.h
 l:=h.l
theorem ajj(a:hU)(d)(v)(b:d<a.tmps.size):(a.put (some d) v).tmps[d]?=some v:=by simp[pX,b]
theorem DE(a:hU)(d)(v)(k:Nat)(h:d≠some k):(a.put d v).tmps[k]?=a.tmps[k]?:=by cases d with|none=>rfl|some d=>grind[pX,Array.getElem?_setIfInBounds_ne]
theorem UH(a:hU)(d:Option Nat)(v):(a.put d v).tmps.size=a.tmps.size:=by cases d<;>simp[pX]
variable{d:Nat}{w0:bC}{F:List Nat}{v:Value}{ms:List Nat}
theorem RN{L}(h:∀p∈L,p.1≠d):eO (a.put (some d) v).tmps L↔eO a.tmps L:=by
 constructor;intro b p hp;have:=b p hp
 grind[DE]
 intro b p hp;rw[DE _ _ _ _ (by grind)];exact b p hp
theorem MM{l:List Nat}:l.any (eb d)=false↔d∉l:=by grind[eb,r5,gF]
theorem pa:st.e d=true↔d<st.N/\d∉st.d/\d∉st.c:=by simp only[au.e,hy,n1,MM,and_assoc];simp
theorem aD.K{conc}(h:aD P w0 conc st a w){sl}(z:st.e d=true)(D:∀m∈st.d,m∈ms)(C:∀p∈sl.L,p.1∈ms/\p.1≠d)(A:G9 P w conc (ae conc) a.tmps sl v):aD P w0 conc {N:=st.N,d:=ms,a:=Map.jw st.a d sl,b:=st.b,c:=st.c} (a.put (some d) v) w where
 g:=h.g
 l:=λ s F=>by have⟨_,_,I⟩:=pa.1 z;rw[DE _ _ _ _ (by grind)];exact h.l s F
 n:=by rw[UH];exact h.n
 m:=λ k j i p hp=>by simp[Map.lq]at i;split at i;grind;exact D _ (h.m k _ i p hp)
 k:=λ k j i=>by have⟨H,E,_⟩:=pa.1 z;simp[Map.lq]at i;split at i;rename_i e;subst e;cases i;have o:=RN (a:=a) (v:=v) (L:=sl.L) λ p hp=>(C p hp).2;refine⟨v,ajj a d v (by rw[h.n];omega),λ g=>A.b (o.1 g),λ g=>A.d (by grind)⟩;rename_i e;have⟨u,G,y⟩:=h.k k j i;have o:=RN (a:=a) (v:=v) (L:=j.L) λ p hp B=>E (by have:=h.m k j i p hp;rwa [B]at this);refine⟨u,by grind[DE],λ g=>y.b (o.1 g),λ g=>y.d (by grind)⟩
 q:=h.q
 r:=h.r
 t:=h.t
 f:=h.f
 e:=h.e
 u:=h.u
 x:=h.x
 h:=h.h
theorem aD.E{conc}(h:aD P w0 conc st a w)(c:∀m∈st.d,m∈ms):aD P w0 conc {st with d:=ms} a w where
 g:=h.g
 n:=h.n
 m:=λ k i b p hp=>c _ (h.m k i b p hp)
 k:=h.k
 q:=h.q
 r:=h.r
 t:=h.t
 f:=h.f
 e:=h.e
 u:=h.u
 x:=h.x
 h:=h.h
 l:=h.l
theorem aD.I{w' conc}(h:aD P w0 conc st a w){id ver o}(al:∀cv s V,conc id=some (cv,s,V)->cv<ver\/(ver=cv/\c=s))(ac:w'.os=w.os)(af:w'.tape=w.tape)(ad:eW w w')(T:w.heap.size<=w'.heap.size)(Q:∀b,b<w.heap.size->(∀cv s,conc id=some (cv,s,true)->¬dB s b)->w'.heap[b]?=w.heap[b]?)(J:∀b,dB c b->(w.heap.size<=b\/∃cv s,conc id=some (cv,s,true)/\dB s b)/\b<w'.heap.size)(aj:∀A,fU conc A->A id=some (ver,c,true)->fN (ae conc) w w'->cM w (ae conc) (ae A)->(∀b,w.heap.size<=b->¬dB c b->ae A b)->fS P w' A (ae A) c true o):∃A,aD P w0 A {st with b:=Map.jw st.b id (ver,o)} a w'/\A id=some (ver,c,true)/\fU conc A/\fN (ae conc) w w'/\cM w (ae conc) (ae A):=by
 let A:bf:= ⟨λ j=>if j=id then some (ver,c,true)else conc j,conc.B,conc.b⟩;have F:A id=some (ver,c,true):=by grind
 have C:∀j,j≠id->A j=conc j:=λ j p=>by grind
 have R:fU conc A:=by refine⟨rfl,?_⟩;grind
 have U:fN (ae conc) w w':= ⟨T,λ b y I=>Q b I λ cv s z=>y.2 id cv s z⟩;have S:cM w (ae conc) (ae A):=by
  intro b y I;refine⟨y.1,λ j cv s p E=>?_⟩;by_cases e:j=id;subst e;rw[F]at p;cases p;rcases(J b E).1 with L| ⟨ai,c',L,H⟩
  omega;exact y.2 _ _ _ L H;rw[C j e]at p;exact y.2 j _ _ p E
 have am:∀b,w.heap.size<=b->¬dB c b->ae A b:=by
  intro b y ak;refine⟨by rw[h.u];exact h.F b (hg h.e.d y),λ j cv s p E=>?_⟩;by_cases e:j=id
  grind
  rw[C j e]at p;have:=(h.f j cv s b p E).2;omega
 refine⟨_,?_,F,R,U,S⟩;refine{g:=h.g,n:=h.n,m:=h.m,k:=?_,q:=?_,r:=?_,t:=?_,f:=?_,e:=?_,u:=h.u,x:=h.x,h:=h.h,l:=h.l};intro d sl ab;obtain⟨v,L,H⟩:=h.k d sl ab;exact⟨v,L,⟨λ I=> ⟨(H.b I).1,(H.b I).2.b U S R⟩,H.d⟩⟩;intro j O ag p;simp only[Map.lq]at p;split at p
 grind
 rename_i e;obtain⟨s,V,B,D⟩:=h.q j O ag p;refine⟨s,V,by grind,D.b U S R λ Y b y=>?_⟩;subst Y;refine Q b (h.f j O s b B y).2 λ cv ah z aa=>e ?_;exact h.t _ j _ _ _ _ b z B aa y;intro j p;simp only[Map.lq]at p;split at p;trivial;rename_i e;rw[C j (by omega)];exact h.r j p;intro i j W O ci X b z p M N;by_cases G:i=id;by_cases K:j=id;omega;subst G;rw[F]at z;cases z;rw[C j K]at p;rcases(J b M).1 with g| ⟨cv,s,B,D⟩
 have:=(h.f j O X b p N).2;omega;exact h.t _ _ _ _ _ _ b B p D N;rw[C i G]at z;by_cases K:j=id;subst K;rw[F]at p;cases p;rcases(J b N).1 with g| ⟨cv,s,B,D⟩
 have:=(h.f i W ci b z M).2;omega;exact h.t _ _ _ _ _ _ b z B M D;rw[C j K]at p;exact h.t i j _ _ _ _ b z p M N;intro i W ci b z y;by_cases G:i=id;subst G;rw[F]at z;cases z;refine⟨?_,(J b y).2⟩;rcases(J b y).1 with g| ⟨cv,s,B,D⟩
 exact .inl (hg h.e.d g);exact(h.f _ _ _ _ B D).1;rw[C i G]at z;exact⟨(h.f i _ _ b z y).1,hG (h.f i _ _ b z y).2 T⟩;refine⟨ac.trans h.e.i,af.trans h.e.g,ad.b h.e.f,hg h.e.d T,λ b y Z=>?_⟩;rw[Q b (hG y h.e.d) λ cv s z E=>?_];exact h.e.e b y Z;rcases(h.f _ _ _ _ z E).1 with g|g
 all_goals grind
def bB(conc:bf)(F:List Nat):bf:= ⟨λ id=>match conc id with|some (cv,c,a)=>some (cv,c,a&&!F.contains id)|none=>none,conc.B,conc.b⟩
theorem I1(conc)(F):fU conc (bB conc F):=by refine⟨rfl,?_⟩;grind[id,bB]
theorem sX(w)(conc)(F):cM w (ae conc) (ae (bB conc F)):=by intro b d _;refine⟨d.1,λ id cv c a=>?_⟩;unfold bB at a;cases e:conc id with|none=>grind|some q=>have⟨f,c',g⟩:=q;simp[e]at a;obtain⟨rfl,rfl,rfl,_⟩:=a;exact d.2 id _ _ e
theorem Aq{conc id cv}(h:bB conc F id=some (cv,c,true)):conc id=some (cv,c,true)/\id∉F:=by grind[bB]
theorem mT(conc):bB conc []=conc:=by have⟨m,B,a⟩:=conc;grind[bB,bf.mk.injEq,id]
theorem HX{conc}(h:aD P w0 conc st a w){id cv b}(k:id∈F)(e:conc id=some (cv,c,true))(d:dB c b):ae (bB conc F) b:=by refine⟨by show conc.B b;rw[h.u];exact h.z e d,λ j n m l i=>?_⟩;have⟨f,g⟩:=Aq l;exact g (h.t _ j _ _ _ _ b e f d i▸k)
def aV(W:W):=W.map (·.1)
def da(P:ee)(conc:bf)(st:au)(w:dr)(F:List Nat)(l:W):=∀id cv o,(id,(cv,o))∈l->(∃a,Map.av st.b id=some (cv,a))/\∃c,conc id=some (cv,c,true)/\fS P w (bB conc F) (ae (bB conc F)) c false o
theorem DM(h)(l m):eX h (l++m)=eX (eX h l) m:=by induction l generalizing h with|nil=>rfl|cons p l a=>grind[id,eX]
theorem vy(h)(l)(id):(Map.av (eX h l) id=Map.av h id/\id∉aV l)\/∃o,Map.av (eX h l) id=some o/\(id,o)∈l:=by induction l generalizing h with|nil=>exact .inl ⟨rfl,by simp[aV]⟩|cons p l a=>grind[Map.jw,eX,Map.lq,aV,List.mem_cons_of_mem]
theorem aD.A{w0 w conc st a}(h:aD P w0 conc st a w){l}(G:da P conc st w (aV l) l):aD P w0 (bB conc (aV l)) {st with b:=eX st.b l} a w where
 g:=h.g
 n:=h.n
 m:=h.m
 k:=λ d sl y=>have⟨v,s,p⟩:=h.k d sl y;⟨v,s,λ g=> ⟨(p.b g).1,(p.b g).2.b ⟨fx _,λ _ _ _=>rfl⟩ (sX w _ _) (I1 _ _)⟩,p.d⟩
 q:=λ id ver o z=>by
  rcases vy st.b l id with⟨s,p⟩| ⟨H,s,p⟩;simp only[s]at z;obtain⟨c,J,D,A⟩:=h.q id ver o z;refine⟨c,_,?_,A.b ⟨fx _,λ _ _ _=>rfl⟩ (sX w _ _) (I1 _ _) (λ _ _ _=>rfl)⟩;simp[bB,D,p];simp only[s,Option.some.injEq]at z;subst z;obtain⟨_,c,D,A⟩:=G id ver o p;refine⟨c,_,?_,A⟩
  grind[aV,bB]
 r:=λ id y=>by
  rcases vy st.b l id with⟨s,p⟩| ⟨H,s,p⟩;simp only[s]at y;simp[bB,h.r id y];grind
 t:=λ i j C I ci E b B F=>h.t i j C I ci E b (Aq B).1 (Aq F).1
 f:=λ i C c b B=>h.f i C c b (Aq B).1
 e:=h.e
 u:=h.u
 x:=h.x
 h:=h.h
 l:=h.l
theorem da.e{conc l m}(h:da P conc st w F l)(b:da P conc st w F m):da P conc st w F (l++m):=by intro id cv o a;rcases sv.1 a with a|a;exact h _ _ o a;exact b _ _ o a
theorem da.b{conc}:da P conc st w F []:=λ _ _ _ h=>by trivial
theorem jZ(l m):aV (l++m)=aV l++aV m:=by simp[aV]
namespace RM
variable{α β:Type}
variable{t:Ty}{v:Value}{id cv:Nat}{L:List (Nat×Bool)}{ok:Nat->Prop}{o:fJ}{vs:List Value}{y:β}{b:aU}{c:Value}{F:List Nat}{s:bQ}{x:Operand}{e:Ty}{ow:Bool}{f:Nat}{Q:Value->Prop}{d:t.b}
theorem ai5(m:RM α)(k:α->RM β)(st):(m.aB k).af st=(m.af st).bind λ x=>(k x).af st:=by induction m with|aA b=>rfl|aa=>rfl|nh d f a=>grind[RM.aB,RM.af]|dS id f a=>grind[RM.aB,RM.af]|dG c m f a=>grind[RM.aB,RM.af]
theorem sH{R}(m:RM β)(st)(K:β->Option R):m.jT st K=(m.af st).bind K:=by induction m with|aA b=>rfl|aa=>rfl|nh d f a=>grind[RM.jT,RM.af]|dS id f a=>grind[RM.jT,RM.af]|dG c m f a=>grind[RM.jT,RM.af]
theorem aI{m:RM α}{k st}{y:β}(h:(m.aB k).af st=some y):∃x,m.af st=some x/\(k x).af st=some y:=by rw[ai5]at h;cases a:m.af st with|none=>grind|some x=>grind
theorem iV{a m f st}(h:(RM.dG a m f).af st=some y):∃x,m=some x/\(f x).af st=some y:=by cases m with|none=>cases h|some x=>exact⟨x,rfl,h⟩
theorem Ae{m st}(h:(RM.nS m).af st=some y):m=some y:=by cases m with|none=>cases h|some x=>exact h
end RM
theorem kC{t t':Ty}{d}{x:t'.b}(h:gN d=some x):∃e:t=t',x=e▸d:=by grind[gN]
theorem dE{α b st}{m:RM α}{y}(h:(bif b then m else .aa).af st=some y):b=true/\m.af st=some y:=by cases b with|false=>cases h|true=>trivial
theorem cU{a b:Nat}(h:eb a b=true):a=b:=by simp_all
theorem aev{c a L}(h:Ju a L=true)(f:eO c L):eO c a:=by
 intro p hp;have⟨q,g,b⟩:=r5.1 (List.all_eq_true.1 h p hp);simp only[hy]at b;have e:p.2=q.2:=by grind
 rw[cU b.1,e];exact f q g
theorem M9{w conc ok v a}(h:aU.a v=some a):bN P w conc ok a v:=by unfold aU.a at h;split at h;cases h;exact⟨_,rfl,rfl⟩;cases h;exact⟨_,rfl,rfl⟩;cases h;exact⟨_,rfl,rfl⟩;cases h;rfl;cases h;trivial;cases h;rfl;trivial
theorem Pc{w conc ok}:{vs:List ea}->{l:List aU}->tL vs=some l->bU (bN P w conc ok) l vs| [],l,h=>by cases h;trivial|v::vs,l,h=>by simp[tL]at h;split at h;rename_i a m b c;cases h;exact⟨M9 b,Pc c⟩;trivial
theorem ah6{v a}(h:aU.a v=some a):eY v=true:=by unfold aU.a at h;split at h;rfl;rfl;rfl;rfl;rfl;rfl;cases h
theorem TS:{vs:List ea}->{l:List aU}->tL vs=some l->∀v∈vs,eY v=true| [],l,h=>by simp|v::vs,l,h=>by simp[tL]at h;split at h;rename_i a m c d;cases h;intro u b;rcases tv.1 b with rfl|b;exact ah6 c;exact TS d u b;trivial
theorem afh{w conc ok v s}(h:bQ.b v=some s):di P w conc ok s v:=by
 unfold bQ.b at h;split at h;rename_i cs;cases b:tL cs.toList with
 |none=>grind
 |some l=>
  rw[b]at h;cases h;exact⟨_,by simp,TS b,Pc b⟩
 cases b:aU.a v with
 |none=>rw[b]at h;cases h
 |some a=>rw[b]at h;cases h;exact M9 b
section
variable{w0:bC}{w:World}{conc:bf}{st:au}{a:Act}
theorem jJ(h:aD P w0 conc st a w){L}(k:eO a.tmps L){x s}(b:(rd L x).af st=some s):di P w conc (ae conc) s (a.eval x):=by cases x with
 |tmp t=>simp[rd,RM.af]at b;cases c:Map.av st.a t with|none=>rw[c]at b;cases b|some sl=>
  rw[c]at b;have⟨i,j⟩:=dE b;cases j;have⟨v,d,e⟩:=h.k t sl c;have:a.eval (.tmp t)=v:=by simp[u2,d]
  rw[this];exact(e.b (aev i k)).2
 |const v=>exact afh (RM.Ae b)|func f=>cases b;exact rfl|global g=>trivial
theorem dQ(h:aD P w0 conc st a w){L}(f:eO a.tmps L){x b}(g:(c9 L x).af st=some b):bN P w conc (ae conc) b (a.eval x):=by have⟨s,e,d⟩:=RM.aI g;have:=jJ h f e;cases s with|v c=>cases d;exact this|ju l=>trivial|oF l=>cases d
theorem yZ(h:aD P w0 conc st a w){L}(c:eO a.tmps L):{xs:List eo}->{l:List bQ}->(sb L xs).af st=some l->bU (di P w conc (ae conc)) l (xs.map a.eval)| [],l,b=>by cases b;trivial|x::xs,l,b=>by have⟨s,d,e⟩:=RM.aI b;have⟨m,f,g⟩:=RM.aI e;cases g;exact⟨jJ h c d,yZ h c f⟩
theorem pW(h:aD P w0 conc st a w){id cv o}(b:Map.av st.b id=some (cv,o)):∃c ow,conc id=some (cv,c,ow)/\fS P w conc (ae conc) c ow o:=h.q _ cv o b
def mO(P:ee)(conc:bf)(st:au)(w:dr)(t:Ty)(d:t.b)(vs:List ea)(l:W):=∀F,(∀id∈aV l,id∈F)->da P conc st w F l/\aw P t w (ae (bB conc F)) vs d
theorem aw.g{t d vs}(h:aw P t w (ae conc) vs d)(F):aw P t w (ae (bB conc F)) vs d:=h.b t ⟨fx _,λ _ _ _=>rfl⟩ (sX w conc F)
theorem aw.h{e ok}:aw P (.aH e) w ok [.slice none 0 0] ([]:List e.b):= ⟨_,0,rfl,fx _,.inl rfl⟩
theorem Ya(h:aD P w0 conc st a w){id cv e l c ow}(o:conc id=some (cv,c,ow))(d:fS P w conc (ae conc) c ow (.c8 e l)){F}(n:id∈F):ow=true/\aw P (.aH e) w (ae (bB conc F)) [c] l:=by obtain⟨rfl,d⟩:=d;refine⟨rfl,?_⟩;obtain⟨rfl,rfl⟩| ⟨b,off,cap,cs,T,rfl,f,g,j,k,m⟩:=d;exact aw.h;refine⟨some ⟨b,off,none⟩,cap,rfl,g,.inr ⟨b,off,cs,T,(0,0),rfl,HX h n o rfl,f,k,.inr j,λ i x p=>(m i x p).g F⟩⟩
theorem aha(h:aD P w0 conc st a w){id cv k u l c ow}(q:conc id=some (cv,c,ow))(t:fS P w conc (ae conc) c ow (.kB k u l)) {F} (p:id∈F):ow=true/\aw P (.cO k u) w (ae (bB conc F)) [c] l:=by obtain⟨rfl,b,es,clock,rfl,m,h0,n,o⟩:=t;refine⟨rfl,b,es,clock,rfl,HX h p q rfl,m,h0,n,λ i x e s r=>?_⟩;have⟨⟨ks,d,f⟩,us,g,j⟩:=o i x e s r;exact⟨⟨_,d,f.g F⟩,us,g,j.g F⟩
end
def fe(P:ee)(w:dr)(ok:Nat->Prop):(a:List Ty)->List ea->ax a->Prop| [],vs,_=>vs= []| [t],vs,x=>∃cs,vs= [t.d cs]/\aw P t w ok cs x|t::u::a,vs,(x,y)=>∃cs r,vs=t.d cs::r/\aw P t w ok cs x/\fe P w ok (u::a) r y
def kQ(P:ee)(w:dr)(ok:Nat->Prop)(t:Ty)(v:ea)(d:t.b):=∃b off cs T fr,v= .pointer (some ⟨b,off,none⟩)/\ok b/\w.heap[b]?=some (.cells cs T fr)/\off+t.a<=cs.size/\aw P t w ok (aS cs.toList off t.a) d
def oO(P:ee)(w:dr)(ok:Nat->Prop):(a:List Ty)->List ea->ax a->Prop| [],vs,_=>vs= []| [t],vs,x=>∃v,vs= [v]/\kQ P w ok t v x|t::u::a,vs,(x,y)=>∃v r,vs=v::r/\kQ P w ok t v x/\oO P w ok (u::a) r y
def iL(P:ee)(w:dr)(ok:Nat->Prop):(a:List Ty)->ea->ax a->Prop| [],v,_=>v= .tuple #[]| [t],v,x=>∃cs,v=t.d cs/\aw P t w ok cs x|t::u::a,v,r=>∃vs,v= .tuple vs.toArray/\fe P w ok (t::u::a) vs r
def rj(P:ee)(size:Nat)(w:dr)(ok:Nat->Prop)(e:Ty)(v:ea)(l:List e.b):=(v= .slice none 0 0/\l= [])\/∃b off cap cs T,v= .slice (some ⟨b,off,none⟩) l.length cap/\size<=b/\w.heap[b]?=some (.cells cs T (0,0))/\l.length<=cap/\cap<=mx/\off+cap*e.a<=cs.size/\∀i x,l[i]?=some x->aw P e w (λ a=>ok a/\a≠b) (aS cs.toList (off+i*e.a) e.a) x
def kP(P:ee)(size:Nat)(w:dr)(ok:Nat->Prop):(t:Ty)->List ea->t.b->List Nat->Prop| .aH e,vs,l,c=>(vs= [.slice none 0 0]/\l= []/\c= [])\/∃b off cap cs T,vs= [.slice (some ⟨b,off,none⟩) l.length cap]/\c= [b]/\size<=b/\w.heap[b]?=some (.cells cs T (0,0))/\l.length<=cap/\cap<=mx/\off+cap*e.a<=cs.size/\∀i x,l[i]?=some x->aw P e w ok (aS cs.toList (off+i*e.a) e.a) x| .aF a b,vs,(x,y),c=>∃f g,c=f++g/\kP P size w ok a (vs.take a.a) x f/\kP P size w ok b (vs.drop a.a) y g|t,vs,d,c=>c= []/\aw P t w ok vs d
def yr(P:ee)(size:Nat)(w:dr)(ok:Nat->Prop)(t:Ty)(v:ea)(d:t.b):=∃vs a,v=t.d vs/\(∀v∈vs,eY v=true)/\a.Nodup/\vs.length=t.a/\kP P size w (λ b=>ok b/\b∉a) t vs d a
def kz(P:ee)(size:Nat)(w:dr)(ok:Nat->Prop):(c:List Ty)->ea->ax c->Prop| [.aH e],v,l=>rj P size w ok e v l| [.aF a b],v,x=>yr P size w ok (.aF a b) v x|_,_,_=>True
def jf(P:ee)(f:Nat)(c:fc):=lE P f/\∀w ok vs cs x y r,fe P w ok c.c vs x->oO P w ok c.b cs y->c.g x y=some r->mZ P f (vs++cs).toArray w λ e w'=>∃v,e= .returned v/\cm w w'/\iL P w' (ft ok w) c.a v r/\(c.d=true->kz P w.heap.size w' (ft ok w) c.a v r)
def dM:Ty->List ea| .aF a b=>dM a++dM b| .aH _=> [.slice none 0 0]| .ay k=> [.int k 0]| .aO=> [.bool false]| .aJ=> [.string ⟨⟨[]⟩⟩]| .dP _ _| .dX _ _=> [.nilFunc]| .cO _ _=> [.map none]| .ec _=> [.pointer none]
def jy(P:ee)(T:Nat)(t:Ty):=∃i,P.info? T=some i/\i.size=t.a/\i.bytes<=32768/\i.zero=some (t.d (dM t))/\0<t.a
def nF(k:Ty)(x:k.b):List k.b->List mo->Nat->Option (Nat×ea)|y::ys,e::es,i=>bif k.f y x then some (i,e.val)else nF k x ys es (i+1)|_,_,_=>none
structure Ad(P:ee)(K:Nat)(k:Ty):Prop where
 g:k.i=true
 h:∀(w:dr)ok ks x b,aw P k w ok ks x->(r1 b 10000 K (k.d ks)).run P w= .ok () w
 j:∀(w:dr)ok ks x ys es,aw P k w ok ks x->es.length=ys.length->(∀(i:Nat)y e,ys[i]?=some y->es[i]?=some e->∃us,e.key=k.d us/\aw P k w ok us y)->
  (o0 K (k.d ks) es).run P w= .ok (nF k x ys es 0) w
def pP(P:ee)(T:Nat):=(P.underlying T).map λ| .struct _=>true| .array _ _=>true|_=>false
structure je(P:ee)(T:Nat)(a:eZ):Prop where
 j:jy P T a.a
 g:match a.a with
  | .ay k=>P.underlying T=some (.int k)
  | .aO=>P.underlying T=some .bool
  | .aJ=>P.underlying T=some .string
  | .aH e=>∃b,P.underlying T=some (.slice b)/\jy P b e
  | .aF _ _=>bif a.c then∃n b e,P.underlying T=some (.array n b)/\a.a=Ty.e e n/\a.b=n/\jy P b e else∃fs,P.underlying T=some (.struct fs)/\fs.size=a.b
  | .cO k v=>∃K V,P.underlying T=some (.map K V)/\Ad P K k/\jy P V v
  | .ec e=>∃b,P.underlying T=some (.pointer b)/\(a.b≠1->∃d k,P.underlying b=some (.array a.b d)/\e=Ty.e (.ay k) a.b/\jy P d (.ay k))
  |_=>∃ps l v,P.underlying T=some (.func ps l v)
 h:∀fs,P.underlying T=some (.struct fs)->(∀i f,fs[i]?=some f->jm a.b i a.a=some f.offset/\∃c,P.info? f.type=some c/\c.size≠0)/\
  fs.toList.mapM (λ f=>(P.info? f.type).map λ i=>(f.offset,i.size))=some (oX a.b a.a)
 m:a.c=true->a.a.c=true
 r:∀fs,P.underlying T=some (.struct fs)->∀i f u,fs[i]?=some f->uH a.b i a.a=some u->pP P f.type=some u.c/\∃c,P.info? f.type=some c/\c.size=u.a
 q:a.c=true->∀n b,P.underlying T=some (.array n b)->∀k,a.a=Ty.e (.ay k) n->pP P b=some false
 p:a.a= .aH (.ay .u8)->∃b,P.underlying T=some (.slice b)/\P.underlying b=some (.int .u8)
theorem je.l{P T a}(h:je P T a):0<a.a.a:=have⟨_,_,_,_,_,h⟩:=h.j;h
def yk(P:ee)(f:Nat)(c:vT):=c.b.c=false/\∀w ok cs y xs,oO P w ok c.a cs y->c.c y=some xs->aw P c.b w ok [.func (.func f) #[] cs.toArray] xs
structure aeE(v:ea)(w w':dr):Prop where
 os:w'.os=w.os
 tape:w'.tape=w.tape
 output:eW w w'
 size:w.heap.size<=w'.heap.size
 block:∀b,b<w.heap.size->¬dB v b->w'.heap[b]?=w.heap[b]?
def o7(P:Program)(w:World)(ok:Nat->Prop)(e:Ty)(c:Value)(l:List e.b):Prop:=(c= .slice none 0 0/\l= [])\/∃b off cap cs T,c= .slice (some ⟨b,off,none⟩) l.length cap/\w.heap[b]?=some (.cells cs T (0,0))/\l.length<=cap/\cap<=maxLen/\
 off+cap*e.a<=cs.size/\∀i x,l[i]?=some x->aw P e w ok (aS cs.toList (off+i*e.a) e.a) x
def aaO(P:Program)(f:Nat)(c:u7):Prop:=
 lE P f/\∀(w:World)(ok:Nat->Prop)v vs(l:List c.a.b)y l',o7 P w ok c.a v l->fe P w ok c.ins vs y->(∀b,dB v b->¬ok b)->c.fn l y=some l'->
  Calls P f (v::vs).toArray w λ e w'=>∃r,e= .returned r/\aeE v w w'/\((c.back=true/\o7 P w' (ft ok w) c.a r l'/\∀b,dB r b->dB v b)\/(c.back=false/\r= .tuple #[]/\o7 P w' (ft ok w) c.a v l'))
def adL(P:ee)(w:dr)(ok:Nat->Prop)(t:Ty)(p:ea)(d:t.b):=∃b cs T,p= .pointer (some ⟨b,0,none⟩)/\w.heap[b]?=some (.cells cs T (0,0))/\aw P t w ok cs.toList d
def aiT(P:ee)(f:Nat)(c:o9):=lE P f/\∀w(ok:Nat->Prop)p vs(d:c.t.b)y r,adL P w ok c.t p d->fe P w ok c.ins vs y->(∀b,dB p b->¬ok b)->c.fn d y=some r->mZ P f (vs++ [p]).toArray w λ e w'=>e= .returned (.tuple #[])/\aeE p w w'/\adL P w' (ft ok w) c.t p r
structure al(P:Program)(E:aq):Prop where
 l:∀f c,Map.av E.M f=some c->aaO P f c
 k:∀f c,Map.av E.O f=some c->aiT P f c
 meth:∀t f,Map.av akv t=some f->alh P t f/\anJ P t
 g:∀T e,Map.av E.G T=some e->je P T e
 h:∀f c,Map.av E.C f=some c->jf P f c
 j:∀f c,Map.av E.I f=some c->yk P f c
 i:∀T t,Map.av E.Q T=some t->∀w ok vs a d b r,aw P t w ok vs d->aw P t w ok a b->pI t d b=some r->∀(x y:Operand),
  (do eqGuard .eql T x y (t.d vs) (t.d a);Go.binOp .eql T (t.d vs) (t.d a)).run P w= .ok (.bool r) w/\
  (do eqGuard .neq T x y (t.d vs) (t.d a);Go.binOp .neq T (t.d vs) (t.d a)).run P w= .ok (.bool (!r)) w
section
variable{E:aq}{w0:bC}{w:World}{conc:bf}{st:au}{a:Act}
theorem acD(hE:al P E){f c x r g}(m:Map.av E.C f=some c)(a:c.f x r=some g)(hp:o8 x=false)(ok):aw P (.dP x r) w ok [.func (.func f) #[] #[]] g:=by unfold fc.f at a;split at a;rename_i a' r' fn fr;split at a;rename_i e;obtain⟨rfl,rfl⟩:=e;cases a;have⟨l,n⟩:=hE.h f _ m;refine⟨f,#[],#[],(o5.fn hp).2 rfl,l,λ w' ok' _ _ xs d o y p=>?_⟩;have:=n w' ok' [a'.d xs] [] d () y ⟨xs,rfl,o⟩ rfl p;refine Go.Calls.mono (by simpa using this) ?_;rintro e q⟨v,b,h,i,_⟩;have⟨cs,j,k⟩:=i;exact⟨cs,by rw[b,j],h,k⟩;trivial;trivial
theorem sR(h:aD P w0 conc st a w){id cv o v Q}(e:Map.av st.b id=some (cv,o))(f:Nm conc id cv v Q):∃c ow,conc id=some (cv,c,ow)/\fS P w conc (ae conc) c ow o/\Q c:=by have⟨c,ow,b,d⟩:=pW h e;have⟨i,c',k,k1,j,_,g⟩:=f;rw[b]at k1;cases k1;exact⟨c,ow,b,d,g rfl⟩
theorem iQ{α}(h:aD P w0 conc st a w){id ver cv:Nat}{o v Q}{m:RM α}{y}(d:Map.av st.b id=some (cv,o))(b:(bif eb cv ver then m else .aa).af st=some y)(f:Nm conc id ver v Q):m.af st=some y/\ver=cv/\∃c ow,conc id=some (cv,c,ow)/\fS P w conc (ae conc) c ow o/\Q c:=
 have e:=cU (dE b).1
 ⟨(dE b).2,e.symm,sR h d (e▸f)⟩
theorem da.g{id cv o a c F}(h:Map.av st.b id=some (cv,a))(b:conc id=some (cv,c,true))(e:fS P w (bB conc F) (ae (bB conc F)) c false o):da P conc st w F [(id,(cv,o))]:=by intro i f a d;cases rV.1 d;exact⟨⟨_,h⟩,c,b,e⟩
theorem Ca(hE:al P E)(h:aD P w0 conc st a w){t b v d}(i:(gX E t b).af st=some d)(k:bN P w conc (ae conc) b v):∃vs,v=t.d vs/\mO P conc st w t d.1 vs d.2:=by cases b with
 |aE u x=>
  simp[gX]at i;split at i;rename_i y A;cases i;obtain⟨e,rfl⟩:=kC A;subst e;have⟨vs,s,j⟩:=k;exact⟨vs,s,λ F _=> ⟨da.b,j.g F⟩⟩;cases i|js=>
  simp[gX]at i;split at i;cases i;exact⟨[v],rfl,λ F _=> ⟨da.b,by rw[show v=_ from k];exact aw.h⟩⟩;cases i|dj id ver=>
  simp[gX,RM.af]at i;split at i;all_goals try(cases i;done)
  all_goals
   rename_i p;obtain⟨j,rfl,c,ow,l,m,rfl⟩:=iQ h p i k;split at j;rename_i x z;cases j;obtain⟨e,rfl⟩:=kC z;subst e;refine⟨[v],rfl,λ F q=>?_⟩
   first
   |exact⟨da.b,aw.g m.2 F⟩
   |obtain⟨rfl,r⟩:=Ya h l m (q id (by simp[aV]))
    exact⟨.g p l ⟨rfl,r⟩,r⟩
   |obtain⟨rfl,r⟩:=aha h l m (q id (by simp[aV]))
    exact⟨.g p l ⟨rfl,r⟩,r⟩
   cases j|rN f=>cases t with
  |dP x r=>
   simp[gX]at i;cases n:Map.av E.C f with
   |none=>simp[n]at i;cases i
   |some c=>
    simp[n]at i;cases hp:o8 x with
    |true=>rw[hp]at i;cases i
    |false=>
     rw[hp]at i;cases o:c.f x r with
     |none=>simp[o]at i;cases i
     |some g=>
      simp[o]at i;cases i;exact⟨[v],rfl,λ F _=> ⟨da.b,by rw[show v=_ from k];exact acD hE n o hp _⟩⟩
  |_=>simp[gX]at i;cases i
 |AN=>simp[gX]at i;split at i;cases i;exact⟨[v],rfl,λ F _=> ⟨da.b,.inl ⟨rfl,by rw[show v=_ from k]⟩⟩⟩;cases i|_=>cases i
theorem mO.h{t u x y vs us l m}(h:mO P conc st w t x vs l)(c:mO P conc st w u y us m)(f:vs.length=t.a):mO P conc st w (.aF t u) (x,y) (vs++us) (l++m):=by intro F a;have d:=h F λ id b=>a id (by rw[jZ];exact List.mem_append_left _ b);have e:=c F λ id b=>a id (by grind[jZ,q4]);refine⟨d.1.e e.1,?_⟩;grind[aw,sy,s0]
theorem mO.g{t x vs l}(h:mO P conc st w t x vs l):vs.length=t.a:=(h _ λ _ a=>a).2.d
theorem sP(hE:al P E)(h:aD P w0 conc st a w){t}(o:t.c=false){b l vs d}(m:((gX E t b).aB λ x=> .aA (x,l)).af st=some d)(c:bU (bN P w conc (ae conc)) (b::l) vs)(h1:∀v∈vs,eY v=true)(n:t.a=1):∃us g,vs=us++g/\mO P conc st w t d.1.1 us d.1.2/\bU (bN P w conc (ae conc)) d.2 g:=by have⟨x,j,k⟩:=RM.aI m;cases k;cases vs with|nil=>exact c.elim|cons v vs=>
 have⟨us,i,e⟩:=Ca hE h j c.1;refine⟨[v],_,rfl,?_,c.2⟩;have f:=e.g;rw[n]at f
 match us,f with
 | [u],_=>
  have:v=u:=by rw[i];simp[Ty.d,o]
  rw[this];exact e
theorem CY(hE:al P E)(h:aD P w0 conc st a w):(t:Ty)->{l:List aU}->{vs:List ea}->{d:(t.b×W)×List aU}->(iD E t l).af st=some d->bU (bN P w conc (ae conc)) l vs->(∀v∈vs,eY v=true)->∃us i,vs=us++i/\mO P conc st w t d.1.1 us d.1.2/\bU (bN P w conc (ae conc)) d.2 i| .aF x y,l,vs,d,c,g,f=>by simp[iD]at c;have⟨p,z,A⟩:=RM.aI c;have⟨q,B,C⟩:=RM.aI A;cases C;have⟨us,i,j,m,n⟩:=CY hE h x z g f;have⟨F,ws',o,s,u⟩:=CY hE h y B n λ v D=>f v (by rw[j];exact q4 _ D);exact⟨us++F,ws',by rw[j,o,hJ],m.h s m.g,u⟩| .ay k,b::l,vs,d,c,g,f=>sP hE h rfl (by simpa[iD]using c) g f rfl| .aO,b::l,vs,d,c,g,f=>sP hE h rfl (by simpa[iD]using c) g f rfl| .aJ,b::l,vs,d,c,g,f=>sP hE h rfl (by simpa[iD]using c) g f rfl| .aH e,b::l,vs,d,c,g,f=>sP hE h rfl (by simpa[iD]using c) g f rfl| .dP p r,b::l,vs,d,c,g,f=>sP hE h rfl (by simpa[iD]using c) g f rfl| .dX p q,b::l,vs,d,c,g,f=>sP hE h rfl (by simpa[iD]using c) g f rfl| .cO p q,b::l,vs,d,c,g,f=>sP hE h rfl (by simpa[iD]using c) g f rfl| .ec p,b::l,vs,d,c,g,f=>sP hE h rfl (by simpa[iD]using c) g f rfl| .ay k,[],vs,d,c,g,f=>by simp[iD,RM.af]at c| .aO,[],vs,d,c,g,f=>by simp[iD,RM.af]at c| .aJ,[],vs,d,c,g,f=>by simp[iD,RM.af]at c| .aH e,[],vs,d,c,g,f=>by simp[iD,RM.af]at c| .dP p r,[],vs,d,c,g,f=>by simp[iD,RM.af]at c| .dX p q,[],vs,d,c,g,f=>by simp[iD,RM.af]at c| .cO p q,[],vs,d,c,g,f=>by simp[iD,RM.af]at c| .ec p,[],vs,d,c,g,f=>by simp[iD,RM.af]at c
end
end
section
variable[Dr]
variable{P:Program}{E:aq}{w0:bC}{w:World}{conc:bf}{st:au}{a:Act}
variable{ok:Nat->Prop}{t:Ty}{v:Value}{vs:List Value}{s:bQ}{d:t.b}
theorem nO(hE:al P E)(h:aD P w0 conc st a w){t s v d}(c:(jd E t s).af st=some d)(f:di P w conc (ae conc) s v):∃vs,v=t.d vs/\mO P conc st w t d.1 vs d.2:=by cases s with
 |v b=>exact Ca hE h c f|ju l=>
  simp[jd]at c;have⟨p,q⟩:=dE c;have⟨x,o,e⟩:=RM.aI q;have⟨vs,g,i,j⟩:=f;have⟨us,u,k,m,n⟩:=CY hE h t o j i;split at e;rename_i r;cases e;rw[r]at n;cases u with|nil=>exact⟨us,by rw[g,k,List.append_nil];simp[Ty.d,p],m⟩|cons _ _=>trivial
  trivial|oF l=>trivial
theorem mO.b{x l}(h:mO P conc st w t x vs l):aw P t w (λ _=>True) vs x:=(h _ λ _ a=>a).2.b t ⟨fx _,λ _ _ _=>rfl⟩ λ _ _ _=>trivial
theorem Tv(b:t.c=false)(h:aw P t w ok vs d):bU (bN P w conc ok) [.aE t d] vs:=by
 have a:=h.d;rw[uI b]at a
 match vs,a with| [v],_=>exact⟨⟨_,by simp[Ty.d,b],h⟩,trivial⟩
theorem Al(t){d}(h:aw P t w ok vs d):bU (bN P w conc ok) (tn t d) vs:=by induction t generalizing vs with|aF x y a b=>rw[<-k3 x.a vs];exact(a h.1).d (b h.2)|_=>exact Tv rfl h
theorem Mm(h:aw P t w ok vs d):(t.d vs).cells.toList=vs:=by
 by_cases hp:t.c=true
 grind[Ty.d,pz]
 have a:=h.d;have b:=h.f;simp at hp;rw[uI hp]at a
 match vs,a with
 | [v],_=>
  have c:=b v (by simp);simp only[Ty.d,hp,nL,if_false,vi];cases v<;>first|rfl|cases c
theorem abS(h:eY v=true):v.cells.toList= [v]:=by cases v<;>first|rfl|cases h
def aU.b:aU->Bool| .aE _ _| .nX=>false|_=>true
theorem UA{b}(h:bN P w conc ok b v)(a:b.b=true):eY v=true:=by cases b<;>first| (cases a;done)| (have⟨_,_,_,_,_,h,_⟩:=h;exact h)| (have⟨_,_,_,_,_,h,_⟩:=h;rw[h];rfl)| (have⟨_,h,_⟩:=h;rw[h];rfl)| (rw[show v=_ from h];rfl)
theorem Cg{l}(c:s.a.af st=some l)(e:di P w conc ok s v):∃vs,v.cells.toList=vs/\(∀u∈vs,eY u=true)/\bU (bN P w conc ok) l vs:=by cases s with
 |v b=>
  by_cases g:b.b=true;have i:=UA e g;have:l= [b]:=by
   cases b<;>first| (cases g;done)| (simp only[bQ.a,RM.af]at c;cases c;rfl)
  subst this;exact⟨_,abS i,by grind,e,trivial⟩;cases b with
  |aE t d=>
   cases c;obtain⟨vs,f,a⟩:=e;exact⟨_,by grind[Mm],a.f,Al t a⟩
  |nX=>trivial
  |_=>trivial
 |ju m=>cases c;have⟨vs,f,a,h⟩:=e;exact⟨_,by rw[f];rfl,a,h⟩|oF m=>trivial
variable{T:Nat}{k:IntKind}{op:BinOp}{r:aU}{te:eZ}{l:List Value}{α:Type}
theorem aiE(h:E.b T=some t):∃te,Map.av E.G T=some te/\te.a=t:=by simp_all[aq.b,Map.av]
theorem al.b(hE:al P E)(h:E.b T=some t):∃te,te.a=t/\je P T te:=have⟨te,a,b⟩:=aiE h;⟨_,b,hE.g T _ a⟩
theorem qf(b off n):(⟨b,off,none⟩:Addr).add n= ⟨b,off+n,none⟩:=by grind[Go.Addr.add]
theorem KO(h:je P T te):(hs T).run P w= .ok te.a.a w:=by have⟨i,a,b,_⟩:=h.j;simp_all[hs,hq]
theorem adM(h:je P T te):(isAgg T).run P w= .ok te.a.c w:=by
 have a:=h.g;unfold isAgg;rw[eQ];cases c:te.a<;>rw[c]at a<;>dsimp only at a;case aF=>cases b:te.c<;>rw[b]at a<;>first| (have⟨_,a,_⟩:=a;rw[et a w];rfl)| (have⟨_,_,_,a,_⟩:=a;rw[et a w];rfl)
 all_goals first| (rw[et a w];rfl)| (have⟨_,a,_⟩:=a;rw[et a w];rfl)| (have⟨_,_,a,_⟩:=a;rw[et a w];rfl)| (have⟨_,_,_,a⟩:=a;rw[et a w];rfl)
theorem Nt{off}(h:off<l.length):aS l off 1= [l[off]]:=by grind[aS,nf]
theorem J9{off n}(h:off+n<=l.length):(aS l off n).length=n:=by grind[aS,lv,lA]
theorem Ct{off n j}(h:(aS l off n)[j]?=some v):j<n/\l[off+j]?=some v:=by grind[aS]
theorem acy(h:je P T te){b off cs}{U:Nat}{fr}(c:w.heap[b]?=some (.cells cs U fr)) (f:off+te.a.a<=cs.size):(loadVar T ⟨b,off,none⟩).run P w= .ok (te.a.d (aS cs.toList off te.a.a)) w:=by
 unfold loadVar;rw[eQ,adM h];simp only[fz];by_cases hp:te.a.c=true;rw[if_pos hp,eQ,KO h];have i:(aS cs.toList off te.a.a).length=te.a.a:=J9 (by omega);have:=run_loadCells_list (P:=P) w ⟨b,off,none⟩ (aS cs.toList off te.a.a) λ j v d=>by have⟨a,g⟩:=Ct d;grind[qf,s5]
 simp_all[eQ,Ty.d];have e:te.a.c=false:=by grind
 have a:=uI e;have k:off<cs.size:=by omega
 rw[if_neg hp,run_load,s5 w b _ _ U _ c,a,Nt (by omega)];grind[hY,Ty.d]
theorem cG(t):eO t []:=λ _ h=>by trivial
theorem jN{c}[Decidable c]{m:RM α}{y}(h:(if c then m else .aa).af st=some y):c/\m.af st=some y:=by split at h;all_goals trivial
theorem rU(m)(d:α):bI true m d=m:=rfl
theorem agu(x):(ByteArray.mk ⟨x⟩).toList=x:=ByteArray.toList_mk x
theorem vb{x:Int}(a:v=(Ty.ay k).d vs)(h:aw P (.ay k) w ok vs x):v= .int k x:=by simp[aw]at h;subst h;trivial
theorem Cr{x:List UInt8}(a:v=Ty.aJ.d vs)(h:aw P .aJ w ok vs x):v= .string ⟨⟨x⟩⟩:=by simp[aw]at h;subst h;trivial
theorem tM{x:Bool}(a:v=Ty.aO.d vs)(h:aw P .aO w ok vs x):v= .bool x:=by simp[aw]at h;subst h;trivial
theorem oc(n:Int):bN P w conc ok (.aE (.ay k) n) (.int k n):= ⟨_,rfl,rfl⟩
theorem lR(n:Bool):bN P w conc ok (.aE .aO n) (.bool n):= ⟨_,rfl,rfl⟩
theorem LG(s:List UInt8):bN P w conc ok (.aE .aJ s) (.string ⟨⟨s⟩⟩):= ⟨_,rfl,rfl⟩
theorem afV{x y}(X Y)(a:(G6 true op k x y).af st=some r):∃v,(do gk op T X Y (.int k x) (.int k y);gl op T (.int k x) (.int k y)).run P w= .ok v w/\bN P w conc ok r v:=by
 cases op<;>simp[G6]at a;case quo|rem=>have⟨q,c,b⟩:=RM.iV a;cases b;simp_all[rU,SM,NL,gk,gl,Op.intDiv,oc]
 all_goals cases a
 case and|or|xor|add|sub|mul=>simp_all[gk,gl,Op.intBits,Op.intArith,Qh,Ru,Kt,oc]
 all_goals exact⟨.bool _,by simp only[gk,gl,Op.intCmp,ne_eq,not_true_eq_false,if_false];rfl,lR _⟩
theorem Xv{k' x y}(X Y)(b:(FX true op k x y).af st=some r):∃v,(do gk op T X Y (.int k x) (.int k' y);gl op T (.int k x) (.int k' y)).run P w= .ok v w/\bN P w conc ok r v:=by
 cases op<;>simp[FX]at b;case shl|shr=>have⟨q,a,c⟩:=RM.iV b;cases c;simp only[rU,Rh,PW]at a;split at a;trivial;rename_i d;cases a;exact⟨_,by simp[gk,gl,Op.shift,d],oc _⟩
 all_goals cases b
theorem ach{x y}(X Y)(a:(Ik true op x y).af st=some r):∃v,(do gk op T X Y (.string ⟨⟨x⟩⟩) (.string ⟨⟨y⟩⟩);gl op T (.string ⟨⟨x⟩⟩) (.string ⟨⟨y⟩⟩)).run P w= .ok v w/\bN P w conc ok r v:=by
 cases op<;>simp[Ik]at a;case add=>
  have⟨q,b,c⟩:=RM.iV a;cases c;rw[rU,jk]at b;split at b;rename_i d;unfold iZ at d;refine⟨_,?_,LG _⟩;have g:¬((((⟨⟨x⟩⟩:ByteArray).size+ (⟨⟨y⟩⟩:ByteArray).size:Nat):Int)>IntKind.i64.max):=by
   have e:IntKind.i64.max=9223372036854775807:=by decide
   grind[x3,List.size_toArray]
  have f:(⟨⟨x⟩⟩:ByteArray)++ ⟨⟨y⟩⟩= ⟨⟨x++y⟩⟩:=by
   rfl
  simp_all[gk,gl,s7,if_false];trivial;all_goals first| (cases a;done)|skip
 all_goals cases a;all_goals exact⟨.bool _,by simp only[gk,gl,s7,agu];rfl,lR _⟩
theorem Uh(a:P.underlying T=some .bool)(x y):(pV T (.bool x) (.bool y)).run P w= .ok (x==y) w:=by
 have:∀d,(tw (d+1) T (.bool x) (.bool y)).run P w= .ok (x==y) w:=by simp_all[tw,eQ,et]
 exact this _
theorem KZ(a:P.underlying T=some .bool)(x y)(X Y):(do gk .eql T X Y (.bool x) (.bool y);gl .eql T (.bool x) (.bool y)).run P w= .ok (.bool (x==y)) w/\(do gk .neq T X Y (.bool x) (.bool y);gl .neq T (.bool x) (.bool y)).run P w= .ok (.bool (!(x==y))) w:=by have h:=Uh (w:=w) a x y;constructor;show(pV T _ _>>=λ b=>pure _).run P w=_;simp_all;show(pV T _ _>>=λ b=>pure _).run P w=_;simp_all
theorem Hm(hE:al P E)(h:aD P w0 conc st a w){d:Int×W}(e:(jd E (.ay k) s).af st=some d)(f:di P w conc (ae conc) s v):v= .int k d.1:=have⟨vs,b,c⟩:=nO hE h e f;vb b c.b
theorem Sb(hE:al P E)(h:aD P w0 conc st a w){d:List UInt8×W}(e:(jd E .aJ s).af st=some d)(f:di P w conc (ae conc) s v):v= .string ⟨⟨d.1⟩⟩:=have⟨vs,b,c⟩:=nO hE h e f;Cr b c.b
theorem RL(hE:al P E)(h:aD P w0 conc st a w){op t s s' v v' r}(i:(EB E op t s s').af st=some r) (q:di P w conc (ae conc) s v) (u:di P w conc (ae conc) s' v'):∃vs f d e b,v=t.d vs/\v'=t.d f/\aw P t w (λ _=>True) vs d/\aw P t w (λ _=>True) f e/\pI t d e=some b/\((op= .eql/\r= .aE .aO b)\/(op= .neq/\r= .aE .aO (!b))):=by unfold EB at i;have⟨d,n,o⟩:=RM.aI i;have⟨e,p,c⟩:=RM.aI o;have⟨vs,j,k⟩:=nO hE h n q;have⟨f,l,m⟩:=nO hE h p u;cases g:pI t d.1 e.1 with|none=>simp[g]at c;cases c|some b=>
  simp[g]at c;refine⟨vs,f,_,_,b,j,l,k.b,m.b,g,?_⟩;cases op<;>first| (cases c;done)|skip
  cases c;simp;cases c;simp
theorem ahm(hE:al P E)(h:aD P w0 conc st a w){s' v'}(X Y)(c:(HP E true op T s s').af st=some r) (g:di P w conc (ae conc) s v) (i:di P w conc (ae conc) s' v'):∃u,(do gk op T X Y v v';gl op T v v').run P w= .ok u w/\bN P w conc (ae conc) r u:=by
 unfold HP at c;split at c;cases C:Qc op with|true=>rw[C]at c;have⟨x,f,e⟩:=RM.aI c;split at e;rename_i k' y;have⟨vs,j,k⟩:=i;rw[Hm hE h f g,vb j k];exact Xv X Y e;trivial|false=>rw[C]at c;have⟨x,f,e⟩:=RM.aI c;have⟨y,o,p⟩:=RM.aI e;rw[Hm hE h f g,Hm hE h o i];exact afV X Y p
 have⟨x,f,e⟩:=RM.aI c;have⟨y,o,p⟩:=RM.aI e;rw[Sb hE h f g,Sb hE h o i];exact ach X Y p;rename_i hT;have⟨vs,D,d,A,b,j,k,m,n,l,B⟩:=RL hE h c g i;rw[tM j m,tM k n];have⟨te,F,G⟩:=hE.b hT;have z:=G.g;rw[F]at z;simp[pI,Option.some.injEq]at l;subst l;obtain⟨rfl,rfl⟩| ⟨rfl,rfl⟩:=B;exact⟨_,(KZ z d _ X Y).1,lR _⟩;exact⟨_,(KZ z d _ X Y).2,lR _⟩;cases q:Map.av E.Q T with|none=>simp[q]at c;trivial|some t=>simp[q]at c;have⟨rfl,H⟩:=jN c;have⟨vs,D,d,A,b,j,k,m,n,l,B⟩:=RL hE h H g i;have⟨k1,I⟩:=hE.i T _ q w _ vs D d A b m n l X Y;grind[lR]
 trivial
end
section
variable[Dr]
variable{P:Program}{E:aq}{w0:bC}{w:World}{conc:bf}{st:au}{a:Act}
variable{T:Nat}{v:Value}{te:eZ}{s:bQ}{b:aU}{ok:Nat->Prop}{i:Nat}{n:Int}{k:IntKind}{e:Ty}{m:Nat}{t:Ty}{vs:List Value}{α:Type}{l:List α}{x:e.b}
theorem Mh(hp:0<t.a){l off}(b:(BG t ((l.drop off).take t.a)).af st=some s)(d:bU (bN P w conc ok) l vs)(h1:∀u∈vs,eY u=true):off+t.a<=vs.length/\di P w conc ok s (t.d (aS vs off t.a)):=by
 have a:bU (bN P w conc ok) ((l.drop off).take t.a) (aS vs off t.a):=(d.f off).g t.a;have k:=d.b;unfold BG at b;split at b;rename_i c hp heq;have m:=uI hp;rw[heq]at a;have f:=a.b;simp only[aS,lv,lA,sc,List.length_nil]at f;cases b;refine⟨by omega,?_⟩
 match j:aS _ _ _,a with
 | [v],⟨h,_⟩=>grind[Ty.d,di]
 rename_i l' hp;obtain⟨g,e⟩:=dE b;have:=cU g;rw[lv,lA]at this;cases e;exact⟨by omega,_,by grind[Ty.d,aS],λ u i=>h1 u (List.mem_of_mem_drop (List.mem_of_mem_take i)),a⟩;trivial
theorem HM{i x}(h:aG l i=some x):0<=i/\i.toNat<l.length/\l[i.toNat]?=some x:=by grind[aG,hh]
theorem EI{d}(h:aw P t w ok vs d):di P w conc ok (.v (.aE t d)) (t.d vs):= ⟨_,rfl,h⟩
theorem Fg{l a n b}(h:b+m<=n):aS (aS l a n) b m=aS l (a+b) m:=by grind[aS,s8,tc]
theorem wq:(n:Nat)->(l:List aU)->{vs:List ea}->{z:List Int}->(nU k n l).af st=some z->bU (bN P w conc ok) l vs->vs=z.map (u1 k)/\z.length=n
 |0,[],vs,z,h,a=>by cases h;cases vs with|nil=>trivial|cons _ _=>trivial
 |0,_::_,vs,z,h,a=>by trivial|n+1,[],vs,z,h,a=>by trivial|n+1,x::r,vs,z,h,a=>by cases x with
  |aE t d=>cases t with
   |ay k'=>simp[nU]at h;have⟨j,h⟩:=jN h;have⟨l',g,i⟩:=RM.aI h;cases i;cases vs with|nil=>trivial|cons v vs=>have⟨⟨us,b,c⟩,m⟩:=a;have⟨f,o⟩:=wq n r g m;subst j;refine⟨?_,by grind⟩;rw[b,c,f];rfl
   |_=>trivial
  |_=>trivial
theorem Ly{off n z}(h:i<n)(k:off+n*z<=m):off+i*z+z<=m:=by refine hg ?_ k;rw[u0,<-pS];exact q8 (q7 _ h) _
theorem zb{β i d f}{y:β}(h:(RM.dG α (bI true (aG l i) d) f).af st=some y):∃x,(f x).af st=some y/\0<=i/\i.toNat<l.length/\l[i.toNat]?=some x:=have⟨x,a,b⟩:=RM.iV h;⟨x,b,HM a⟩
theorem aw.j{l:List e.b}(h:aw P (.aH e) w ok [v] l)(c:l[i]?=some x):∃b off cap cs T fr,v= .slice (some ⟨b,off,none⟩) l.length cap/\ok b/\w.heap[b]?=some (.cells cs T fr)/\off+i*e.a+e.a<=cs.size/\aw P e w ok (aS cs.toList (off+i*e.a) e.a) x:=by have⟨a,cap,d,f,g⟩:=h;cases d;have o:=(hh.1 c).1;obtain rfl| ⟨b,off,cs,T,fr,rfl,j,k,m,_,n⟩:=g;omega;exact⟨b,_,_,_,T,_,rfl,j,k,Ly (hG o f) m,n i x c⟩
theorem fS.c{c k l}(h:fS P w conc ok c k (.c8 e l))(a:l[i]?=some x):∃b off cap cs T,c= .slice (some ⟨b,off,none⟩) l.length cap/\w.heap[b]?=some (.cells cs T (0,0))/\off+i*e.a+e.a<=cs.size/\aw P e w ok (aS cs.toList (off+i*e.a) e.a) x:=by have o:=(hh.1 a).1;obtain⟨_,⟨rfl,rfl⟩| ⟨b,off,cap,cs,T,d,f,m,n,g,j⟩⟩:=h;trivial;exact⟨b,_,_,_,T,d,f,Ly (by omega) g,j i x a⟩
theorem Rr(hE:al P E)(h:aD P w0 conc st a w)(hT:E.b T=some t)
 (j:(ug true t b).af st=some s) (C:bN P w conc (ae conc) b v):∃u,(pn T v).run P w= .ok u w/\di P w conc (ae conc) s u:=by
 obtain⟨⟨ty,ai⟩,rfl,L⟩:=hE.b hT;have key:∀{g off:Nat}{cs:Array ea}{U:Nat}{fr:Nat×Nat},w.heap[g]?=some (.cells cs U fr)->off+ty.a<=cs.size->
  (pn T (.pointer (some ⟨g,off,none⟩))).run P w= .ok (ty.d (aS cs.toList off ty.a)) w:=by
  intro g off cs U fr W B;exact acy L W B
 cases b with
 |dx id ver off=>
  simp only[ug,RM.af]at j;split at j
  rename_i m;obtain⟨e,rfl,c,H,G,⟨_,F,cs,U,f,p,r,D,y⟩,g,o,rfl⟩:=iQ h m j C;cases f;have⟨M,N⟩:=Mh L.l e y D
  grind
  rename_i cv u d m;obtain⟨e,rfl,c,H,G,⟨_,F,cs,U,fr,f,p,r,D,y⟩,g,o,rfl⟩:=iQ h m j C;cases f;split at e;rename_i ab;have⟨rfl,rfl⟩:=ab;cases e
  grind[EI]
  obtain⟨M,N⟩:=Mh L.l e (Al u y) y.f;rw[J9 (by grind)]at M;rw[Fg M,Nat.zero_add]at N;exact⟨_,by grind,N⟩
  trivial
 |gB u d=>
  simp only[ug]at j;have⟨rfl,e⟩:=jN j;cases e;obtain⟨g,off,cs,U,fr,rfl,A,O,Q,ag⟩:=C
  grind[EI]
 |rD id ver u i=>
  simp only[ug,RM.af]at j;split at j
  rename_i m;obtain⟨e,rfl,c,H,G,J,g,off,n,cap,o,A,rfl⟩:=iQ h m j C;obtain⟨⟨rfl,rfl⟩,B⟩:=jN e;have⟨x,K,R,S,I⟩:=zb B;cases K;have⟨F,af,V,cs,U,f,p,r,D⟩:=J.c I
  grind[EI]
  rename_i m;obtain⟨e,rfl,c,H,G,J,g,off,n,cap,o,A,rfl⟩:=iQ h m j C;obtain⟨⟨rfl,rfl⟩,B⟩:=jN e;have⟨x,K,R,S,I⟩:=zb B;cases K;obtain⟨F,af,V,cs,U,fr,f,_,p,r,D⟩:=J.2.j I
  grind[EI]
  trivial
 |sd id ver off k n i=>
  simp only[ug,RM.af]at j;have fin:∀{g:Nat}{cs:Array ea}{U:Nat}{fr:Nat×Nat}{l:List aU}{us:List ea},w.heap[g]?=some (.cells cs U fr)->bU (bN P w conc (ae conc)) l us->(∃q,us=cs.toList.take q)->
   (if ty= .ay k then(nU k n ((l.drop off).take n)).aB λ z=> .dG Int (bI true (aG z i) 0) λ x=> .aA (.v (.aE (.ay k) x))else .aa:RM bQ).af st=some s->v= .pointer (some ⟨g,off+i.toNat,none⟩)->
   ∃u,(pn T v).run P w= .ok u w/\di P w conc (ae conc) s u:=by
   intro g cs U fr l us f p ⟨q,r⟩ e ac;obtain⟨rfl,B⟩:=jN e;obtain⟨z,ad,X⟩:=RM.aI B;obtain⟨x,Y,R,S,I⟩:=zb X;cases Y;obtain⟨o,A⟩:=wq n _ ad ((p.f off).g n);have O:((us.drop off).take n)[i.toNat]?=some (.int k x):=by grind
   rw[r]at O;have Q:cs.toList[off+i.toNat]?=some (.int k x):=by grind
   have ah:off+i.toNat<cs.toList.length:=(hh.1 Q).1;have Z:aS cs.toList (off+i.toNat) 1= [.int k x]:=by grind[Nt,hh]
   rw[ac];refine⟨_,key f (by trivial),?_⟩;show di P w _ _ _ (Ty.d _ (aS _ _ 1));rw[Z];exact⟨_,rfl,rfl⟩
  split at j
  rename_i m;obtain⟨e,rfl,c,H,G,⟨_,F,cs,U,f,p,r,D,y⟩,g,o,_,_,A⟩:=iQ h m j C;rw[o]at f;cases f;exact fin p y ⟨cs.toList.length,by grind⟩ e A;rename_i cv u d m;obtain⟨e,rfl,c,H,G,⟨_,F,cs,U,fr,f,p,r,D,y⟩,g,o,_,_,A⟩:=iQ h m j C;rw[o]at f;cases f;exact fin r (Al u y) ⟨u.a,by rfl⟩ e A
  trivial
 |_=>trivial
theorem Hg:(n i:Nat)->(t:Ty)->{d:t.b}->{u:Ty}->{x:u.b}->{vs:List ea}->nJ n i t d=some ⟨u,x⟩->aw P t w ok vs d->∃o,jm n i t=some o/\o+u.a<=t.a/\aw P u w ok (aS vs o u.a) x
 |1,0,t,d,u,x,vs,h,c=>by
  simp[nJ,Option.some.injEq,Sigma.mk.injEq]at h;have⟨rfl,h⟩:=h;cases h;refine⟨0,rfl,by omega,?_⟩;have:=c.d;grind[aS,List.take_of_length_le]|n+2,0,t,d,u,x,vs,h,c=>by
  cases t<;>simp only[nJ]at h<;>first| (cases h;done)|skip
  rename_i a b;simp[Option.some.injEq,Sigma.mk.injEq]at h;have⟨rfl,h⟩:=h;cases h;refine⟨0,rfl,by simp[Ty.a],?_⟩;exact c.1|n+2,i+1,t,d,u,x,vs,h,c=>by
  cases t<;>simp[nJ]at h<;>first| (cases h;done)|skip;rename_i a b;have⟨o,e,f,g⟩:=Hg (n+1) i b h c.2
  grind[jm,Ty.a,aS,tc]|0,i,t,d,u,x,vs,h,c=>by trivial|1,i+1,t,d,u,x,vs,h,c=>by trivial
theorem Jv:∀n i t o,jm n i t=some o->i<n:=by
 intro n
 induction n with|zero=>simp_all[jm]|succ n a=>intro i t o h;cases n with
  |zero=>cases i with|zero=>omega|succ i=>trivial
  |succ n=>cases i with|zero=>omega|succ i=>cases t<;>simp[jm]at h<;>first| (cases h;done)|skip;grind
theorem Iw(e):∀n i,i<n->jm n i (Ty.e e n)=some (i*e.a)|0,i,h=>by omega|1,i,h=>by grind[jm]|n+2,0,_=>by simp[Ty.e,jm]|n+2,i+1,h=>by have:=Iw e (n+1) i (by omega);grind[Ty.e,jm,Option.some.injEq,pS]
theorem ai0(h:je P T te)(l:te.c=false){o}(d:jm te.b i te.a=some o)(hp:te.a.c=true){b off}:(lB T (.pointer (some ⟨b,off,none⟩)) i).run P w= .ok (.pointer (some ⟨b,off+o,none⟩)) w:=by
 have a:=h.g;cases n:te.a<;>rw[n]at hp a<;>first| (cases hp;done)|skip
 dsimp only at a;rw[l]at a;have⟨fs,e,m⟩:=a;have c:i<fs.size:=by rw[m];exact Jv _ _ _ _ d
 have⟨f,p,j,k⟩:=(h.h fs e).1 i fs[i] (hY c);have g:fs[i].offset=o:=by grind
 simp[lB,et e,hY c,r2,fieldPlace,hs,hq,j,k,qf,g]
theorem Qf(h:je P T te)(c:te.c=true){o}(h0:0<=n)(d:jm te.b n.toNat te.a=some o)(k){b off}:(fR T (.pointer (some ⟨b,off,none⟩)) (.int k n)).run P w= .ok (.pointer (some ⟨b,off+o,none⟩)) w:=by have a:=h.g;have hp:=h.m c;cases f:te.a<;>rw[f]at hp a<;>first| (cases hp;done)|skip;rw[c]at a;have⟨m,g,e,s,j,l,i,p,r,_⟩:=a;have q:=Jv _ _ _ _ d;simp_all[Iw,fR,ko,et,r2,hs,hq,qf]
theorem La{X:ea->Sem ea}(k:∀h off o,jm te.b i te.a=some o->(X (.pointer (some ⟨h,off,none⟩))).run P w= .ok (.pointer (some ⟨h,off+o,none⟩)) w)(g:(uQ te i b).af st=some s)(l:bN P w conc (ae conc) b v)(r:aD P w0 conc st a w):∃u,(X v).run P w= .ok u w/\di P w conc (ae conc) s u:=by cases b with
 |dx id ver off=>
  simp[uQ,RM.af]at g;split at g;rename_i cv o z;obtain⟨e,rfl,c,G,q,_,h,C,rfl⟩:=iQ r z g l;split at e;rename_i f A;cases e;exact⟨_,k _ _ _ A,_,_,_,q,fx _,rfl,by grind⟩;trivial;trivial|gB t d=>
  simp[uQ]at g;have⟨y,e⟩:=jN g;split at e;rename_i u x B;cases e;obtain⟨h,off,cs,U,fr,rfl,m,n,D,p⟩:=l;obtain⟨o,j,E,F⟩:=Hg te.b i t B p;rw[<-y]at j;refine⟨_,k _ _ _ j,_,_,_,U,_,rfl,m,n,by omega,?_⟩
  grind[Fg];trivial|_=>trivial
theorem adK(h:je P T te)(d:te.c=false)(hp:te.a.c=true)(f:(uQ te i b).af st=some s)(g:bN P w conc (ae conc) b v)(c:aD P w0 conc st a w):∃u,(lB T v i).run P w= .ok u w/\di P w conc (ae conc) s u:=La (X:=λ v=>lB T v i) (λ _ _ _ e=>ai0 h d e hp) f g c
theorem Yx(h:je P T te)(d:te.c=true)(h0:0<=n)(k)(f:(uQ te n.toNat b).af st=some s)(g:bN P w conc (ae conc) b v)(c:aD P w0 conc st a w):∃u,(fR T v (.int k n)).run P w= .ok u w/\di P w conc (ae conc) s u:=La (X:=λ v=>fR T v _) (λ _ _ _ e=>Qf h d h0 e k) f g c
theorem Hy:(t:Ty)->{k:fb}->{n:Nat}->mM t=some (k,n)->1<=n
 | .ay _,k,n,h=>by cases h;omega| .aF a b,k,n,h=>by
  cases a<;>simp[mM]at h<;>first| (cases h;done)|skip
  grind| .aO,_,_,h| .aJ,_,_,h| .aH _,_,_,h| .dP _ _,_,_,h| .dX _ _,_,_,h| .cO _ _,_,_,h| .ec _,_,_,h=>by cases h
theorem ajg:(m:Nat)->{e:Ty}->{k:fb}->mM (Ty.e e m)=some (k,m)->e= .ay k
 |0,e,k,h=>by have:=Hy _ h;omega|1,e,k,h=>by
  cases e<;>simp[Ty.e,mM]at h<;>first| (cases h;done)|skip
  grind
  rename_i a b;cases a<;>simp only[mM]at h<;>first| (cases h;done)|skip
  cases c:mM b with
  |none=>grind
  |some q=>
   rw[c]at h;obtain⟨_,h⟩:=Option.ite_none_right_eq_some.1 h;have:=Hy b c
   grind
 |m+2,e,k,h=>by simp[Ty.e]at h;cases e<;>simp[mM]at h<;>first| (cases h;done)|skip;grind
theorem D7(h:je P T te)(d:te.d=some (k,m)):te.c=true/\te.b=m/\te.a=Ty.e (.ay k) m/\∃a,P.underlying T=some (.array m a)/\jy P a (.ay k)/\pP P a=some false:=by
 unfold eZ.d at d;split at d;rename_i k' m' b g;have⟨o,d⟩:=(show eb te.b m'=true/\some (k',m')=some (k,m)from by grind);cases d;have q:=Nat.eq_of_beq_eq_true o;have c:=h.g;have hp:=h.m b;cases i:te.a<;>rw[i]at hp c g<;>first| (cases hp;done)|skip;rw[b]at c;have⟨n,a,e,j,f,s,l⟩:=c;have r:n=m:=by omega
 subst r;rw[f]at g;have p:=ajg n g;subst p;exact⟨b,q,i▸f,_,j,l,h.q b n _ j _ (i▸f)⟩;trivial
theorem Zz(h:je P T te)(a:te.d=some (k,m))(d:cQ n m=some ()):0<=n/\n< (m:Int)/\jm te.b n.toNat te.a=some n.toNat:=by have⟨_,b,c,_⟩:=D7 h a;grind[cQ,Iw,Ty.a]
theorem U5(h:je P T te)(i:te.c=true)(k) (d:(G3 true te n b).af st=some s) (j:bN P w conc (ae conc) b v) (g:aD P w0 conc st a w):∃u,(fR T v (.int k n)).run P w= .ok u w/\di P w conc (ae conc) s u:=by unfold G3 at d;split at d;rename_i B m id ver off q;simp[RM.af]at d;split at d;rename_i cv o r;obtain⟨p,rfl,c,C,l,_,y,z,rfl⟩:=iQ g r d j;have⟨u,e,f⟩:=RM.iV p;cases f;have⟨t,A,x⟩:=Zz h q e;exact⟨_,Qf h i t x k,_,_,_,l,fx _,rfl,by grind⟩;trivial;have⟨u,e,f⟩:=RM.iV d;split at e;rename_i h0;exact Yx h i h0 k f j g;trivial
theorem amY{i}(h:je P T te)(j:te.c=true)(k) (c:(akK true te n b i).af st=some s) (p:bN P w conc (ae conc) b v) (E:aD P w0 conc st a w):∃u,(fR T v (.int k n)).run P w= .ok u w/\di P w conc (ae conc) s u:=by
 unfold akK at c;split at c;rename_i t d f m F;obtain⟨rfl,c⟩:=jN c;have⟨z,D,c⟩:=RM.aI c;have⟨x,g,c⟩:=RM.iV c;cases c;have⟨q,K,G⟩:=HM g;obtain⟨r,off,cs,U,fr,rfl,y,A,I,B⟩:=p;have⟨C,J⟩:=wq (conc:=conc) m _ D (Al (conc:=conc) te.a B);have⟨_,_,H⟩:=Zz h F (n:=n) (by unfold cQ;rw[if_pos ⟨q,by omega⟩]);have e:(aS cs.toList off te.a.a)[n.toNat]?=some (.int f x):=by rw[C,n2,G];rfl
 have l:cs.toList[off+n.toNat]?=some (.int f x):=by unfold aS at e;rw[List.getElem?_take]at e;split at e<;>simp_all
 have o:off+n.toNat<cs.toList.length:=(hh.1 l).1;refine⟨_,Qf h j q H k,r,_,cs,U,fr,rfl,y,A,by rw[Array.length_toList]at o;simp[Ty.a];omega,?_⟩;unfold aS;rw[nf o];have:cs.toList[off+n.toNat]=.int f x:=(hh.1 l).2;rw[this];rfl;exact U5 h j k c p E
theorem ML(h:∃a,P.underlying T=some (.slice a)/\∃i,P.info? a=some i/\i.size=e.a){b off len cap}(h0:0<=n)(d:n.toNat<len):(fR T (.slice (some ⟨b,off,none⟩) len cap) (.int k n)).run P w= .ok (.pointer (some ⟨b,off+n.toNat*e.a,none⟩)) w:=by have⟨a,g,i,c,f⟩:=h;simp_all[fR,ko,et,hs,hq,qf]
theorem Bm(hE:al P E)(hT:E.b T=some (.aH e)):∃a,P.underlying T=some (.slice a)/\∃i,P.info? a=some i/\i.size=e.a:=by have⟨te,c,b⟩:=hE.b hT;have:=b.g;rw[c]at this;have⟨a,d,i,f,g,_⟩:=this;grind
theorem afg(hE:al P E)(h:aD P w0 conc st a w){T e}(hT:E.b T=some (.aH e)){k n b v s}(d:(DV true e n b).af st=some s)(g:bN P w conc (ae conc) b v):∃u,(fR T v (.int k n)).run P w= .ok u w/\di P w conc (ae conc) s u:=by
 have B:=Bm hE hT;have fin:∀{l:List e.b},(RM.dG e.b (bI true (aG l n) e.g) λ x=> .aA (.v (.gB e x)):RM bQ).af st=some s->aw P (.aH e) w (ae conc) [v] l->∃u,(fR T v (.int k n)).run P w= .ok u w/\di P w conc (ae conc) s u:=by intro l j g;have⟨x,o,q,r,y⟩:=zb j;cases o;obtain⟨z,off,cap,cs,U,fr,rfl,f⟩:=g.j y;exact⟨_,ML B q r,z,_,cs,U,fr,rfl,f⟩
 cases b with|aE t l=>
  cases t<;>simp[DV]at d<;>first| (cases d;done)|skip
  have⟨rfl,i⟩:=jN d;have⟨vs,C,g⟩:=g;exact fin i (by obtain⟨a,cap,rfl,_⟩:=id g;rw[C];trivial)|dj id ver=>simp[DV,RM.af]at d;split at d;rename_i p;obtain⟨i,rfl,c,D,A,m,rfl⟩:=iQ h p d g;have⟨rfl,j⟩:=jN i;have⟨x,o,q,r,y⟩:=zb j;cases o;obtain⟨z,off,cap,cs,U,rfl,_⟩:=m.c y;exact⟨_,ML B q r,_,_,_,A,fx _,rfl,by grind⟩;rename_i p;obtain⟨i,rfl,c,D,A,m,rfl⟩:=iQ h p d g;have⟨rfl,j⟩:=jN i;exact fin j m.2;trivial|_=>trivial
theorem YM(h:aD P w0 conc st a w){T:Nat}{b v n}(d:(Ef b).af st=some n)(e:bN P w conc (ae conc) b v):∃ad cap,v= .slice ad n cap:=by cases b with
 |aE t l=>
  cases t<;>simp[Ef]at d<;>first| (cases d;done)|skip
  cases d;obtain⟨vs,i,ad,cap,rfl,_⟩:=e;exact⟨_,_,i⟩|js=>cases d;exact⟨_,0,e⟩|dj id ver=>
  simp[Ef,RM.af]at d;split at d
  ·rename_i g;obtain⟨f,rfl,c,m,j,k,rfl⟩:=iQ h g d e;cases f;obtain⟨_,⟨rfl,rfl⟩| ⟨o,off,cap,cs,U,q,_⟩⟩:=k;all_goals grind
  ·rename_i g;obtain⟨f,rfl,c,m,j,⟨_,ad,cap,p,_⟩,rfl⟩:=iQ h g d e;cases f;grind
  trivial|_=>trivial
variable{L:List (Nat×Bool)}
theorem vu(h:aD P w0 conc st a w)(i:eO a.tmps L){x}(d:(tu L x).af st=some n):∃k,a.eval x= .int k n:=by unfold tu at d;have⟨b,g,c⟩:=RM.aI d;split at c;cases c;have⟨vs,e,f⟩:=dQ h i g;exact⟨_,vb e f⟩;trivial
theorem F9{t}(a:(pL b).af st=some t)(e:bN P w conc ok b v):v= .bool t/\b= .aE .aO t:=by unfold pL at a;split at a;cases a;have⟨vs,c,d⟩:=e;exact⟨tM c d,rfl⟩;trivial
def LA(P:ee)(conc:bf)(st:au)(a:hU)(w:dr)(o:fl)(s:bQ):=∃v,(ej a.eval o).run P w= .ok (.value v) w/\di P w conc (ae conc) s v
theorem lJ{o x}(d:ej a.eval o=(do pure (.value (<-x))))(h:∃v,x.run P w= .ok v w/\di P w conc (ae conc) s v):LA P conc st a w o s:=by have⟨v,c,b⟩:=h;refine⟨v,?_,b⟩;simp_all
theorem EY{k}(a:v= .int k n){y:Nat}{c}(h0:0<=n)(h1:n<=(y:Int)):(q9 v y c).run P w= .ok n.toNat w:=by simp_all[q9,ko]
theorem F6(h:aD P w0 conc st a w)(c:eO a.tmps L){d x}(b:(lr L d x).af st=some n):(x=none/\n=d)\/∃y k,x=some y/\a.eval y= .int k n:=by cases x with|none=>cases b;simp|some y=>have⟨k,e⟩:=vu h c b;grind
theorem Dl(h:aD P w0 conc st a w)(d:eO a.tmps L){lo f x y}{n cap:Nat}{b}(i:n<=cap)(h1:(lr L 0 lo).af st=some x)(h2:(lr L (n:Int) f).af st=some y)(h3:0<=x)(h4:x<=y)(h5:y<=(n:Int)):(k6 b n cap (lo.map a.eval) (f.map a.eval) none).run P w= .ok (x.toNat,y.toNat,cap) w:=by
 have j:(y.toNat:Int)=y:=by omega
 rcases F6 h d h1 with⟨rfl,rfl⟩| ⟨l,k,rfl,e⟩;rcases F6 h d h2 with⟨rfl,rfl⟩| ⟨g,k',rfl,c⟩;rfl;simp only[k6,pt,l7];simp[EY c (by omega:(0:Int)<=y) (by omega:y<=(cap:Int))];rcases F6 h d h2 with⟨rfl,rfl⟩| ⟨g,k',rfl,c⟩;simp only[k6,pt,l7];simp[EY e h3 (by omega:x<=(n:Int))];simp only[k6,l7];simp[EY c (by omega:(0:Int)<=y) (by omega:y<=(cap:Int)),EY e h3 (by omega:x<=(y.toNat:Int))]
theorem FO{α l lo a}{z:List α}(h:iB l lo a=some z):0<=lo/\lo<=a/\a<=(l.length:Int)/\z=(l.take a.toNat).drop lo.toNat:=by grind[iB]
theorem Fb(hE:al P E)(hT:E.b T=some t)(f:(∃e,t= .aH e)\/t= .aJ){x lo b c}:(o1 T x lo b c).run P w=(pH T x lo b c).run P w:=by have⟨te,g,d⟩:=hE.b hT;have a:=d.g;unfold o1;obtain⟨e,rfl⟩|rfl:=f;rw[g]at a;have⟨h,i,_⟩:=a;simp_all[eQ,et];simp_all[eQ,et]
theorem agQ(hE:al P E)(h:aD P w0 conc st a w)(p:eO a.tmps L)(hT:E.b T=some t){lo o} (c:(JX L true t lo o b).af st=some s) (r:bN P w conc (ae conc) b v):∃u,(o1 T v (lo.map a.eval) (o.map a.eval) none).run P w= .ok u w/\di P w conc (ae conc) s u:=by cases b with
 |aE u l=>
  cases u<;>simp[JX]at c<;>first| (cases c;done)|skip
  obtain⟨rfl,c⟩:=jN c;have⟨x,f,c⟩:=RM.aI c;have⟨y,g,c⟩:=RM.aI c;have⟨z,j,c⟩:=RM.iV c;cases c;obtain⟨k1,k,m,rfl⟩:=FO j;have⟨vs,d,B⟩:=r;rw[Cr d B,Fb hE hT (.inr rfl)];have⟨te,O,M⟩:=hE.b hT;have J:=M.g;have I:=Dl (P:=P) (w:=w) h p (b:=false) (fx _) f g k1 k m;refine⟨.string ((⟨⟨l⟩⟩:ByteArray).extract x.toNat y.toNat),?_,?_⟩;have Y:(⟨⟨l⟩⟩:ByteArray).size=l.length:=rfl;simp_all[pH,eQ,et,fz,Option.isSome_none,nL,if_false,hR];refine⟨_,?_,rfl⟩;have:(⟨⟨l⟩⟩:ByteArray).extract x.toNat y.toNat= ⟨⟨(l.take y.toNat).drop x.toNat⟩⟩:=by apply ByteArray.ext;grind[ByteArray.data_extract,s8]
  rw[this];rfl;rename_i e;obtain⟨rfl,N⟩:=jN c;have⟨x,f,c⟩:=RM.aI N;have⟨y,g,c⟩:=RM.aI c;have⟨z,j,c⟩:=RM.iV c;cases c;obtain⟨k1,k,m,rfl⟩:=FO j;obtain⟨vs,d,ad,cap,rfl,C,n⟩:=r;have⟨R,Z,i,V,W⟩:=Bm hE hT;rw[d,Fb hE hT (by grind)];have I:=Dl (P:=P) (w:=w) h p (b:=true) C f g k1 k m;have K:((l.take y.toNat).drop x.toNat).length=y.toNat- x.toNat:=by grind
  refine⟨_,?_,[.slice (if cap=x.toNat then ad else ad.map (·.add (x.toNat*e.a))) (y.toNat- x.toNat) (cap- x.toNat)],rfl,?_⟩;simp_all[pH,Ty.d,Ty.c,nL,if_false,vi,eQ,et,fz,hs,hq,hR];rw[<-K];refine⟨_,_,rfl,by omega,?_⟩;by_cases Q:cap- x.toNat=0;exact .inl Q;right;obtain n| ⟨A,off,cs,U,fr,rfl,D,F,G,H,S⟩:=n;omega;refine⟨A,off+x.toNat*e.a,cs,U,fr,?_,D,F,?_,H.imp id λ h=>by omega,λ i q X=>?_⟩;grind[qf];refine hg ?_ G;rw[u0,<-Nat.add_mul];exact q8 (q7 _ (by omega)) _;grind|_=>trivial
theorem Fi(t):(dM t).length=t.a:=by induction t<;>simp_all [dM,Ty.a]
theorem Rb{ok}(t)(a:t.j=true):aw P t w ok (dM t) t.g:=by induction t with|aF x y b c=>grind[Ty.j,dM,Ty.g,aw,sy,Fi,s0]|aH=>exact aw.h|_=>first|rfl|cases a
theorem LB{ok}(t):bU (bN P w conc ok) (rF t) (dM t):=by induction t with|aF x y a b=>exact a.d b|_=>first|exact⟨trivial,trivial⟩|exact⟨rfl,trivial⟩|exact⟨oc _,trivial⟩|exact⟨lR _,trivial⟩|exact⟨LG _,trivial⟩
theorem Gs(t):∀v∈dM t,eY v=true:=by induction t with|aF x y b c=>exact λ v a=>(sv.1 a).elim (b v) (c v)|_=>simp[dM,eY]
theorem Rt(off):(vs:List ea)->(k:Nat)->(cs:Array ea)->off+k+vs.length<=cs.size->((vs.zipIdx k).foldl (λ cs(p:ea×Nat)=>cs.setIfInBounds (off+p.2) p.1) cs).toList=cs.toList.take (off+k)++vs++cs.toList.drop (off+k+vs.length)
 | [],k,cs,h=>by simp|v::vs,k,cs,h=>by
  simp[sc]at h;rw[List.zipIdx_cons,List.foldl_cons,Rt _ _ _ _ (by grind)];have c:off+k<cs.toList.length:=by grind
  have a:(cs.setIfInBounds (off+k) v).toList=cs.toList.set (off+k) v:=by simp
  rw[a,List.take_set,List.drop_set];have b:off+ (k+1)=(off+k)+1:=by omega
  rw[b,if_pos (by omega)];have d:(cs.toList.take (off+k+1)).set (off+k) v=cs.toList.take (off+k)++ [v]:=by
   rw[List.take_succ_eq_append_getElem c,List.set_append_right _ _ (by grind)];have:(off+k)- (cs.toList.take (off+k)).length=0:=by grind
   grind
  grind
theorem KT{place cells i o n rest vs}(hp:place i=some (o,n))(d:v.cells.toList=vs)(a:vs.length=n)(b:o+n<=cells.size):hM place cells ((i,v)::rest)=hM place (cells.toList.take o++vs++cells.toList.drop (o+n)).toArray rest:=by
 have c:v.cells.size=n:=by grind
 rw[hM,hp];dsimp only;rw[if_neg (by grind)]
 congr 1;apply vj;have:=Rt o vs 0 cells (by omega);grind[Array.toList_zipIdx]
theorem bU.c{α β R}{l m:List α}{l' m':List β}(o n)(h:bU R l l')(a:bU R m m'):bU R (l.take o++m++l.drop (o+n)) (l'.take o++m'++l'.drop (o+n)):=((h.g o).d a).d (h.f _)
theorem Qt(h:aD P w0 conc st a w){L}(g:eO a.tmps L){te}:{ps:List (Nat×eo)}->{cells l:List aU}->{cs:Array ea}->(zI L te cells ps).af st=some l->bU (bN P w conc (ae conc)) cells cs.toList->(∀v∈cs.toList,eY v=true)->∃cs',hM (λ i=>(oX te.b te.a)[i]?) cs (ps.map λ p=>(p.1,a.eval p.2))=some cs'/\bU (bN P w conc (ae conc)) l cs'.toList/\(∀v∈cs'.toList,eY v=true)
 | [],cells,l,cs,b,c,f=>by cases b;exact⟨cs,rfl,c,f⟩| (i,x)::ps,cells,l,cs,b,c,f=>by simp only[zI]at b;have⟨s,j,b⟩:=RM.aI b;have⟨m,k,b⟩:=RM.aI b;cases hp:(oX te.b te.a)[i]? with|none=>rw[hp]at b;cases b|some q=>
  have⟨o,n⟩:=q;rw[hp]at b;have⟨e,b⟩:=dE b;simp only[hy]at e;have k1:=cU e.1;have A:o+n<=cells.length:=by simp_all
  have⟨vs,r,t,d⟩:=Cg k (jJ h g j);have u:=c.b;have y:=d.b;have z:vs.length=n:=by omega
  have:=Qt h g (cs:=(cs.toList.take o++vs++cs.toList.drop (o+n)).toArray) b (c.c o n d) (by grind);grind[KT]
theorem Uu(h:je P T te):(mm T).run P w= .ok (te.a.d (dM te.a)) w:=by have⟨i,a,_,_,b,_⟩:=h.j;simp_all[mm,hq]
theorem O4{g g'}(h:∀i p,g i=some p->g' i=some p):∀ps cs cs',hM g cs ps=some cs'->hM g' cs ps=some cs'| [],_,_,a=>a| (i,v)::ps,cs,cs',a=>by unfold hM at a⊢;cases b:g i with|none=>grind|some p=>rw[b]at a;rw[h i p b];dsimp only at a⊢;split at a;trivial;rename_i c;rw[if_neg c];exact O4 h _ _ _ a
theorem TJ(e):∀n i p,(oX n (Ty.e e n))[i]?=some p->p=(i*e.a,e.a)
 |0,i,p,h=>by trivial|1,i,p,h=>by grind[oX,Ty.e]|n+2,0,p,h=>by grind[oX,Ty.e]|n+2,i+1,p,h=>by simp only[Ty.e,oX,List.getElem?_cons_succ,n2,ng]at h;obtain⟨q,a,rfl⟩:=h;rw[TJ e _ i q a,pS,Nat.add_comm]
theorem XM(hE:al P E)(h:aD P w0 conc st a w)(r:eO a.tmps L)(hT:Map.av E.G T=some te)(hp:te.a.c=true) {ps:Array (Nat×eo)} {l} (s:(zI L te (rF te.a) ps.toList).af st=some l):∃v,(Instr.build T (ps.map λ(i,x)=>(i,a.eval x))).run P w= .ok v w/\di P w conc (ae conc) (.ju l) v:=by
 have f:=hE.g T te hT;have⟨i,B,_,_,C,_⟩:=f.j;have b:=f.g;have t:(∃fs,P.underlying T=some (.struct fs))\/∃n c e d,P.underlying T=some (.array n c)/\te.a=Ty.e e n/\te.b=n/\P.info? c=some d/\d.size=e.a:=by cases u:te.a<;>rw[u]at hp b<;>first| (cases hp;done)|skip;cases q:te.c<;>rw[q]at b<;>dsimp only[cond]at b;grind;have⟨n,c,e,g,k1,y,d,z,A,_⟩:=b;grind
 have F:(te.a.d (dM te.a)).cells=(dM te.a).toArray:=by grind[Ty.d,pz]
 have⟨cs',k,m,o⟩:=Qt (cs:=(dM te.a).toArray) h r s (by grind[LB]) (by grind[Gs]);have j:(ps.map λ x=>(x.1,a.eval x.2)).toList=ps.toList.map λ p=>(p.1,a.eval p.2):=by simp
 rw[<-j]at k;refine⟨_,run_build w T _ cs' ?_,_,rfl,o,m⟩;unfold Program.built;obtain⟨fs,g⟩| ⟨n,c,e,d,g,k1,y,z,A⟩:=t;have⟨_,D⟩:=f.h fs g;grind;grind[O4,TJ]
end
section
variable[Dr]
variable{P:Program}{E:aq}{w0:bC}{w:World}{conc:bf}{st:au}{a:Act}
variable{u:Ty}{ok:Nat->Prop}{q:Ty}{es:List MapEntry}{ks:List Value}{b:aU}{v:Value}{T:Nat}{l:List (q.b×u.b)}{n:q.b}
def kA(P:ee)(w:dr)(ok:Nat->Prop)(k v:Ty)(l:List (k.b×v.b))(es:List mo):=es.length=l.length/\∀(i:Nat)x e,l[i]?=some x->es[i]?=some e->(∃ks,e.key=k.d ks/\aw P k w ok ks x.1)/\∃us,e.val=v.d us/\aw P v w ok us x.2
theorem kA.d{k v x l e}(h:kA P w ok k v (x::l) (e::es)):((∃ks,e.key=k.d ks/\aw P k w ok ks x.1)/\∃us,e.val=v.d us/\aw P v w ok us x.2)/\kA P w ok k v l es:= ⟨h.2 0 x e rfl rfl,by simpa using h.1,λ i y f b a=>h.2 (i+1) y f (by grind) (by grind)⟩
theorem Q6{k}(n):(l:List (k.b×u.b))->(es:List mo)->(j:Nat)->kA P w ok k u l es->(nF k n (l.map (·.1)) es j=none/\j4 k.f l n=none/\∀y,lz k.f l n y=l++ [(n,y)])\/∃i e x m,nF k n (l.map (·.1)) es j=some (j+i,e.val)/\es[i]?=some e/\l[i]?=some (m,x)/\k.f m n=true/\j4 k.f l n=some x/\∀y,lz k.f l n y=l.set i (n,y)
 | [],es,j,h=> .inl ⟨by rfl,rfl,λ _=>rfl⟩|p::l,[],j,h=>by have:=h.1;trivial|p::l,e::es,j,h=>by
  have⟨_,o⟩:=h.d;cases g:k.f p.1 n
  ·rcases Q6 n l es (j+1) o with⟨b,c,d⟩| ⟨i,a,x,m,b,c,d,f,q,r⟩
   grind[nF,j4,lz]
   refine .inr ⟨i+1,a,x,m,?_,by trivial,by trivial,f,?_,λ y=>?_⟩
   all_goals grind[nF,j4,lz]
  ·refine .inr ⟨0,e,_,_,?_,rfl,rfl,g,by grind[j4],λ y=>by grind[lz]⟩;grind[nF]
theorem LZ{K k}(hK:Ad P K k){n}(c:aw P k w ok ks n){l}(h:kA P w ok k u l es):((o0 K (k.d ks) es).run P w= .ok none w/\j4 k.f l n=none/\∀y,lz k.f l n y=l++ [(n,y)])\/∃i e x m,(o0 K (k.d ks) es).run P w= .ok (some (i,e.val)) w/\es[i]?=some e/\l[i]?=some (m,x)/\k.f m n=true/\j4 k.f l n=some x/\∀y,lz k.f l n y=l.set i (n,y):=by
 have f:=hK.j w ok ks n (l.map (·.1)) es c (by simp[h.1]) (λ i y e a b=>by rw[n2,ng]at a;obtain⟨x,d,rfl⟩:=a;exact(h.2 i x e d b).1);grind[Q6]
theorem XC(k)(d:k.i=true){vs us x y}(h1:aw P k w ok vs x)(h2:aw P k w ok us y)(c:k.f x y=true):vs=us:=by induction k generalizing vs us with|aF a b e f=>simp[Ty.i,hy]at d;simp[Ty.f,hy]at c;rw[<-k3 _ vs,<-k3 _ us,e d.1 h1.1 h2.1 c.1,f d.2 h1.2 h2.2 c.2]|ay|aO|aJ=>simp[aw]at h1 h2;have:x=y:=eq_of_beq c;grind|_=>trivial
theorem Ey(k:Ty)(h:k.i=true):k.h=true:=by induction k with|aF a b c d=>grind[Ty.i,Ty.h]|_=>first|rfl|cases h
theorem C1{r es clock}(a:w.heap[r]?=some (.map es clock)):(getObj r).run P w= .ok (.map es clock) w:=by simp[getObj,vo,a]
theorem ajd(h:aD P w0 conc st a w)(f:(Bh q u b).af st=some l)(r:bN P w conc (ae conc) b v):∃m es clock,v= .map (some m)/\w.heap[m]?=some (.map es clock)/\kA P w (ae conc) q u l es.toList:=by
 have A:∀{c:ea}{l:List (q.b×u.b)},aw P (.cO q u) w (ae conc) [c] l->∃m es clock,c= .map (some m)/\w.heap[m]?=some (.map es clock)/\kA P w (ae conc) q u l es.toList:=by rintro c l⟨m,es,clock,i,_,j,_,x,y⟩;cases i;exact⟨m,_,_,rfl,j,by omega,by grind⟩
 have cast:∀{t:Ty}{d:t.b},(RM.nS (gN (t:=t) (t':= .cO q u) d)).af st=some l->∃e:t= .cO q u,l=(e▸d:(Ty.cO q u).b):=λ h=>kC (RM.Ae h);cases b<;>simp[Bh]at f<;>try(cases f;done)
 obtain⟨rfl,rfl⟩:=cast f;have⟨vs,i,s⟩:=r;have g:=s.d
 match vs,g with
 | [c],_=>
  have:v=c:=by trivial
  grind
 simp[RM.af]at f;split at f;rename_i p;obtain⟨n,rfl,c,B,z,k,rfl⟩:=iQ h p f r;have⟨o,g⟩:=cast n;cases o;subst g;have⟨_,m,es,clock,i,j,_,x,y⟩:=k;exact⟨m,_,_,i,j,by omega,by grind⟩;rename_i p;obtain⟨n,rfl,c,B,z,k,rfl⟩:=iQ h p f r;have⟨o,g⟩:=cast n;cases o;subst g;exact A k.2;trivial
theorem KH(hE:al P E)(h:aD P w0 conc st a w){L}(g:eO a.tmps L){x}(i:(JM E q L x).af st=some n):∃ks,a.eval x=q.d ks/\∀I,aw P q w (ae (bB conc I)) ks n:=by have⟨s,c,e⟩:=RM.aI i;have⟨d,f,b⟩:=RM.aI e;have⟨us,j,k⟩:=nO hE h f (jJ h g c);split at b;rename_i l;cases b;refine⟨us,j,λ I=>?_⟩;exact(k I (by grind[aV])).2;trivial
theorem Jc(hE:al P E)(hT:E.b T=some (.cO q u)):∃K V,P.underlying T=some (.map K V)/\Ad P K q/\jy P V u:=by have⟨d,c,a⟩:=hE.b hT;have b:=a.g;grind
theorem aba(hE:al P E)(h:aD P w0 conc st a w)(hT:E.b T=some (.cO q u))(F:u.j=true)(A:bN P w conc (ae conc) b v) (C:(Bh q u b).af st=some l) (s:aw P q w (ae conc) ks n) (ok):∃r,(l8 T v (q.d ks) ok).run P w= .ok r w/\di P w conc (ae conc) (DJ u ok (j4 q.f l n)) r:=by
 have⟨K,V,k,o,R,L,M,N,O,Q⟩:=Jc hE hT;obtain⟨m,es,clock,rfl,f,g⟩:=ajd h C A;have fin:∀d us t,aw P u w (ae conc) us d->(j4 q.f l n).getD u.g=d->(j4 q.f l n).isSome=t->di P w conc (ae conc) (DJ u ok (j4 q.f l n)) (if ok then .tuple #[u.d us,.bool t]else u.d us):=by intro d us t y B D;unfold DJ;rw[B,D];cases ok with|true=>exact⟨_,rfl,⟨_,rfl,y⟩,lR (conc:=conc) t,trivial⟩|false=>exact⟨_,rfl,y⟩
 have p:(r1 es.isEmpty 10000 K (q.d ks)).run P w= .ok () w:=o.h w _ ks n _ s;rcases LZ o s g with⟨c,j,_⟩| ⟨i,e,x,m',c,j,z,I,J,_⟩;refine⟨if ok then .tuple #[u.d _,.bool false]else u.d _,?_,fin _ _ _ (Rb u F) (by grind) (by grind)⟩;have G:(mm V).run P w= .ok (u.d (dM u)) w:=by simp_all[mm,hq]
 simp[l8,eQ,et k,fz,C1 f,p,c,G,hR];have⟨_,us,H,S⟩:=g.2 i _ e z j;refine⟨if ok then .tuple #[u.d us,.bool true]else u.d us,?_,by grind⟩;simp[l8,eQ,et k,fz,C1 f,p,c,hR,H]
end
section
variable[Dr]
variable{P:Program}{E:aq}{w0:bC}{w:World}{conc:bf}{st:au}{a:Act}
variable{b:Bool}{L:List (Nat×Bool)}{T:Nat}{s:bQ}{v:Value}{te:eZ}
theorem acO{s:Nat}{b}(h:a.eval (.tmp s)= .bool b):a.tmps[s]?=some (.bool b):=by simp[u2,Array.getD_eq_getD_getElem?]at h;cases c:a.tmps[s]? with|none=>rw[c]at h;cases h|some v=>rw[c]at h;simp at h;rw[h]
theorem Hp{s}(h:a.tmps[s]?=some (.bool b))(c:eO a.tmps L):eO a.tmps ((s,b)::L):=by intro p hp;rcases tv.1 hp with rfl|hp;exact h;exact c p hp
theorem Kf:(n i:Nat)->(t:Ty)->{d:t.b}->{u:Σ u:Ty,u.b}->nJ n i t d=some u->uH n i t=some u.1
 |1,0,t,d,u,h=>by grind[nJ,Option.some.injEq,uH]|n+2,0,t,d,u,h=>by
  cases t<;>simp only[nJ]at h<;>first| (cases h;done)|skip
  simp[Option.some.injEq]at h;subst h;rfl|n+2,i+1,t,d,u,h=>by
  cases t<;>simp[nJ]at h<;>first| (cases h;done)|skip
  exact Kf _ i _ h|0,i,t,d,u,h=>by trivial|1,i+1,t,d,u,h=>by trivial
theorem Pb{T b}(h:pP P T=some b):(isAgg T).run P w= .ok b w:=by unfold pP at h;cases a:P.underlying T with|none=>rw[a]at h;cases h|some c=>rw[a]at h;simp[l7,Option.some.injEq]at h;subst h;unfold isAgg;rw[eQ,et a];cases c<;>rfl
theorem ahJ(h:je P T te){k m}(f:te.d=some (k,m)){l z ok}(g:s.a.af st=some l)(n:(nU k m l).af st=some z)(j:di P w conc ok s v):v= .agg (z.map (u1 k)).toArray/\z.length=m:=by
 have⟨vs,a,o,b⟩:=Cg g j;have⟨c,d⟩:=wq m l n b;have⟨e,_,i,_⟩:=D7 h f;have hp:=h.m e;have p:2<=m:=by
  rw[i]at hp
  match m,hp with|0,hp=>trivial|1,hp=>trivial|m+2,_=>omega
 refine⟨?_,d⟩;rw[<-c];have q:vs.length=m:=by grind
 cases v with|agg cs=>rw[<-a];rfl|_=>grind[pz]
theorem ahW(h:aD P w0 conc st a w){b n}(e:(CA b).af st=some n)(k:bN P w conc (ae conc) b v):∃m es clock,v= .map (some m)/\w.heap[m]?=some (.map es clock)/\es.size=n:=by
 cases b<;>simp[CA]at e<;>try(cases e;done)
 rename_i t d;cases t<;>simp[CA]at e<;>try(cases e;done)
 cases e;obtain⟨vs,f,m,es,clock,rfl,_,g,_,o,_⟩:=k;exact⟨m,_,_,f,g,o⟩;simp[RM.af]at e;split at e;rename_i j;obtain⟨i,rfl,c,q,p,⟨_,m,es,clock,f,l,_,g,_⟩,rfl⟩:=iQ h j e k;cases i;grind;rename_i j;obtain⟨i,rfl,c,q,p,⟨_,m,es,clock,f,_,l,_,g,_⟩,rfl⟩:=iQ h j e k;cases i;grind;trivial
theorem adX(hT:je P T te)(A:te.c=false)(hp:te.a.c=true){i d u}(e:nJ te.b i te.a d=some u){vs}(G:v=te.a.d vs)(m:aw P te.a w (ae conc) vs d):∃y,(tg T v i).run P w= .ok y w/\di P w conc (ae conc) (.v (.aE u.1 u.2)) y:=by
 obtain⟨fs,b,n⟩:∃fs,P.underlying T=some (.struct fs)/\fs.size=te.b:=by have j:=hT.g;cases p:te.a<;>rw[p]at hp j<;>first| (cases hp;done)|skip;grind
 have⟨o,f,z,c⟩:=Hg te.b i te.a (u:=u.1) (x:=u.2) e m;have k:i<fs.size:=by rw[n];exact Jv _ _ _ _ f
 have a:fs[i]?=some fs[i]:=hY k;have⟨r,H,s,t⟩:=(hT.h fs b).1 i fs[i] a;have l:o=fs[i].offset:=by grind
 subst l;refine⟨_,?_,_,rfl,c⟩;have q:v= .agg vs.toArray:=by grind[Ty.d]
 rw[q];have⟨g,I,B,C⟩:=hT.r fs b i fs[i] u.1 a (Kf _ _ _ e);have E:=c.d;have F:(hs fs[i].type).run P w= .ok u.1.a w:=by simp_all[hs,hq]
 have D:(vs.toArray.extract fs[i].offset (fs[i].offset+u.1.a))=(aS vs fs[i].offset u.1.a).toArray:=by grind[vj,aS]
 simp[tg,eQ,et b,fz,a];simp[asAgg,eQ,hR,fz,Go.part,Pb g];grind[eQ,fz,hR,Ty.d,uI,aS,List.getElem?_eq_none_iff,List.drop_eq_nil_of_le,hh,nf]
theorem aht(h:aD P w0 conc st a w)(f:eO a.tmps L){c x y}(d:(FY L c x y).af st=some s):∃v,(do pure (Go.Next.value (if<-asBool (a.eval c)then a.eval x else a.eval y)):Sem Next).run P w= .ok (.value v) w/\di P w conc (ae conc) s v:=by cases c with
 |tmp t=>
  simp[FY]at d;have⟨b,m,k⟩:=RM.aI d;clear d;have⟨l,n,d⟩:=RM.aI k;clear k;have⟨i,rfl⟩:=F9 n (dQ h f m);have j:=acO i;rw[i];refine⟨_,rfl,?_⟩;split at d;have⟨c',k1,d⟩:=RM.aI d;have⟨q,g,d⟩:=RM.aI d;cases d;cases l with|true=>exact lR (conc:=conc) _|false=>have⟨e,_⟩:=F9 g (dQ h (Hp j f) k1);rw[if_neg (by simp),e];exact lR (conc:=conc) q
  have⟨c',k1,d⟩:=RM.aI d;have⟨q,g,d⟩:=RM.aI d;cases d;cases l with|false=>exact lR (conc:=conc) _|true=>have⟨e,_⟩:=F9 g (dQ h (Hp j f) k1);rw[if_pos rfl,e];exact lR (conc:=conc) q
  trivial|_=>trivial
theorem Rm(hE:al P E)(h:aD P w0 conc st a w){L:List (Nat×Bool)}(A:eO a.tmps L){o:fl}{s:bQ}(g:(il E L true o.op).af st=some s):LA P conc st a w o s:=by
 cases j:o.op with
 |move x=>
  rw[j]at g;exact⟨a.eval x,by simp[ej,j],jJ h A g⟩
 |assign x=>
  rw[j]at g;exact⟨a.eval x,by simp[ej,j],jJ h A g⟩
 |binOp b T x y U=>
  rw[j]at g;have⟨ar,p,g⟩:=RM.aI g;have⟨be,C,g⟩:=RM.aI g;have⟨r,J,g⟩:=RM.aI g;cases g;have⟨u,k1,W⟩:=ahm hE h x y J (jJ h A p) (jJ h A C);exact lJ (by simp only[ej,j]) ⟨u,k1,W⟩
 |unOp u T x=>
  rw[j]at g;have⟨b,p,g⟩:=RM.aI g;have G:=dQ h A p;refine lJ (x:=Op.unary u (a.eval x)) (by simp only[ej,j]) ?_;split at g
  have⟨vs,F,B⟩:=G;rw[tM F B];cases u<;>first| (cases g;done)|skip
  cases g;exact⟨_,rfl,lR (conc:=conc) _⟩;have⟨vs,F,B⟩:=G;rw[vb F B];cases u<;>first| (cases g;done)|skip
  cases g;exact⟨_,rfl,oc (conc:=conc) _⟩;cases g
 |pick c x y=>
  rw[j]at g;have⟨v,ax,Z⟩:=aht h A g;refine⟨v,?_,Z⟩;simp only[ej,j];exact ax
 |load T x=>
  rw[j]at g;simp only[il]at g;cases hT:E.b T with
  |none=>rw[hT]at g;cases g
  |some t=>
   rw[hT]at g;have⟨b,p,g⟩:=RM.aI g;exact lJ (by simp only[ej,j]) (Rr hE h hT g (dQ h A p))
 |fieldAddr T x i=>
  rw[j]at g;simp only[il]at g;cases hT:Map.av E.G T with
  |none=>rw[hT]at g;cases g
  |some te=>
   rw[hT]at g;have⟨hp,g⟩:=dE g;simp only[hy,n1]at hp;have⟨b,p,g⟩:=RM.aI g;exact lJ (by simp only[ej,j]) (adK (hE.g T te hT) hp.2 hp.1 g (dQ h A p) h)
 |field T x i=>
  rw[j]at g;simp only[il]at g;cases hT:Map.av E.G T with
  |none=>rw[hT]at g;cases g
  |some te=>
   rw[hT]at g;have⟨hp,g⟩:=dE g;simp only[hy,n1]at hp;have⟨b,p,g⟩:=RM.aI g;split at g
   rename_i t d;split at g;rename_i a4 D;split at g;rename_i u I;cases g;obtain⟨e,rfl⟩:=kC D;subst e;have⟨vs,F,B⟩:=dQ h A p;exact lJ (by simp only[ej,j]) (adX (hE.g T te hT) hp.2 hp.1 I F B);cases g;cases g;cases g
 |indexAddr T x i=>
  rw[j]at g;simp only[il]at g;cases hT:Map.av E.G T with
  |none=>rw[hT]at g;cases g
  |some te=>
   rw[hT]at g;dsimp only at g;cases R:te.c<;>rw[R]at g<;>dsimp only[cond]at g
   split at g;rename_i e H;have⟨b,p,g⟩:=RM.aI g;have⟨n,C,g⟩:=RM.aI g;have⟨k,M⟩:=vu h A C;refine lJ (x:=fR T (a.eval x) (a.eval i)) (by simp only[ej,j]) ?_;rw[M];exact afg hE h (by unfold aq.b;rw[hT];exact congrArg some H) g (dQ h A p);cases g;have⟨b,p,g⟩:=RM.aI g;have⟨n,C,g⟩:=RM.aI g;have⟨k,M⟩:=vu h A C;refine lJ (x:=fR T (a.eval x) (a.eval i)) (by simp only[ej,j]) ?_;rw[M];exact amY (hE.g T te hT) R k g (dQ h A p) h
 |index T x i=>
  rw[j]at g;simp only[il]at g;split at g
  ·rename_i hT;have⟨b,p,g⟩:=RM.aI g;split at g
   rename_i l;have⟨n,C,g⟩:=RM.aI g;have⟨c,J,g⟩:=RM.iV g;cases g;rw[rU]at J;have⟨ai,ap,aj⟩:=HM J;have⟨k,M⟩:=vu h A C;have⟨vs,F,B⟩:=dQ h A p;have⟨te,O,N⟩:=hE.b hT;have D:=N.g;rw[O]at D;refine lJ (x:=ml T (a.eval x) (a.eval i)) (by simp only[ej,j]) ⟨.int .u8 (c.toNat:Int),?_,oc (conc:=conc) _⟩;rw[M,Cr F B];have aa:(⟨⟨l⟩⟩:ByteArray)[n.toNat]?=some c:=by
    have ac:n.toNat< (⟨⟨l⟩⟩:ByteArray).size:=ap;rw[getElem?_pos (⟨⟨l⟩⟩:ByteArray) n.toNat ac];exact congrArg some (hh.1 aj).2
   simp only[ml,ko,k4,eQ,et D,fz,if_pos ai,aa];rfl;cases g
  ·split at g
   ·rename_i te hT;split at g
    ·rename_i k m ab;have⟨ar,p,g⟩:=RM.aI g;have⟨l,C,g⟩:=RM.aI g;have⟨z,J,g⟩:=RM.aI g;have⟨n,aw,g⟩:=RM.aI g;have⟨c,an,g⟩:=RM.iV g;cases g;rw[rU]at an;have⟨ai,ap,aj⟩:=HM an;have⟨k',M⟩:=vu h A aw;have⟨_,_,a5,au,I,aC,aB⟩:=D7 (hE.g T te hT) ab;have⟨G,a6⟩:=ahJ (hE.g T te hT) ab C J (jJ h A p);refine lJ (x:=ml T (a.eval x) (a.eval i)) (by simp only[ej,j]) ⟨.int k c,?_,oc (conc:=conc) _⟩;have⟨a7,ak,am,_⟩:=aC;have ac:n< (m:Int):=by omega
     rw[M,G];simp only[ml,ko,k4,eQ,et I,fz,if_pos (show(0:Int)<=n/\n< (m:Int)from⟨ai,ac⟩),hs,hq];simp[ak,am,Go.part,Pb aB,Ty.a,aj]
    ·cases g
   ·cases g
 |extract t i=>
  rw[j]at g;simp only[il]at g;have⟨ar,p,g⟩:=RM.aI g;have G:=jJ h A p;split at g
  rename_i l;split at g;rename_i b aa;cases g;have⟨vs,F,B⟩:=G;have⟨v,Q,Y⟩:=B.h i b aa;refine lJ (x:=sf (a.eval t) i) (by simp only[ej,j]) ⟨v,?_,Y⟩;rw[F];have:vs.toArray[i]?=some v:=by simpa using Q
  simp only[sf,this];rfl;cases g;cases g
 |entry x=>
  rw[j]at g;simp only[il]at g;have⟨b,p,g⟩:=RM.aI g;split at g
  rename_i id ver;simp only[RM.af]at g;split at g;rename_i cv k v y l af;have⟨C,ag⟩:=dE g;clear g;have:=cU C;subst this;cases ag;obtain⟨c,a8,k1,W,rfl⟩:=sR h af (dQ h A p);obtain⟨_,r,m,es,clock,aZ,bf,a3,ak,am,a9,aT,aU,ba,bb,bc,bd,aS⟩:=W;obtain⟨rfl,e,H,a0,rfl,⟨ks,aV,aW⟩,us,aX,aY⟩:=aS y rfl;refine lJ (x:=Instr.entry (a.eval x)) (by simp only[ej,j]) ⟨.tuple #[e.key,e.val],by rw[ak];exact run_entry_at w r m aZ a0 es _ e am aT H aU.1,[e.key,e.val],rfl,⟨ks,aV,aW⟩,⟨us,aX,aY⟩,trivial⟩;cases g;cases g
 |lookup T m k ok=>
  rw[j]at g;simp only[il]at g;split at g
  rename_i q u hT;obtain⟨I,aK⟩:=dE g;obtain⟨b,p,ag⟩:=RM.aI aK;obtain⟨l,C,aL⟩:=RM.aI ag;obtain⟨n,J,aM⟩:=RM.aI aL;cases aM;obtain⟨ks,aE,aF⟩:=KH hE h A J;obtain⟨K,V,_,ay,_⟩:=Jc hE hT;obtain⟨r,k1,W⟩:=aba hE h hT I (dQ h A p) C ((aF []).e q (Ey q ay.g)) ok;refine lJ (x:=l8 T (a.eval m) (a.eval k) ok) (by simp only[ej,j]) ⟨r,?_,W⟩;rw[aE];exact k1;cases g
 |slice T x lo ab aQ=>
  rw[j]at g;cases aQ with
  |some m=>cases g
  |none=>
   simp only[il]at g;cases hT:E.b T with
   |none=>rw[hT]at g;cases g
   |some t=>
    rw[hT]at g;obtain⟨b,p,g⟩:=RM.aI g;exact lJ (by simp only[ej,j,pt]) (agQ hE h A hT g (dQ h A p))
 |convert S T x=>
  rw[j]at g;simp only[il]at g;split at g
  rename_i k k' az hT;obtain⟨n,p,g⟩:=RM.aI g;cases g;obtain⟨q,aI⟩:=vu h A p;obtain⟨te,O,N⟩:=hE.b az;obtain⟨bg,aO,aH⟩:=hE.b hT;have D:=N.g;have ao:=aH.g;rw[O]at D;rw[aO]at ao;refine lJ (x:=vE S T (a.eval x)) (by simp only[ej,j]) ⟨_,?_,oc (conc:=conc) _⟩;rw[aI];simp only[vE,eQ,et D,et ao,fz];rfl;cases g
 |build T ps=>
  rw[j]at g;simp only[il]at g;cases hT:Map.av E.G T with
  |none=>rw[hT]at g;cases g
  |some te=>
   rw[hT]at g;obtain⟨hp,g⟩:=dE g;obtain⟨l,p,g⟩:=RM.aI g;cases g;exact lJ (by simp only[ej,j]) (XM hE h A hT hp p)
 |call c=>
  rw[j]at g;obtain⟨av,args,tys⟩:=c;cases av with
  |value f=>cases g
  |invoke r m=>cases g
  |builtin b=>
   cases b<;>first| (cases g;done)|skip
   case len=>
    simp only[il]at g;split at g
    rename_i x T ah aA;have R:args= #[x]:=by rw[<-nz (xs:=args),ah]
    have aN:tys= #[T]:=by rw[<-nz (xs:=tys),aA]
    subst R aN;split at g;rename_i e hT;obtain⟨b,p,g⟩:=RM.aI g;obtain⟨n,C,g⟩:=RM.aI g;cases g;obtain⟨ad,cap,G⟩:=YM (T:=T) h C (dQ h A p);obtain⟨au,I,_⟩:=Bm hE hT;refine⟨.int .i64 (n:Int),?_,oc (conc:=conc) _⟩;simp[ej,j,mr,mA,mv,l9,G,et I,goInt];rename_i hT;obtain⟨b,p,g⟩:=RM.aI g;split at g;rename_i l;cases g;obtain⟨vs,F,B⟩:=dQ h A p;obtain⟨te,O,N⟩:=hE.b hT;have D:=N.g;rw[O]at D;have G:=Cr F B;refine⟨.int .i64 (l.length:Int),?_,oc (conc:=conc) _⟩;have ae:(l9 #[T] o.type #[.string ⟨⟨l⟩⟩]).run P w= .ok (.int .i64 (l.length:Int)) w:=by
     simp only[l9,List.getElem?_toArray,List.getElem?_cons_zero];rw[eQ,et D];rfl
    have H: #[x].map a.eval= #[.string ⟨⟨l⟩⟩]:=by simp only[List.map_toArray,List.map_cons,List.map_nil,G]
    simp only[ej,j,mr,mA,mv,k4,H];rw[eQ,ae];rfl;cases g;rename_i k u hT;obtain⟨b,p,g⟩:=RM.aI g;obtain⟨n,C,g⟩:=RM.aI g;cases g;obtain⟨m,es,clock,G,ae,aG⟩:=ahW h C (dQ h A p);obtain⟨te,O,N⟩:=hE.b hT;have D:=N.g;rw[O]at D;obtain⟨K,V,I,_⟩:=D;refine⟨.int .i64 (n:Int),?_,oc (conc:=conc) _⟩;simp[ej,j,mr,mA,mv,l9,G,et I,goInt,getObj,vo,ae,aG];cases g;cases g
   case max|min=>
    simp only[il]at g;split at g
    rename_i x y ah;have R:args= #[x,y]:=by rw[<-nz (xs:=args),ah]
    subst R;obtain⟨b,p,g⟩:=RM.aI g;split at g;rename_i k n;obtain⟨a1,C,g⟩:=RM.aI g;split at g;rename_i k' aR;obtain⟨rfl,aJ⟩:=jN g;cases aJ;obtain⟨vs,F,B⟩:=dQ h A p;obtain⟨bh,Q,Y⟩:=dQ h A C;have H: #[x,y].map a.eval= #[.int k n,.int k aR]:=by simp[vb F B,vb Q Y]
    refine⟨_,?_,oc (conc:=conc) _⟩;simp only[ej,j,mr,mA,mv,k4,H];rfl;cases g;cases g;cases g
 |nilCheck x=>
  rw[j]at g;simp only[il]at g;obtain⟨b,p,g⟩:=RM.aI g;have G:=dQ h A p;have run:∀ad,a.eval x= .pointer (some ad)->(ej a.eval o).run P w= .ok (.value (a.eval x)) w:=by
   intro ad H;simp only[ej,j,H];rfl
  split at g
  obtain⟨d,D,g⟩:=RM.iV g;cases g;rw[rU]at D;obtain⟨vs,F,⟨X,_⟩| ⟨y,X,b,off,cs,T,fr,B,Q⟩⟩:=G;rw[X]at D;cases D;rw[X]at D;cases D;rw[B]at F;exact⟨a.eval x,run _ F,b,off,cs,T,fr,F,Q⟩;cases g;have aP:=G;obtain⟨b,off,cs,T,fr,B,Q⟩:=G;exact⟨a.eval x,run _ B,aP⟩;rename_i id ver off;simp only[RM.af]at g;split at g;rename_i cv u af;obtain⟨Z,rfl,_,_,_,_,a2,F,B⟩:=iQ h af g G;cases Z;exact⟨a.eval x,run _ B,G⟩;cases g;cases g
 |_=>rw[j]at g;cases g
end
end Go.Abs
