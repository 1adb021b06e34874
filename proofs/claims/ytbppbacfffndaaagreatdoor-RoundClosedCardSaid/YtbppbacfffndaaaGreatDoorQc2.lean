/- Part of a proof that the statement holds. No conditions. -/
import Derived.Conc.CrowdComm
import Derived.Conc.CrowdCom2
import Derived.Conc.Token
import Derived.KernelRfl
import Derived.Conc.AtomicLaws
import Derived.Conc.AtomicLaws2
import Derived.Conc.MarkLaws
import Derived.Conc.SmallLaws
import Derived.Test.YtbppbacfffndaaaGreatDoorQc1
set_option linter.all false
noncomputable section
open Go renaming Goroutine->b2,World->dr,Program->ef,stepG->eg,Value->en,deafBehind->eL,FuncId->fb,Trace->fl,Frame->ht,Event->hD,Addr->hP,MemAct->jc,execOp->jA,Touch->j2,CommShape->kH,run_store->kR,asAddr->kV,runT->lb,Operand->ml,events_store->mm,runN->mn,run_convert_to_unsafe->mA,CommCase->mZ,MemOp->nb,partners->nf,Oper->nv,TypeId->nB,lone->nH,undef->nL,Code->pc
open Go.MemOp renaming ofEvents->cr
open Go.ConcN renaming upd_same->df,upd_ne->dk,upd->ei,sumTo->np
open Array renaming getElem?_eq_some_iff->ea,getElem?_setIfInBounds_ne->ep,empty_append->fu,getElem?_setIfInBounds_self_of_lt->hN,getElem?_eq_getElem->ko,getElem?_map->lf,append_assoc->lk,mem_append->l8
open Go.Conc renaming mem_ofEvents->eb,Deaf->ej,served->eo,parked->et,woken->ew,rcase->eV,crowd->fv,scase->gb,heap_setChan_self->gf,runT_crowd_go->gu,finishComm_recv->gw,ofEvents_eq->hg,Knows->hv,heap_setChan_ne->hy,touch_mute->hB,ofEvent_cell0->hL,touchAt->hR,finishComm_send->hU,offersAt_parked_recv->hY,awake_of->j1,deafStep->j3,Deaf_push->kL,crowd_waits->k4,Deaf_other->k8,offersAt_of_not_blocked->lA,semEvents->lB,mem_partners->mb,crowd_recv_meets_some->mo,crowd_send_meets_some->mr,offersAt_parked_send->nc,stepG_same->nz,again_recv_closed->nV,crowd_recv_closed->n1,casT_eq->n2,deafBehind_still->oj,knows_own->o1,runT_crowd_spawn->o2,low_mute->pH,Deaf_own->pN,ways_recv_none->pS,ways_send_none->pV,semEvents_sync->pX
open Go.MemAct renaming ofEvent->ee,touch?->eH
open Nat renaming le_of_eq->eQ,lt_or_ge->gg,le_refl->hq,lt_of_not_le->hG,strongRecOn->kg,lt_of_lt_of_le->l9,eq_zero_or_pos->ma,le_trans->o0
open Go.Extern.Sync renaming semacquire->fx,count->gk,semrelease->hz,none_->k5
open List renaming perm_append_comm->fz,append_assoc->fR,mem_of_getElem?->hQ,append_nil->ng
open List.Perm renaming append_left->gl
open Option.some renaming inj->gE
open Go.Extern.Atomic renaming read->hh,casT->kk,loadT->pk,none_->pn,storeT->pt,update->pv
open Go.Goroutine renaming again->hA,frame->hZ,callers->k7
open Go.Event renaming mute->hF
open Go.Extern renaming findNext->hJ,find->ih
open Go.Extern.Race renaming marked->hM,at_->k6,none_->p5
open Go.World renaming setChan->hS,frozen?->ny,cell?->n3
open Go.GStep renaming after->iA
open Go.Region renaming wanted->kp
open Go.GStep.go renaming inj->kq
open Option renaming map_eq_some_iff->k3
open Go.stepG renaming exec->lv
open Go.Op renaming intArith->l7
open Go.Frame renaming finish_at->mx
open Go.Sem renaming runT_fst->pz,events->p1
namespace Go.Rs
open Go.Conc
open Go.ConcN (sumTo upd sumTo_upd upd_ne upd_same sumTo_congr)
section
variable {es:Array hD}
def kE(P:ef)(main:Bool)(J:dr->Prop)(Stop:Nat->b2->Prop):Nat->Nat->b2->Prop|0,d,g=>Stop d g|n+1,d,g=>Stop d g\/(g.status= .running/\∃g' es,(∀e∈es,hF e=true)/\(∀w,J w->eg P main g w= .go g' w es)/\(g'.status= .running\/g'.status= .finished)/\kE P main J Stop n (eL d es) g')
abbrev JT:dr->Prop:=λ _=>True
def gM(d:Nat)(g:b2):=g.status= .finished/\d=0
theorem PT{P}:∀{n d:Nat}{g:b2},QuitsD P n d g->kE P false JT gM n d g|0,_,_,h=>h|n+1,d,g,h=>h.imp id λ⟨b,g',es,c,e,a⟩=> ⟨b,g',es,c,λ w _=>e w,a.status,PT a⟩
theorem OP{P}:∀{n d:Nat}{g:b2},kE P false JT gM n d g->QuitsD P n d g|0,_,_,h=>h|n+1,d,g,h=>h.imp id λ⟨a,g',es,b,c,_,e⟩=> ⟨a,g',es,b,λ w=>c w trivial,OP e⟩
inductive dm where|cC (Stop:ai->b2->dr->Prop) (r:dI)|cF (J:dr->Prop) (Stop:Nat->b2->Prop)|ic (g:b2) (a:mZ) (b:kH) (K:ai->dr->Prop)|kD (g:b2)
def dm.a:dm->dI| .cC _ r=>r|_=> .eM
def dT(w:dr)(c:Nat):=∃s r,w.heap[c]?=some (.chan 0 #[] false s r false)
def eJ(P:ef)(Y:Nat->Prop)(i d:Nat)(p:ai)(q k:Nat)(g:b2)(w:dr):dm->Prop| .cC Stop r=>(g.status= .running/\d=0)/\du P (i==0) Stop r p g w| .cF J Stop=>(g.status= .running\/g.status= .finished)/\kE P (i==0) J Stop q d g| .ic e b f K=>(g=et e #[b] f/\d=0)/\(∃c,b.chan= .chan (some c)/\Y c/\dT w c)/\∀w',bO p w w'->K p w'| .kD a=>(a.status= .running/\d=1)/\a.offers=none/\(g={a with status:= .blocked}\/(g=a/\k=1))
section
variable{P:ef}{Y:Nat->Prop}{i d q k:Nat}{p:ai}{g:b2}{w w':dr}{ρ:dm}
theorem eJ.e(h:eJ P Y i d p q k g w ρ):awake g:=by cases ρ with|cC Stop r=>exact j1 (.inl h.1.1)|cF J Stop=>exact h.1.elim (λ x=>j1 (.inl x)) λ x=>j1 (.inr (.inr x))|ic b a e K=>obtain⟨⟨rfl,_⟩,_⟩:=h;exact j1 (.inr (.inl rfl))|kD c=>obtain rfl| ⟨rfl,_⟩:=h.2.2;grind[j1];exact j1 (.inl h.1.1)
theorem eJ.c(h:eJ P Y i d p q k g w ρ)(a:bO p w w')(o:∀c,Y c->dT w c->dT w' c):eJ P Y i d p q k g w' ρ:=by cases ρ with|cC Stop r=>exact⟨h.1,h.2.c a⟩|cF J Stop=>exact h|ic l j u K=>have⟨b,⟨c,m,s,n⟩,e⟩:=h;exact⟨b,by grind,λ w2 f=>e _ (a.d f)⟩|kD t=>exact h
theorem Dk(h:g.status= .running):g.again w=g:=by grind[hA]
theorem aa5(h:g.status= .finished):g.again w=g:=by grind[hA]
theorem eJ.a(h:eJ P Y i d p q k g w ρ)(v:bO p w w')(u:∀c,Y c->dT w c->dT w' c)(a a'):eJ P Y i d p q 1 (ew P a a' w' g) w' ρ:=by
 have m:=h.c v u;have F:eJ P Y i d p q k g w' ρ->eJ P Y i d p q 1 g w' ρ:=λ h=>by cases ρ with|cC Stop r=>exact h|cF J Stop=>exact h|ic l j z K=>exact h|kD f=>exact⟨h.1,h.2.1,h.2.2.imp id (by grind)⟩
 unfold ew;split;cases ρ with
 |cC Stop r=>rw[Dk h.1.1];trivial
 |cF J Stop=>
  rcases h.1 with x|x
  all_goals grind[Dk,aa5]
 |ic l j z K=>
  obtain⟨⟨rfl,t⟩,⟨c,b,y,s,r,n⟩,o⟩:=m;refine⟨⟨?_,t⟩,⟨c,b,y,s,r,n⟩,o⟩;simp_all[hA,et]
 |kD f=>
  refine⟨h.1,h.2.1,.inr ⟨?_,rfl⟩⟩;rcases h.2.2 with rfl| ⟨rfl,_⟩
  have e:=h.1.1;have b:=h.2.1;obtain⟨A,B,C,D,E⟩:=f;simp only at e b;subst e b;rfl;exact Dk h.1.1
 grind
end
structure fa(P:ef)(S Y:Nat->Prop)(n0:Nat)(A:Nat->Prop)(rp:jc->Prop)(p:Nat->ai)(ρ:Nat->dm)(q wk:Nat->Nat)(gs:Array b2)(t:fl)(w:dr):Prop where
 k:bP S Y n0 A rp p t w
 a:∀i g,gs[i]?=some g->eJ P Y i (ej t i) (p i) (q i) (wk i) g w (ρ i)
 e:∀j,gs.size<=j->ej t j=0
 b:∀i Stop r,ρ i= .cC Stop r->A i
section
variable{P:ef}{S Y:Nat->Prop}{n0:Nat}{A A':Nat->Prop}{rp rp':jc->Prop}{p p':Nat->ai}{ρ ρ':Nat->dm}{q wk q':Nat->Nat}{gs:Array b2}{t:fl}{w w':dr}{sl:Option (Nat×Nat)}
theorem fa.s(h:fa P S Y n0 A rp p ρ q wk gs t w)(c:∃(i:Nat)(g:b2),gs[i]?=some g/\g.status= .running)(sl):∃(i:Nat)(g:b2)(d:Nat)(b:Option (Nat×Nat)),gs[i]?=some g/\g.status= .running/\stepT P (fv gs w sl)=lb P (fv gs (w.at d) b) i:=crowd_pick (λ g a=>by obtain⟨i,e,rfl⟩:=Array.mem_iff_getElem.1 a;exact(h.a i _ (by grind)).e) c
theorem fa.c(h:fa P S Y n0 A rp p ρ q wk gs t w)(d):fa P S Y n0 A rp p ρ q wk gs t (w.at d):= ⟨h.k.m (hq _),λ i g a=>(h.a i g a).c (jn _ _ _) λ _ _ x=>x,h.e,h.b⟩
theorem fa.l(h:fa P S Y n0 A rp p ρ q wk gs t w){i g g'}(l:gs[i]?=some g){fn pos} (m:bP S Y n0 A' rp' p' (t++cr i fn pos es) w') (hp:∀j,j≠i->p' j=p j) (v:∀j,j≠i->ρ' j=ρ j) (o:∀j,j≠i->q' j=q j) (s:∀j,j≠i->bO (p j) w w') (n:∀c,Y c->dT w c->dT w' c) (z:eJ P Y i (eL (ej t i) es) (p' i) (q' i) 1 g' w' (ρ' i)) (k:∀j Stop r,ρ' j= .cC Stop r->A' j):fa P S Y n0 A' rp' p' ρ' q' (λ _=>1) ((gs.map (ew P g g' w')).setIfInBounds i g') (t++cr i fn pos es) w':=by
 have B:i<gs.size:=(ea.1 l).1;refine⟨m,λ j x f=>?_,λ j e=>?_,k⟩
 by_cases b:i=j;grind[hN,pN];rw[ep b,lf]at f;obtain⟨y,u,rfl⟩:=k3.1 f;have a:j≠i:=Ne.symm b;rw[hp j a,v j a,o j a,k8 t (g:=j) (g':=i) b _ (λ op d=>gz d)];exact(h.a j y u).a (s j a) n g _;have e:gs.size<=j:=by grind
 rw[k8 t (g:=j) (g':=i) (by omega) _ (λ op d=>gz d)];exact h.e j e
theorem fa.h(h:fa P S Y n0 A rp p ρ q wk gs t w){i g}(u:gs[i]?=some g){Stop f}(F:ρ i= .cC Stop (.mk f))(R:g.status= .running)(d)(B) (O:∀w1,bO (p i) w w1->∃g' w' es p',eg P (i==0) g w1= .go g' w' es/\g'.status= .running/\ey (p i) p' w1 w' es/\du P (i==0) Stop (f w1) p' g' w'):∃m w' ops p',lb P (fv gs (w.at d) B) i=(.next (fv m w' B),ops)/\m.size=gs.size/\fa P S Y n0 A rp (ei p i p') (ei ρ i (.cC Stop (f (w.at d)))) q (λ _=>1) m (t++ops) w'/\(∀j C,j≠i->m[j]?=some C->∃x,gs[j]?=some x)/\ey (p i) p' (w.at d) w' (#[]:Array hD)/\(∀c,Y c->w'.heap[c]?=w.heap[c]?)/\∀op∈ops,∃e,iF p' e/\op.act= .ofEvent e:=by
 have⟨g',w',es,z,G,H,k,I⟩:=O (w.at d) (jn _ _ _);have J:A i:=h.b i Stop _ F;have v:bP S Y n0 A rp (ei p i z) (t++cr i g.frame.fn g.frame.place es) w':=(h.c d).k.M J k _ _;have K:∀c,Y c->w'.heap[c]?=w.heap[c]?:=λ c o=>k.f c (h.k.d c (.inr o)) λ y=>(h.k.c i c (h.k.e i c y)).2.2 o;have M:∀c,Y c->dT w c->dT w' c:=λ c U⟨s,r,o⟩=> ⟨s,r,by grind⟩;refine⟨_,w',_,z,gu (sl:=B) u G,by simp,(h.c d).l u v (λ j l=>dk p z l) (λ j l=>dk ρ _ l) (λ _ _=>rfl) (λ j l=>?_) M ?_ (λ j Q r l=>?_),λ j C l T=>?_,{k with d:=by simp},K,λ op N=>?_⟩;refine⟨k.b,λ a D=>k.f a (h.k.c j a D).1 λ y=>h.k.f i j a (Ne.symm l) y D,k.m,k.c,k.h⟩;rw[df,df];refine⟨⟨H,?_⟩,I⟩;have E:=h.a i g u;rw[F]at E;rw[oj (λ e n=>(AB (S:=λ _=>False) (by grind) (λ b L=>(v.c i b (by grind[df])).1) (k.d e n)).2.1|>λ x=> ⟨x,(AB (S:=λ _=>False) (by grind) (λ b L=>(v.c i b (by grind[df])).1) (k.d e n)).2.2.1⟩)];exact E.1.2
 by_cases e:j=i;grind;rw[dk ρ _ e]at l;exact h.b j _ r l
 grind
 obtain⟨e,n,rfl⟩:=eb N;exact⟨e,k.d e n,rfl⟩
theorem fa.f(h:fa P S Y n0 A rp p ρ q wk gs t w){i g}(k:gs[i]?=some g){J Stop}(s:ρ i= .cF J Stop){n}(z:q i=n+1)(v:g.status= .running)(d)(f){g'}(y:∀e∈es,hF e=true)(r:∀w,J w->eg P (i==0) g w= .go g' w es)(m:J (w.at d))(u:g'.status= .running\/g'.status= .finished)(B:kE P (i==0) J Stop n (eL (ej t i) es) g'):∃b ops,lb P (fv gs (w.at d) f) i=(.next (fv b (w.at d) f),ops)/\b.size=gs.size/\fa P S Y n0 A rp p ρ (ei q i n) (λ _=>1) b (t++ops) (w.at d)/\∀op∈ops,∃e,hF e=true/\op.act= .ofEvent e:=by have o:bP S Y n0 A rp p (t++cr i g.frame.fn g.frame.place es) (w.at d):=((h.c d).k.z (λ op a=>gz a) (λ op a=>by grind[eb,pH]) λ op a=>by grind[eb,hB]);refine⟨_,_,gu (sl:=f) k (r (w.at d) m),by simp,(h.c d).l k o (λ _ _=>rfl) (λ _ _=>rfl) (λ j l=>dk q n l) (λ j l=> .c _ _) (λ _ _ x=>x) ?_ h.b,λ op a=>?_⟩;rw[s,df];trivial;grind[eb]
end
end
section
variable{P:ef}{S Y:Nat->Prop}{n0:Nat}{A A':Nat->Prop}{rp rp':jc->Prop}{p p':Nat->ai}{ρ ρ':Nat->dm}{q wk q' wk':Nat->Nat}{gs:Array b2}{t u:fl}{w w':dr}{sl:Option (Nat×Nat)}
variable {i:Nat} {gi:b2}
theorem fa.o(h:fa P S Y n0 A rp p ρ q wk gs t w){j}(z:i≠j){gj}(v:i<gs.size)(B:j<gs.size)(g:bP S Y n0 A' rp' p' (t++u) w')(hp:∀l,l≠i->l≠j->p' l=p l)(s:∀l,l≠i->l≠j->ρ' l=ρ l)(m:∀l,l≠i->l≠j->q' l=q l)(o:∀l,l≠i->l≠j->wk' l=wk l) (n:∀l,bO (p l) w w') (k:∀c,Y c->dT w c->dT w' c) (e:∀l,ej (t++u) l=ej t l) (y:eJ P Y i (ej t i) (p' i) (q' i) (wk' i) gi w' (ρ' i)) (C:eJ P Y j (ej t j) (p' j) (q' j) (wk' j) gj w' (ρ' j)) (f:∀j Stop r,ρ' j= .cC Stop r->A' j):fa P S Y n0 A' rp' p' ρ' q' wk' ((gs.setIfInBounds j gj).setIfInBounds i gi) (t++u) w':=by
 refine⟨g,λ l x d=>?_,λ l D=>by rw[e];exact h.e l (by grind),f⟩;rw[e];by_cases a:i=l;grind
 rw[ep a]at d;by_cases b:j=l;grind;rw[ep b]at d;rw[hp l (Ne.symm a) (Ne.symm b),s l (Ne.symm a) (Ne.symm b),m l (Ne.symm a) (Ne.symm b),o l (Ne.symm a) (Ne.symm b)];exact(h.a l x d).c (n l) k
theorem fa.n(h:fa P S Y n0 A rp p ρ q wk gs t w)(s:i<gs.size)(f:bP S Y n0 A' rp' p' (t++u) w')(hp:∀l,l≠i->p' l=p l)(o:∀l,l≠i->ρ' l=ρ l)(k:∀l,l≠i->q' l=q l)(n:∀l,l≠i->wk' l=wk l)(m:∀l,bO (p l) w w')(g:∀c,Y c->dT w c->dT w' c)(b:∀l,ej (t++u) l=ej t l)(v:eJ P Y i (ej t i) (p' i) (q' i) (wk' i) gi w' (ρ' i))(e:∀j Stop r,ρ' j= .cC Stop r->A' j):fa P S Y n0 A' rp' p' ρ' q' wk' (gs.setIfInBounds i gi) (t++u) w':=by refine⟨f,λ l x d=>?_,λ l y=>by rw[b];exact h.e l (by grind),e⟩;rw[b];by_cases a:i=l;grind;rw[ep a]at d;rw[hp l (Ne.symm a),o l (Ne.symm a),k l (Ne.symm a),n l (Ne.symm a)];exact(h.a l x d).c (m l) g
theorem fa.d(h:fa P S Y n0 A rp p ρ q wk gs t w){child}(y:i<gs.size)(g:bP S Y n0 A' rp' p' (t++u) w')(hp:∀l,l≠i->l≠gs.size->p' l=p l)(s:∀l,l≠i->l≠gs.size->ρ' l=ρ l)(m:∀l,l≠i->l≠gs.size->q' l=q l)(o:∀l,l≠i->l≠gs.size->wk' l=wk l) (n:∀l,bO (p l) w w') (k:∀c,Y c->dT w c->dT w' c) (e:∀l,ej (t++u) l=ej t l) (z:eJ P Y i (ej t i) (p' i) (q' i) (wk' i) gi w' (ρ' i)) (v:eJ P Y gs.size 0 (p' gs.size) (q' gs.size) (wk' gs.size) child w' (ρ' gs.size)) (f:∀j Stop r,ρ' j= .cC Stop r->A' j):fa P S Y n0 A' rp' p' ρ' q' wk' ((gs.setIfInBounds i gi).push child) (t++u) w':=by
 refine⟨g,λ l x a=>?_,λ l B=>by rw[e];exact h.e l (by grind),f⟩;rw[e];rw[Array.getElem?_push]at a;by_cases b:l=gs.size;subst b;rw[if_pos (by simp)]at a;cases a;rw[h.e _ (hq _)];omega
 rw[if_neg (by grind)]at a;by_cases d:i=l;grind;rw[ep d]at a;rw[hp l (Ne.symm d) b,s l (Ne.symm d) b,m l (Ne.symm d) b,o l (Ne.symm d) b];exact(h.a l x a).c (n l) k
end
section
variable {P:ef}
def ba(a:Nat)(w:dr)(st b:Int):=∃ty,w.heap[a]?=some (.cells #[.int .u64 st,.int .u32 b] ty (0,0))
def bR(c b:Nat):=(c:Int)*4294967296+b
abbrev bg(a:Nat):Addr:= ⟨a,0,none⟩
abbrev dL(a:Nat):Addr:= ⟨a,1,none⟩
def jK(a:hP):Array Event:= #[⟨.cell a,false,true⟩]
def qP(a:hP):Array Event:= #[⟨.cell a,true,true⟩]
def gK(a:hP):Array Event:= #[⟨.cell a,false,true⟩,⟨.cell a,true,true⟩]
def lu(a:hP):Array Event:= #[⟨.mark .disable,false,true⟩,⟨.cell a,false,true⟩,⟨.cell a,true,true⟩,⟨.mark .enable,false,true⟩]
def fp(m:Mark):Array Event:= #[⟨.mark m,false,true⟩]
def iS(c:Nat):Array Event:= #[⟨.obj c,false,true⟩,⟨.obj c,true,true⟩]
def bM(P:ef)(main:Bool)(J:dr->Prop)(d:Nat)(g:b2)(Stop:Nat->b2->Prop):=g.status= .running/\∃n,kE P main J Stop n d g
def bG(P:ef)(main:Bool)(p:ai)(g:b2)(w:dr)(Stop:ai->b2->dr->Prop):=g.status= .running/\∃r,du P main Stop r p g w
structure dY(P:ef)where
 a:Nat
 c:Nat
 b:Nat
 y:en
 o:en
 d:List en
 z:Nat->Prop
 K:dr
 j:en->en->Option Nat->dr->Prop
 n:Nat->Nat->b2->Prop
 t:Nat->b2->Prop
 B:Nat->Nat->b2->Prop
 w:Nat->b2->Prop
 e:List en->ai->b2->dr->Prop
 l:List en->ai->b2->dr->Prop
 f:ai->b2->dr->Prop
 k:en->ai->b2->dr->Prop
 D:ai->b2->dr->Prop
 F:Nat->b2->Prop
 G:Nat->b2->Prop
 x:Nat->b2->Prop
 u:Nat->b2->Prop
 E:Nat->b2->Prop
 i:Nat->ai->b2->dr->Prop
 q:Nat->b2->Prop
 H:Nat->Nat->b2->Prop
 C:Nat->b2->Prop
 m:Nat->b2->Prop
 r:Nat->b2->Prop
 A:Nat->b2->Prop
 s:ai->b2->dr->Prop
def dY.J(T:dY P)(w:dr):=∃st a,ba T.a w st a
def dY.h(T:dY P)(w:dr):=∀a,T.z a->w.heap[a]?=T.K.heap[a]?
def dY.p(T:dY P)(p:ai):=(∀a,T.z a->p.a a/\¬p.b a)
structure dY.g{P:ef}(T:dY P):Prop where
 F:∀x own b w,T.j x own (some b) w->¬T.z b
 e:∀x own U w w',T.j x own U w->(∀b,U=some b->w'.heap[b]?=w.heap[b]?)->T.j x own U w'
 M:∀j d g,T.n j d g->d=1/\g.status= .running/\∃g',(∀w,ba T.a w (bR j 0) 0->eg P true g w= .go g' (w.setCell (bg T.a) (.int .u64 (bR (j+1) 0))) (gK (bg T.a)))/\
  bM P true T.J 1 g' (if j=0 then T.t else T.B j)
 A:∀d g,T.t d g->d=1/\g.status= .running/\∃g',(∀w,eg P true g w= .go g' w (fp (.read (dL T.a))))/\bM P true T.J 1 g' (T.B 0)
 Q:∀j d g,T.B j d g->d=0/\g.status= .running/\∃g' child,(∀w,eg P true g w= .spawn g' child w #[])/\bM P true T.J 0 g' (if j<2 then T.n (j+1)else T.w)/\
  ∀p w,T.p p->T.h w->bG P false p child w T.f
 K:∀d g,T.w d g->d=0/\g.status= .running/\∃g' child,(∀w,eg P true g w= .spawn g' child w #[])/\(∀p w,T.p p->T.h w->bG P true p g' w (T.e []))/\
  ∀p w,T.p p->T.h w->bG P false p child w (T.i 0)
 h:∀l p g w,T.e l p g w->g.status= .running/\∃v,(∀w',eg P true g w'= .comm v #[eV T.b T.o] true (.recv true) w' #[])/\(v.frame=g.frame/\v.callers=g.callers/\v.dying=g.dying)/\
  (∀x own U p' w',(∃r,T.d.Perm (l++x::r))->bO p w w'->T.h w'->T.j x own U w'->(∀a,p'.a a↔p.a a\/U=some a)->(∀a,p'.b a↔p.b a\/U=some a)->bG P true p' (eo v (.tuple #[own,.bool true])) w' (T.e (l++ [x])))/\
  ∀w',bO p w w'->T.h w'->bG P true p (eo v (.tuple #[T.o,.bool false])) w' (T.l l)
 f:∀l p g w w',T.e l p g w->bO p w w'->T.e l p g w'
 o:∀l p g w g',T.e l p g w->g'.status= .running->g'.frame=g.frame->g'.callers=g.callers->g'.dying=g.dying->T.e l p g' w
 m:∀p g w w',T.f p g w->bO p w w'->T.f p g w'
 n:∀p g w g',T.f p g w->g'.status= .running->g'.frame=g.frame->g'.callers=g.callers->g'.dying=g.dying->T.f p g' w
 S:∀l p g w,T.l l p g w->g.status= .running
 i:∀p g w,T.f p g w->g.status= .running/\∃v,(∀w',eg P false g w'= .comm v #[eV T.c T.y] true (.recv true) w' #[])/\(v.frame=g.frame/\v.callers=g.callers/\v.dying=g.dying)/\
  (∀x w',x∈T.d->bO p w w'->T.h w'->bG P false p (eo v (.tuple #[x,.bool true])) w' (T.k x))/\
  ∀w',bO p w w'->T.h w'->bG P false p (eo v (.tuple #[T.y,.bool false])) w' T.D
 D:∀x p g w,T.k x p g w->g.status= .running/\∃own U v,(∀w',bO p w w'->eg P false g w'= .comm v #[gb T.b own (.tuple #[])] true .send w' #[])/\T.j x own U w/\(∀b,U=some b->p.b b)/\
  ∀p' w',(∀a,p'.a a↔p.a a/\U≠some a)->(∀a,p'.b a↔p.b a/\U≠some a)->bO p' w w'->T.h w'->bG P false p' (eo v nL) w' T.f
 R:∀p g w,T.D p g w->g.status= .running/\∃g',(∀w',eg P false g w'= .go g' w')/\bM P false T.J 0 g' T.F
 L:∀d g,T.F d g->d=0/\g.status= .running/\∃g',(∀w,eg P false g w= .go g' w (fp (.releaseMerge (bg T.a))))/\bM P false T.J 0 g' T.G
 H:∀d g,T.G d g->d=1/\g.status= .running/\∀c b,0<c->c<=3->b<=1->∃g',(∀w J,ba T.a w (bR c b) J->eg P false g w= .go g' (w.setCell (bg T.a) (.int .u64 (bR (c- 1) b))) (gK (bg T.a)))/\
  bM P false (if c=1/\b=1 then T.J else JT) 1 g' (if c=1/\b=1 then T.x else gM)
 B:∀d g,T.x d g->d=1/\g.status= .running/\∃g',(∀w J,ba T.a w (bR 0 1) J->eg P false g w= .go g' w (jK (bg T.a)))/\bM P false T.J 1 g' T.u
 t:∀d g,T.u d g->d=1/\g.status= .running/\∃g',(∀w J,ba T.a w (bR 0 1) J->eg P false g w= .go g' (w.setCell (bg T.a) (.int .u64 0)) (qP (bg T.a)))/\bM P false T.J 1 g' T.E
 y:∀d g,T.E d g->d=1/\g.status= .running/\mayWake P g=true/\∃g',(∀w,ba T.a w 0 0->eg P false g w= .go g' (w.setCell (dL T.a) (.int .u32 1)) (lu (dL T.a)))/\bM P false JT 1 g' gM
 C:∀k x p g w,T.i k p g w->T.d[k]?=some x->g.status= .running/\∃v,(∀w',bO p w w'->eg P false g w'= .comm v #[gb T.c x (.tuple #[])] true .send w' #[])/\
  ∀p' w',T.p p'->T.h w'->bG P false p' (eo v nL) w' (T.i (k+1))
 O:∀k p g w,T.i k p g w->T.d[k]?=none->g.status= .running/\mayWake P g=true/\∃g',(∀w s r,w.heap[T.c]?=some (.chan 0 #[] false s r false)->eg P false g w= .go g' (w.setChan T.c 0 #[] true s r false) (iS T.c))/\bM P false T.J 0 g' T.q
 E:∀d g,T.q d g->d=1/\g.status= .running/\∀c,c<=3->∃g',(∀w J,ba T.a w (bR c 0) J->eg P false g w= .go g' w (jK (bg T.a)))/\bM P false T.J 1 g' (if c=0 then T.A else T.H c)
 N:∀c d g,T.H c d g->d=1/\g.status= .running/\0<c/\c<=3/\(∃g',(∀w J,ba T.a w (bR c 0) J->eg P false g w= .go g' (w.setCell (bg T.a) (.int .u64 (bR c 1))) (gK (bg T.a)))/\bM P false T.J 1 g' T.C)/\
  ∃g',(∀w c' J,c'<c->ba T.a w (bR c' 0) J->eg P false g w= .go g' w (jK (bg T.a)))/\bM P false T.J 1 g' T.q
 z:∀d g,T.C d g->d=1/\g.status= .running/\∃g',(∀w,eg P false g w= .go g' w (fp (.write (dL T.a))))/\bM P false T.J 1 g' T.m
 u:∀d g,T.m d g->d=1/\g.status= .running/\g.offers=none/\(∀w st,ba T.a w st 0->eg P false g w= .go {g with status:= .blocked} w #[])/\
  ∃g',(∀w st,ba T.a w st 1->eg P false g w= .go g' (w.setCell (dL T.a) (.int .u32 0)) (lu (dL T.a)))/\bM P false T.J 1 g' T.r
 q:∀d g,T.r d g->d=1/\g.status= .running/\∃g',(∀w J,ba T.a w 0 J->eg P false g w= .go g' w (jK (bg T.a)))/\bM P false T.J 1 g' T.A
 I:∀d g,T.A d g->d=0/\g.status= .running/\∃g',(∀w,eg P false g w= .go g' w (fp (.acquire (bg T.a))))/\∀p w,T.p p->T.h w->bG P false p g' w T.s
 G:∀p g w,T.s p g w->g.status= .running/\mayWake P g=true/\∃g',(∀w s r,w.heap[T.b]?=some (.chan 0 #[] false s r false)->eg P false g w= .go g' (w.setChan T.b 0 #[] true s r false) (iS T.b))/\bM P false JT 0 g' gM
end
inductive bD where|iN (j:Nat)|lI|go (j:Nat)|mW|eD (l:List en)|dH (l:List en)|eF (l:List en)
inductive bm where|fD|eC|eA|iz (x:en)|eh (x own:en) (ob:Option Nat)|lN|ln|lF|dg|dA|dt|cd
inductive bJ where|cg|dF (k:Nat)|ff (k:Nat)|ir|lD (c:Nat)|iH|eE|dZ|kI|jC|fG|dD
def bD.a:bD->Nat| .iN j=>min j 3| .lI=>0| .go j=>min j 3| .mW=>3|_=>4
def bD.c:bD->Nat| .iN j=>j| .lI=>1| .go j=>j+1|_=>3
def bD.f:bD->List en| .eD l| .dH l| .eF l=>l|_=> []
def bm.e:bm->Bool| .eC| .eA| .iz _| .eh _ _ _| .lN| .ln=>true|_=>false
def bm.b:bm->Bool| .dg| .dA| .dt| .cd=>true|_=>false
def bm.g:bm->Bool| .lN| .ln| .lF| .dg| .dA| .dt| .cd=>true|_=>false
def bm.a:bm->List en| .iz x| .eh x _ _=> [x]|_=> []
def bJ.d:bJ->Bool| .cg| .dD=>false|_=>true
def bJ.c:bJ->Bool| .cg| .dF _| .ff _=>false|_=>true
def bJ.f:bJ->Bool| .fG| .dD=>true|_=>false
def bJ.e(m:Nat):bJ->Nat| .cg=>0| .dF k| .ff k=>k|_=>m
section
variable{P:ef}(T:dY P)
def rI:bD->dm->Prop| .iN j,ρ=>j<=2/\ρ= .cF T.J (T.n j)| .lI,ρ=>ρ= .cF T.J T.t| .go j,ρ=>j<=2/\ρ= .cF T.J (T.B j)| .mW,ρ=>ρ= .cF T.J T.w| .eD l,ρ=>∃r,ρ= .cC (T.e l) r| .dH _,ρ=>∃a K,ρ= .ic a (eV T.b T.o) (.recv true) K| .eF l,ρ=>∃r,ρ= .cC (T.l l) r
def TQ(g2:b2)(p:ai)(w:dr):=T.f p {et g2 #[eV T.c T.y] (.recv true)with status:= .running} w/\∀w',eg P false {et g2 #[eV T.c T.y] (.recv true)with status:= .running} w'= .comm g2 #[eV T.c T.y] true (.recv true) w' #[]
def IM(g2:b2)(ob:Option Nat)(p:ai)(w:dr):=∀p' w',(∀a,p'.a a↔p.a a/\ob≠some a)->(∀a,p'.b a↔p.b a/\ob≠some a)->bO p' w w'->T.h w'->bG P false p' (eo g2 nL) w' T.f
def uY:bm->dm->Prop| .fD,_=>True| .eC,ρ=>∃r,ρ= .cC T.f r| .eA,ρ=>∃a,ρ= .ic a (eV T.c T.y) (.recv true) (TQ T a)| .iz x,ρ=>x∈T.d/\∃r,ρ= .cC (T.k x) r| .eh x own b,ρ=>x∈T.d/\∃a,ρ= .ic a (gb T.b own (.tuple #[])) .send (IM T a b)| .lN,ρ=>∃r,ρ= .cC T.D r| .ln,ρ=>ρ= .cF T.J T.F| .lF,ρ=>ρ= .cF T.J T.G| .dg,ρ=>ρ= .cF T.J T.x| .dA,ρ=>ρ= .cF T.J T.u| .dt,ρ=>ρ= .cF T.J T.E| .cd,ρ=>ρ= .cF JT gM
def xq:bJ->dm->Prop| .cg,_=>True| .dF k,ρ=>k<=T.d.length/\∃r,ρ= .cC (T.i k) r| .ff k,ρ=>∃a x K,T.d[k]?=some x/\ρ= .ic a (gb T.c x (.tuple #[])) .send K/\∀p' w',T.p p'->T.h w'->bG P false p' (eo a nL) w' (T.i (k+1))| .ir,ρ=>ρ= .cF T.J T.q| .lD c,ρ=>ρ= .cF T.J (T.H c)| .iH,ρ=>ρ= .cF T.J T.C| .eE,ρ=>ρ= .cF T.J T.m| .dZ,ρ=>∃b,ρ= .kD b/\T.m 1 b| .kI,ρ=>ρ= .cF T.J T.r| .jC,ρ=>ρ= .cF T.J T.A| .fG,ρ=>∃r,ρ= .cC T.s r| .dD,ρ=>ρ= .cF JT gM
def bE(n:Nat)(a:Nat->bm)(fs:bJ)(i:Nat):=i=0\/(∃j,j<3/\i=n+j/\(a j).e=true)\/(i=n+3/\fs.d=true)
def de(ms:bD)(fs:bJ)(a:jc):Prop:=match ms,fs with| .eF _,_=>False|_,.dD=>a= .close T.b|_,.fG=>False|_,_=>a= .mark (.releaseMerge (bg T.a))
def bz(ms:bD)(a:Nat->bm):=ms.c- ((if(a 0).b then 1 else 0)+ (if(a 1).b then 1 else 0)+ (if(a 2).b then 1 else 0))
def ib(ms:bD)(a:Nat->bm)(fs:bJ)(w:dr):Prop:=match fs with
 | .iH| .eE=>(ba T.a w (bR (bz ms a) 1) 0/\0<bz ms a/\∀j,a j≠ .dg/\a j≠ .dA/\a j≠ .dt)\/(bz ms a=0/\∃j,j<3/\(∀l,l<3->l≠j->a l= .cd)/\((ba T.a w (bR 0 1) 0/\(a j= .dg\/a j= .dA))\/(ba T.a w 0 0/\a j= .dt)\/(ba T.a w 0 1/\a j= .cd)))| .dZ=>(ba T.a w (bR (bz ms a) 1) 0/\0<bz ms a/\∀j,a j≠ .dg/\a j≠ .dA/\a j≠ .dt)\/(bz ms a=0/\∃j,j<3/\(∀l,l<3->l≠j->a l= .cd)/\((ba T.a w (bR 0 1) 0/\(a j= .dg\/a j= .dA))\/(ba T.a w 0 0/\a j= .dt)))| .kI| .jC| .fG| .dD=>ba T.a w 0 0/\∀l,l<3->a l= .cd| .lD c=>ba T.a w (bR (bz ms a) 0) 0/\bz ms a<=c/\∀j,a j≠ .dg/\a j≠ .dA/\a j≠ .dt|_=>ba T.a w (bR (bz ms a) 0) 0/\∀j,a j≠ .dg/\a j≠ .dA/\a j≠ .dt
structure ed(ms:bD)(m:Nat->bm)(fs:bJ):Prop where
 g:∀k j,fs= .ff k->m j≠ .eA
 h:∀l j x own o,ms= .dH l->m j≠ .eh x own o
 f:fs.c=true->∀j,m j≠ .eA
 n:∀l,fs= .dD->ms≠ .dH l
 b:∀j,(m j).g=true->fs.c=true
 d:∀j,j<3->(m j= .fD↔ms.a<=j)
 a:fs= .cg↔ms.a<=3
 c:∀j,3<=j->m j= .fD
 e:(T.d.take (fs.e T.d.length)).Perm (ms.f++ ((m 0).a++ ((m 1).a++ (m 2).a)))
 i:∀l,ms= .eF l->fs= .dD
def bJ.a:bJ->Bool| .dD=>true|_=>false
structure Ab(n h:Nat)(w0:dr)(ms:bD)(v:Nat->bm)(fs:bJ)(p:Nat->ai)(t:fl)(w:dr):Prop where
 e:0<n
 l:∀i,bE n v fs i->T.p (p i)
 y:T.h w
 c:T.c≠T.b/\T.a≠T.c/\T.a≠T.b
 d:ed T ms v fs
 o:ib T ms v fs w
 r:∃s,w.heap[T.c]?=some (.chan 0 #[] fs.c s s false)
 q:∃s,w.heap[T.b]?=some (.chan 0 #[] fs.a s s false)
 g:∀j x g z,v j= .eh x g z->T.j x g z w/\∀b,z=some b->(p (n+j)).b b
 D:∀op∈t,op.act≠ .mark (.release (bg T.a))
 B:∀k x,hR t k=some x->x.kind= .said->x.loc= .cell (dL T.a)->if fs.d=true then hv t (n+3) k else(fs= .cg->hv t 0 k)
 E:∀a,a<h->w.heap[a]?=w0.heap[a]?
 f:∀i a,(p i).b a->h<=a
 C:h<=T.a/\h<=T.c/\h<=T.b
 u:∀a,T.z a->a<w.heap.size/\a≠T.a/\a≠T.c/\a≠T.b
 m:w.os=w0.os/\w.output=w0.output/\w.tape=w0.tape/\h<=w.heap.size/\h=w0.heap.size
structure aP(S:Nat->Prop)(n s n0:Nat)(w0:dr)(ms:bD)(g:Nat->bm)(fs:bJ)(p:Nat->ai)(ρ:Nat->dm)(q v:Nat->Nat)(h:Array b2)(t:fl)(w:dr):Prop where
 c:fa P S (λ b=>b=T.a\/b=T.c\/b=T.b) n0 (bE n g fs) (de T ms fs) p ρ q v h t w
 a:Ab T n s w0 ms g fs p t w
 e:h.size=n+ms.a
 o:S T.a
 r:rI T ms (ρ 0)
 f:∀j,j<3->uY T (g j) (ρ (n+j))
 u:xq T fs (ρ (n+3))
 k:∀i,0<i->i<n->ρ i= .cF JT gM
 m:∀l d K,ms= .dH l->ρ 0= .ic d (eV T.b T.o) (.recv true) K->T.e l (p 0) {et d #[eV T.b T.o] (.recv true)with status:= .running} w/\
  ∀w',eg P true {et d #[eV T.b T.o] (.recv true)with status:= .running} w'= .comm d #[eV T.b T.o] true (.recv true) w' #[]
end
section
variable{P:ef}{T:dY P}{S:Nat->Prop}{n N0 n0:Nat}{w0:dr}{ms:bD}{ws:Nat->bm}{fs:bJ}{p p':Nat->ai}{ρ:Nat->dm}{q wk:Nat->Nat}{gs:Array b2}{t u:fl}{w w':dr}
variable {i:Nat} {g:b2}
theorem lK{a st b}(h:w'.heap[a]?=w.heap[a]?)(k:ba a w st b):ba a w' st b:=let⟨ty,e⟩:=k; ⟨_,h.trans e⟩
theorem IU(h:w'.heap[T.a]?=w.heap[T.a]?)(k:ib T ms ws fs w):ib T ms ws fs w':=by cases fs with|iH=>exact k.imp (λ x=> ⟨lK h x.1,x.2⟩) λ⟨x,j,a,y,z⟩=> ⟨x,j,a,y,z.imp (λ z=> ⟨lK h z.1,z.2⟩) λ z=>z.imp (λ z=> ⟨lK h z.1,z.2⟩) λ z=> ⟨lK h z.1,z.2⟩⟩|eE=>exact k.imp (λ x=> ⟨lK h x.1,x.2⟩) λ⟨x,j,a,y,z⟩=> ⟨x,j,a,y,z.imp (λ z=> ⟨lK h z.1,z.2⟩) λ z=>z.imp (λ z=> ⟨lK h z.1,z.2⟩) λ z=> ⟨lK h z.1,z.2⟩⟩|dZ=>exact k.imp (λ x=> ⟨lK h x.1,x.2⟩) λ⟨x,j,a,y,z⟩=> ⟨x,j,a,y,z.imp (λ z=> ⟨lK h z.1,z.2⟩) λ z=> ⟨lK h z.1,z.2⟩⟩|_=>exact⟨lK h k.1,k.2⟩
theorem Ab.F(h:Ab T n N0 w0 ms ws fs p t w)(I:T.g)(G:w.heap.size<=w'.heap.size)(K:∀a,T.z a->w'.heap[a]?=w.heap[a]?)(A:w'.heap[T.a]?=w.heap[T.a]?/\w'.heap[T.c]?=w.heap[T.c]?/\w'.heap[T.b]?=w.heap[T.b]?)(V:∀j x own b,ws j= .eh x own (some b)->w'.heap[b]?=w.heap[b]?/\(p' (n+j)).b b)(P:∀a,a<N0->w'.heap[a]?=w.heap[a]?)(O:∀i,bE n ws fs i->T.p (p' i))(Q:∀i a,(p' i).b a->N0<=a)(S:∀op∈u,op.act≠ .mark (.release (bg T.a)))(W:∀op∈u,∀x,op.act.touch?=some x->x.kind≠ .said)(F:w'.os=w.os/\w'.output=w.output/\w'.tape=w.tape):Ab T n N0 w0 ms ws fs p' (t++u) w' where
 e:=h.e
 l:=O
 y:=λ a v=>(K a v).trans (h.y a v)
 c:=h.c
 d:=h.d
 o:=IU A.1 h.o
 r:=let⟨s,e⟩:=h.r; ⟨s,A.2.1.trans e⟩
 q:=let⟨s,e⟩:=h.q; ⟨s,A.2.2.trans e⟩
 g:=λ j x own H e=>by have⟨z,J⟩:=h.g j x own H e;refine⟨I.e x own H w w' z λ b L=>?_,λ b L=>?_⟩;all_goals grind
 D:=λ op R=>(l8.1 R).elim (h.D op) (S op)
 B:=λ k x U M N=>by
  rcases lx U with⟨_,z⟩| ⟨_,op,z,_,J⟩;have:=h.B k x z M N;split at this;rw[if_pos ‹_›];exact this.app u;rw[if_neg ‹_›];exact λ e=>(this e).app u;grind
 E:=λ a v=>(P a v).trans (h.E a v)
 f:=Q
 C:=h.C
 u:=λ a v=> ⟨l9 (h.u a v).1 G,(h.u a v).2⟩
 m:= ⟨F.1.trans h.m.1,F.2.1.trans h.m.2.1,F.2.2.trans h.m.2.2.1,o0 h.m.2.2.2.1 G,h.m.2.2.2.2⟩
theorem aiy{q e}(h:iF q e){x}(a:(ee e).touch?=some x):x.kind≠ .said:=by grind[D9]
theorem aP.ajX(F:T.g)(h:aP T S n N0 n0 w0 ms ws fs p ρ q wk gs t w)(V:gs[i]?=some g){Stop f}(I:ρ i= .cC Stop (.mk f))(R:g.status= .running)(d)(E) (ad:∀w1,bO (p i) w w1->∃g' w' es p',eg P (i==0) g w1= .go g' w' es/\g'.status= .running/\ey (p i) p' w1 w' es/\du P (i==0) Stop (f w1) p' g' w'):∃y w' ops p',lb P (fv gs (w.at d) E) i=(.next (fv y w' E),ops)/\aP T S n N0 n0 w0 ms ws fs p' (ei ρ i (.cC Stop (f (w.at d)))) q (λ _=>1) y (t++ops) w':=by
 have⟨y,w',ops,A,M,N,O,al,k,B,am⟩:=h.c.h V I R d E ad;have C:=h.c.k;have Z:=C.c;have ag:∀j,(∃g L aj K,ρ j= .ic g L aj K)->j≠i:=λ j⟨a,b,c,_,e⟩z=>by grind
 have ab:∀j,j≠i->∀a,(p j).a a->w'.heap[a]?=w.heap[a]?:=λ j z a s=>k.f a (Z j a s).1 λ m=>C.f i j a (Ne.symm z) m s;have af:∀o,bE n ws fs o->T.p (ei p i A o):=λ o s a v=>by
  have aa:=h.a.l o s a v;by_cases e:o=i
  subst e;rw[df];refine⟨k.j a aa.1,λ m=>?_⟩;rcases k.k a m with x| ⟨x,_⟩
  grind
  have:=(h.a.u a v).1;have x:w.heap.size<=a:=x;omega
  grind[dk]
 have ae:bE n ws fs i:=h.c.b i Stop _ I;have ah:∀a,T.z a->w'.heap[a]?=w.heap[a]?:=λ a v=>k.f a (h.a.u a v).1 (h.a.l i ae a v).2;have J:Ab T n N0 w0 ms ws fs (ei p i A) (t++ops) w':=by
  refine h.a.F F k.b ah ⟨B _ (.inl rfl),B _ (.inr (.inl rfl)),B _ (.inr (.inr rfl))⟩ (λ j x own b e=>?_) (λ a s=>k.f a (l9 s h.a.m.2.2.2.1) λ m=>by have:=h.a.f i a m;omega) af (λ o a m=>?_)
   (λ op ac=>by grind[Jq]) (λ op ac x ap=>by grind[aiy]) ⟨k.m,k.c,k.h⟩
  have W:j<3:=hG λ Y=>by rw[h.a.d.c j Y]at e;cases e
  have u:=h.f j W;rw[e]at u;have⟨_,G,U⟩:=u;have X:n+j≠i:=ag _ ⟨_,_,_,_,U⟩;have m:=(h.a.g j x own _ e).2 b rfl;exact⟨ab _ X b (C.e _ b m),by grind[dk]⟩;by_cases e:o=i;subst e;rw[df]at m;rcases k.k a m with x| ⟨x,_⟩
  exact h.a.f _ a x;have:=h.a.m.2.2.2.1;have x:w.heap.size<=a:=x;omega;rw[dk p A e]at m;exact h.a.f _ a m
 have D:∀j(Q:dm->Prop),(∀r,Q (.cC Stop r)↔Q (.cC Stop (.mk f)))->Q (ρ j)->Q (ei ρ i (.cC Stop (f (w.at d))) j):=λ j Q an ao=>by
  grind[df,dk]
 refine⟨y,w',ops,ei p i A,M,O,J,N.trans h.e,h.o,D 0 _ (λ r=>?_) h.r,λ j z=>D (n+j) _ (λ r=>?_) (h.f j z),D (n+3) _ (λ r=>?_) h.u,λ o h0 H=>?_,λ l G K e u=>?_⟩;cases ms<;>simp[rI];cases ws j<;>simp[uY];cases fs<;>simp[xq]
 have e:o≠i:=λ e=>by
  subst e;have:=h.k o h0 H
  grind
 rw[dk _ _ e];exact h.k _ h0 H;have h0:0≠i:=λ ak=>by
  grind[df]
 rw[dk ρ _ h0]at u;rw[dk p _ h0];have⟨m1,m2⟩:=h.m l G K e u;exact⟨F.f _ _ _ _ _ m1 ⟨k.b,by grind,k.m,k.c,k.h⟩,m2⟩
theorem aP.aj1(f:T.g)(h:aP T S n N0 n0 w0 ms ws fs p ρ q wk gs t w)(z:gs[i]?=some g){J Stop}(G:ρ i= .cF J Stop){k}(C:q i=k+1)(y:g.status= .running)(d)(c){g' es}(A:∀e∈es,hF e=true)(E:∀w,J w->eg P (i==0) g w= .go g' w es)(u:J (w.at d))(v:g'.status= .running\/g'.status= .finished)(F:kE P (i==0) J Stop k (eL (ej t i) es) g'):∃a ops,lb P (fv gs (w.at d) c) i=(.next (fv a (w.at d) c),ops)/\aP T S n N0 n0 w0 ms ws fs p ρ (ei q i k) (λ _=>1) a (t++ops) (w.at d):=by
 have⟨a,ops,o,r,s,H⟩:=h.c.f z G C y d c A E u v F;refine⟨a,ops,o,s,h.a.F f (hq _) (λ _ _=>rfl) ⟨rfl,rfl,rfl⟩ (λ j x own b e=> ⟨rfl,(h.a.g j x own _ e).2 b rfl⟩) (λ _ _=>rfl) h.a.l h.a.f (λ op B=>?_) (λ op B x I=>?_) ⟨rfl,rfl,rfl⟩,r.trans h.e,h.o,h.r,h.f,h.u,h.k,λ l m K e D=>?_⟩
 grind[xd]
 grind[hB]
 obtain⟨m1,m2⟩:=h.m l m K e D;exact⟨f.f _ _ _ _ _ m1 (jn _ _ _),m2⟩
theorem Ab.z{ms' ws' fs'}(h:Ab T n N0 w0 ms ws fs p t w)(N:ed T ms' ws' fs')(O:ib T ms' ws' fs' w')(I:∃s,w'.heap[T.c]?=some (.chan 0 #[] fs'.c s s false))(H:∃s,w'.heap[T.b]?=some (.chan 0 #[] fs'.a s s false))(G:w'.heap.size=w.heap.size)(F:∀a,a≠T.a->a≠T.c->a≠T.b->w'.heap[a]?=w.heap[a]?)(M:∀i,bE n ws' fs' i->T.p (p' i))(own:∀j x own A,ws' j= .eh x own A->T.j x own A w'/\∀b,A=some b->(p' (n+j)).b b)(J:∀i a,(p' i).b a->N0<=a)(L:∀op∈u,op.act≠ .mark (.release (bg T.a)))(said:∀k x,hR (t++u) k=some x->x.kind= .said->x.loc= .cell (dL T.a)->if fs'.d=true then hv (t++u) (n+3) k else(fs'= .cg->hv (t++u) 0 k))(z:w'.os=w.os/\w'.output=w.output/\w'.tape=w.tape):Ab T n N0 w0 ms' ws' fs' p' (t++u) w' where
 e:=h.e
 l:=M
 y:=λ a v=>(F a (h.u a v).2.1 (h.u a v).2.2.1 (h.u a v).2.2.2).trans (h.y a v)
 c:=h.c
 d:=N
 o:=O
 r:=I
 q:=H
 g:=own
 D:=λ op K=>(l8.1 K).elim (h.D op) (L op)
 B:=said
 E:=λ a v=>(F a (by have:=h.C;omega) (by have:=h.C;omega) (by have:=h.C;omega)).trans (h.E a v)
 f:=J
 C:=h.C
 u:=λ a v=> ⟨by rw[G];exact(h.u a v).1,(h.u a v).2⟩
 m:= ⟨z.1.trans h.m.1,z.2.1.trans h.m.2.1,z.2.2.trans h.m.2.2.1,by rw[G];exact h.m.2.2.2.1,h.m.2.2.2.2⟩
theorem Ab.h{fs':bJ}(h:Ab T n N0 w0 ms ws fs p t w)(j:∀op∈u,∀x,op.act.touch?=some x->x.kind≠ .said)(b:fs'.d=fs.d)(c:fs'= .cg↔fs= .cg):∀k x,hR (t++u) k=some x->x.kind= .said->x.loc= .cell (dL T.a)->if fs'.d=true then hv (t++u) (n+3) k else(fs'= .cg->hv (t++u) 0 k):=λ k x g d f=>by
 rcases lx g with⟨_,a⟩| ⟨_,op,a,_,i⟩;have:=h.B k x a d f;rw[b];split at this;rw[if_pos ‹_›];exact this.app u;rw[if_neg ‹_›];exact λ e=>(this (c.1 e)).app u;grind
theorem mJ{ws' fs'}(h1:∀j,j<3->(ws' j).e=(ws j).e)(h2:fs'.d=fs.d):bE n ws' fs'=bE n ws fs:=by grind[bE]
end
section
variable {es:Array hD} {g:Nat} {A:Nat->Prop} {rp:jc->Prop} {Wg:Nat} {st sm:Int} {a:hP} {m:Mark} {fn:fb}
def bD.d:bD->Nat| .iN j=>100- 10*j| .lI=>95| .go j=>92- 10*j| .mW=>60| .eD _=>5| .dH _=>4| .eF _=>0
def bm.c:bm->Nat| .fD=>13| .eC=>12| .eA=>11| .iz _=>14| .eh _ _ _=>13| .lN=>10| .ln=>9| .lF=>8| .dg=>7| .dA=>6| .dt=>5| .cd=>0
def bJ.b(m c:Nat):bJ->Nat| .cg=>8*m+200| .dF k=>8* (m- k)+150| .ff k=>8* (m- k)+149| .ir=>50+10*c| .lD d=>45+10*d| .iH=>40| .eE=>35| .dZ=>34| .kI=>30| .jC=>25| .fG=>20| .dD=>0
def bW(m:Nat)(ms:bD)(ws:Nat->bm)(fs:bJ):=ms.d+ ((ws 0).c+ ((ws 1).c+ (ws 2).c))+fs.b m (bz ms ws)
section
variable{P:ef}{T:dY P}{S:Nat->Prop}{n N0 n0:Nat}{w0:dr}{ms ms':bD}{ws ws':Nat->bm}{fs fs':bJ}{p p':Nat->ai}{ρ:Nat->dm}{q wk:Nat->Nat}{gs:Array b2}{t u:fl}{w w':dr}
theorem aP.E(C:T.g)(h:aP T S n N0 n0 w0 ms ws fs p ρ q wk gs t w){i g g'}(y:gs[i]?=some g)(d)(u)(Q:eg P (i==0) g (w.at d)= .go g' w' es)(M:bP S (λ b=>b=T.a\/b=T.c\/b=T.b) n0 (bE n ws' fs') (de T ms' fs') p' (t++cr i g.frame.fn g.frame.place es) w')(hp:∀j,j≠i->p' j=p j)(k)(o)(R:w'.heap.size=w.heap.size)(Z:∀a,a≠T.a->a≠T.c->a≠T.b->w'.heap[a]?=w.heap[a]?)(O:∀c,(c=T.a\/c=T.c\/c=T.b)->dT w c->dT w' c)(s:w'.os=w.os/\w'.output=w.output/\w'.tape=w.tape)(D:Ab T n N0 w0 ms' ws' fs' p' (t++cr i g.frame.fn g.frame.place es) w')(ac:eJ P (λ b=>b=T.a\/b=T.c\/b=T.b) i (eL (ej t i) es) (p' i) o 1 g' w' k)(W:∀Stop r,k= .cC Stop r->bE n ws' fs' i)(H:∀j,j≠i->bE n ws fs j->bE n ws' fs' j)(J:ms'.a=ms.a)(Y:i=0\/n<=i)(A:i≠0->ms'=ms)(N:i=0->rI T ms' k/\∀l,ms'≠ .dH l)(U:∀j,n+j≠i->ws' j=ws j)(ad:∀j,j<3->n+j=i->uY T (ws' j) k)(L:i≠n+3->fs'=fs)(X:i=n+3->xq T fs' k):∃v ops,lb P (fv gs (w.at d) u) i=(.next (fv v w' u),ops)/\aP T S n N0 n0 w0 ms' ws' fs' p' (ei ρ i k) (ei q i o) (λ _=>1) v (t++ops) w':=by have m:∀j,j≠i->bO (p j) w w':=λ j f=> ⟨eQ R.symm,λ a I=>by have:=(h.c.k.c j a I).2.2;grind,s.1,s.2.1,s.2.2⟩;have V:=(h.c.c d).l y M hp (ρ':=ei ρ i k) (q':=ei q i o) (λ j f=>dk ρ k f) (λ j f=>dk q o f) (λ j f=> ⟨(m j f).b,(m j f).e,(m j f).i,(m j f).f,(m j f).h⟩) O (by grind[df]) (λ j Stop r e=>by by_cases f:j=i;grind[df];rw[dk ρ k f]at e;exact H j f (h.c.b j _ r e)) (g':=g');have aa:=h.a.e;refine⟨_,_,gu (sl:=u) y Q,V,D,by simp[h.e,J],h.o,?_,λ j f=>?_,?_,λ ae h0 G=>?_,λ l F K e B=>?_⟩;by_cases h0:i=0;grind[df];rw[dk _ _ (Ne.symm h0),A h0];exact h.r;by_cases z:n+j=i;grind[df];rw[dk _ _ z,U j z];exact h.f j f;by_cases x:i=n+3;grind[df];rw[dk _ _ (Ne.symm x),L x];exact h.u;rw[dk _ _ (by omega)];exact h.k _ h0 G;have h0:i≠0:=λ E=>(N E).2 l e;rw[dk ρ k (Ne.symm h0)]at B;have⟨m1,m2⟩:=h.m l F K (A h0▸e) B;rw[hp 0 (Ne.symm h0)];exact⟨C.f _ _ _ _ _ m1 (by grind),m2⟩
theorem Ma(w:dr)(a)(v):(w.setCell a v).heap.size=w.heap.size:=by simp
theorem nI(w:dr)(a)(v){b}(h:b≠a.block):(w.setCell a v).heap[b]?=w.heap[b]?:=by grind[World.setCell]
theorem w7(h:ba Wg w st sm)(x):ba Wg (w.setCell (bg Wg) (.int .u64 x)) x sm:=by
 have⟨ty,e⟩:=h;refine⟨ty,?_⟩
 haveI:ck:= ⟨λ _=>false,0⟩
 haveI:aW:= ⟨0,λ _=>true,λ _ _=>False,λ _ _ _ h=>h.elim⟩;rw[Rs.Cp rfl e];grind
theorem I7(h:ba Wg w st sm)(x):ba Wg (w.setCell (dL Wg) (.int .u32 x)) st x:=by
 have⟨ty,e⟩:=h;refine⟨ty,?_⟩
 haveI:ck:= ⟨λ _=>false,0⟩
 haveI:aW:= ⟨0,λ _=>true,λ _ _=>False,λ _ _ _ h=>h.elim⟩;rw[Rs.Cp rfl e];grind
theorem JE(h:ba Wg w st sm)(f:a.block=Wg)(v){c}(b:dT w c):dT (w.setCell a v) c:=by have⟨s,r,e⟩:=b;have⟨ty,d⟩:=h;refine⟨s,r,?_⟩;grind[nI]
theorem wh(h:bP S (λ b=>b=T.a\/b=T.c\/b=T.b) n0 A rp p t w)(k:A g)(fn)(pos)(j:∀e∈es,e.mute=true\/(∃a i,e= ⟨.cell a,i,true⟩/\a.block=T.a)):bP S (λ b=>b=T.a\/b=T.c\/b=T.b) n0 A rp p (t++cr g fn pos es) w:=by
 refine h.C (λ op c=>gz c) (λ op c=>?_) (λ op c x m=>?_) (.inl k);obtain⟨e,d,rfl⟩:=eb c;rcases j e d with l| ⟨a,i,rfl,f⟩;exact pH l _;show a.block<_;rw[f];exact h.d _ (.inr (.inl rfl));obtain⟨e,d,rfl⟩:=eb c;rcases j e d with l| ⟨a,i,rfl,f⟩
 grind[hB]
 simp only[hL,eH,Option.some.injEq]at m;subst m;exact⟨⟨_,rfl,.inl f⟩,by simp,by simp,.inl k⟩
theorem DY(h:bP S (λ b=>b=T.a\/b=T.c\/b=T.b) n0 A rp p t w)(y:S T.a)(z:0<ej t g)(fn)(pos)(j:∀e∈es,(∃a i,e= ⟨.cell a,i,true⟩/\a.block=T.a)):bP S (λ b=>b=T.a\/b=T.c\/b=T.b) n0 A rp p (t++cr g fn pos es) w:=by
 have F:∀e∈es,e.loc≠ .mark .disable/\e.loc≠ .mark .enable:=λ e c=>by grind
 refine h.C (λ op d=>gz d) (λ op d=>?_) (λ op d x l=>?_) (.inr λ k op B d D n=>?_);obtain⟨e,c,rfl⟩:=eb d;obtain⟨a,i,rfl,f⟩:=j e c;show a.block<_;rw[f];exact h.d _ (.inr (.inl rfl));obtain⟨e,c,rfl⟩:=eb d;obtain⟨a,i,rfl,f⟩:=j e c;simp only[hL,eH,Option.some.injEq]at l;subst l;exact⟨⟨_,rfl,.inl f⟩,by simp,by simp,.inr ⟨rfl,(show S _ by grind)⟩⟩;obtain⟨g',s,u⟩:=n;have E:op∈cr g fn pos es:=by
  grind
 have m:g'=g:=by
  grind[cr,Trace.g?,gz,gE]
 subst m;have key:∀k,t.size<=k->k<=(t++cr g' fn pos es).size->(t++cr g' fn pos es).deaf g' k=ej t g':=by
  intro k
  induction k with
  |zero=>
   intro c _;have:t.size=0:=by omega
   unfold ej;rw[this];rfl
  |succ k r=>
   intro c v;by_cases o:t.size<=k;have q:(t++cr g' fn pos es)[k]?=some ((t++cr g' fn pos es)[k]'(by omega)):=ko (by omega);rw[deaf_succ q,r o (by omega)];have C:(t++cr g' fn pos es)[k]'(by omega)∈cr g' fn pos es:=by
    grind
   grind[eb,j3,hL]
   have:k+1=t.size:=by omega
   rw[this,deaf_old (hq _)];rfl
 grind
theorem Pw(h:bP S (λ b=>b=T.a\/b=T.c\/b=T.b) n0 A rp p t w)(g)(fn)(pos)(d:m= .acquire (bg T.a)\/m= .releaseMerge (bg T.a)):bP S (λ b=>b=T.a\/b=T.c\/b=T.b) n0 A rp p (t++cr g fn pos (fp m)) w:=by refine h.z (λ op c=>gz c) (λ op c=>?_) (λ op c=>?_);obtain⟨e,a,rfl⟩:=eb c;simp[fp]at a;subst a;rcases d with rfl|rfl<;>exact h.d _ (.inr (.inl rfl));obtain⟨e,a,rfl⟩:=eb c;simp[fp]at a;subst a;rcases d with rfl|rfl<;>rfl
theorem P7(h:bP S (λ b=>b=T.a\/b=T.c\/b=T.b) n0 A rp p t w)(d:A g)(fn)(pos)(f:m= .read (dL T.a)\/m= .write (dL T.a))(j:∀k x,hR t k=some x->x.kind= .said->x.loc= .cell (dL T.a)->hv t g k):bP S (λ b=>b=T.a\/b=T.c\/b=T.b) n0 A rp p (t++cr g fn pos (fp m)) w:=by
 refine h.C (λ op c=>gz c) (λ op c=>?_) (λ op c x l=>?_) (.inl d);obtain⟨e,a,rfl⟩:=eb c;simp[fp]at a;subst a;rcases f with rfl|rfl<;>exact h.d _ (.inr (.inl rfl))
 obtain⟨e,a,rfl⟩:=eb c;simp[fp]at a;subst a;have i:x.loc= .cell (dL T.a)/\x.kind= .said:=by
  grind[ee,eH,Option.some.injEq]
 refine⟨⟨_,by rw[i.1];rfl,.inl rfl⟩,by grind,by grind,.inl d⟩
theorem uh{pos}(h:∀e∈es,ee e≠ .mark (.release a)):∀op∈cr g fn pos es,op.act≠ .mark (.release a):=λ op c=>by obtain⟨e,b,rfl⟩:=eb c;exact h e b
theorem uM{pos}(h:∀e∈es,∀x,(ee e).touch?=some x->x.kind≠ .said):∀op∈cr g fn pos es,∀x,op.act.touch?=some x->x.kind≠ .said:=λ op b=>by obtain⟨e,a,rfl⟩:=eb b;exact h e a
end
end
section
variable {j:Nat} {x:bm} {m:Nat} {es:Array hD}
def dO{P:ef}(T:dY P)(S:Nat->Prop)(n N0 n0:Nat)(w0:dr)(i d:Nat)(b:Option (Nat×Nat))(gs:Array b2)(t:fl)(w:dr)(F:Nat):=∃a w' ops ms' ws' fs' p' ρ' q' wk',lb P (fv gs (w.at d) b) i=(.next (fv a w' b),ops)/\aP T S n N0 n0 w0 ms' ws' fs' p' ρ' q' wk' a (t++ops) w'/\bW T.d.length ms' ws' fs'<F
section
variable{P:ef}{T:dY P}{S:Nat->Prop}{n N0 n0:Nat}{w0:dr}{ms ms':bD}{ws ws':Nat->bm}{fs fs':bJ}{p p':Nat->ai}{ρ:Nat->dm}{q wk:Nat->Nat}{gs:Array b2}{t u:fl}{w w':dr}
theorem ed.s(h:ed T ms ws fs)(a:ms'.a=ms.a)(b:ms'.f=ms.f)(hp:∀l,ms'≠ .dH l)(d:∀l,ms'≠ .eF l):ed T ms' ws fs:= ⟨h.g,by grind,h.f,λ l _=>hp l,h.b,λ j c=>by rw[a];exact h.d j c,by rw[a];exact h.a,h.c,by rw[b];exact h.e,by grind⟩
theorem ed.r(h:ed T ms ws fs)(p:j<3)(m:ws j≠ .fD)(q:x≠ .fD)(hp:x≠ .eA)(r:∀a b c,x≠ .eh a b c)(s:x.g=true->fs.c=true)(o:x.a=(ws j).a):ed T ms (ei ws j x) fs:=by
 have e:∀l,l≠j->ei ws j x l=ws l:=λ l d=>dk ws x d;have hand:∀l,(ei ws j x l).a=(ws l).a:=λ l=>by grind[df]
 refine⟨λ k l g=>?_,λ l l' y own t i=>?_,λ n l=>?_,h.n,λ l d=>?_,λ l d=>?_,h.a,λ l d=>?_,by rw[hand,hand,hand];exact h.e,h.i⟩;by_cases d:l=j
 grind[df]
 rw[e l d];exact h.g k l g;by_cases d:l'=j
 grind[df]
 rw[e _ d];exact h.h l _ y _ _ i;by_cases d:l=j
 grind[df]
 rw[e l d];exact h.f n l;by_cases f:l=j
 grind[df]
 rw[e l f]at d;exact h.b l d;by_cases f:l=j;subst f;rw[df];exact⟨by grind,λ e=>absurd ((h.d l d).2 e) m⟩;rw[e l f];exact h.d l d;rw[e l (by omega)];exact h.c l d
theorem ed.o(h:ed T ms ws fs)(h1:fs.c=true)(h2:fs'.c=true)(h3:∀k,fs'≠ .ff k)(h4:fs≠ .cg)(b:fs'≠ .cg)(h5:fs.e T.d.length=T.d.length)(a:fs'.e T.d.length=T.d.length)(h6:fs'= .dD->∀l,ms≠ .dH l)(h7:fs≠ .dD):ed T ms ws fs':= ⟨by grind,h.h,λ _=>h.f h1,λ l e=>h6 e l,λ j _=>h2,h.d,⟨by grind,λ e=>absurd (h.a.2 e) h4⟩,h.c,by rw[a,<-h5];exact h.e,λ l e=>absurd (h.i l e) h7⟩
theorem sj(h:x.e=(ws j).e)(l):(ei ws j x l).e=(ws l).e:=by grind[df,dk]
theorem KE(h:x.b=(ws j).b)(l):(ei ws j x l).b=(ws l).b:=by grind[df,dk]
theorem oG(h:x.b=(ws j).b):bz ms (ei ws j x)=bz ms ws:=by grind[bz,KE]
theorem zB(b:j<3)(h:x.b=true)(a:(ws j).b=false):bz ms (ei ws j x)=bz ms ws- 1:=by grind[ei,dk,df,bz]
theorem rb(b:j<3)(h:x.b=(ws j).b)(a:x.c< (ws j).c):bW m ms (ei ws j x) fs<bW m ms ws fs:=by grind[ei,dk,df,bW,oG]
theorem E4(h:fs'.b m (bz ms ws)<fs.b m (bz ms ws)):bW m ms ws fs'<bW m ms ws fs:=by unfold bW;omega
theorem Fj(h:ed T ms ws fs)(b:fs.c=false):∀j,(ws j).b=false:=λ j=>by cases a:(ws j).b with|false=>rfl|true=>
 have:(ws j).g=true:=by generalize ws j=x at a;cases x<;>first|rfl|cases a
 rw[h.b j this]at b;omega
theorem Dp(h:ed T ms ws fs)(a:fs.c=false):bz ms ws=ms.c:=by unfold bz;rw[Fj h a,Fj h a,Fj h a];simp
theorem nj(e){b}(f:es=gK (bg b)\/es=jK (bg b)\/es=qP (bg b))(d:e∈es):∃a c,e= ⟨.cell a,c,true⟩/\a.block=b:=by grind[gK,jK,qP]
theorem Aj(a b)(c):ee ⟨.cell b,c,true⟩≠ .mark (.release a):=by grind[hL]
theorem yd(b)(a)(x)(h:(ee ⟨.cell b,a,true⟩).touch?=some x):x.kind≠ .said:=by grind[hL,eH,Option.some.injEq]
theorem qY(d)(a)(b:es=gK a\/es=jK a\/es=qP a):eL d es=d:=by grind[oj,gK,jK,qP]
theorem E6{st e}(h:ba T.a w st e)(x):(w.setCell (bg T.a) (.int .u64 x)).heap.size=w.heap.size/\(∀a,a≠T.a->a≠T.c->a≠T.b->(w.setCell (bg T.a) (.int .u64 x)).heap[a]?=w.heap[a]?)/\(∀c,(c=T.a\/c=T.c\/c=T.b)->dT w c->dT (w.setCell (bg T.a) (.int .u64 x)) c):= ⟨Ma _ _ _,λ a b _ _=>nI _ _ _ b,λ c _ d=>JE h rfl _ d⟩
theorem IA{st e}(h:ba T.a w st e)(x):(w.setCell (dL T.a) (.int .u32 x)).heap.size=w.heap.size/\(∀a,a≠T.a->a≠T.c->a≠T.b->(w.setCell (dL T.a) (.int .u32 x)).heap[a]?=w.heap[a]?)/\(∀c,(c=T.a\/c=T.c\/c=T.b)->dT w c->dT (w.setCell (dL T.a) (.int .u32 x)) c):= ⟨Ma _ _ _,λ a b _ _=>nI _ _ _ b,λ c _ d=>JE h rfl _ d⟩
theorem aP.ajY(m:T.g)(h:aP T S n N0 n0 w0 (.iN j) ws fs p ρ q wk gs t w){g}(I:gs[0]?=some g)(N:T.n j (ej t 0) g)(d)(B):dO T S n N0 n0 w0 0 d B gs t w (bW T.d.length (.iN j) ws fs):=by
 have⟨ab,ae,g',M,L,k,ad⟩:=m.M j _ g N;have⟨ac,ah⟩:=h.r;have r:=h.a.d;have K:fs= .cg:=r.a.2 (by show min j 3<=3;omega);subst K;have aa:bz (.iN j) ws=j:=Dp r rfl;have o:ba T.a w (bR j 0) 0:=by have:=h.a.o.1;grind
 have G:∀l,ws l≠ .dg/\ws l≠ .dA/\ws l≠ .dt:=h.a.o.2;have⟨u,C,X⟩:=E6 (T:=T) o (bR (j+1) 0);let ms':bD:=if j=0 then .lI else .go j;have i:ms'.a=(bD.iN j).a:=by grind[min,bD.a]
 have H:ms'.f=(bD.iN j).f:=by show(if j=0 then bD.lI else bD.go j).f=_;split<;>rfl
 have v:∀l,ms'≠ .dH l:=λ l=>by grind
 have Q:∀l,ms'≠ .eF l:=λ l=>by grind
 have F:ms'.c=j+1:=by grind[bD.c]
 have A:ed T ms' ws .cg:=r.s i H v Q;have af:de T ms' .cg=de T (.iN j) .cg:=by grind[de]
 have O:eg P (0==0) g (w.at d)= .go g' ((w.at d).setCell (bg T.a) (.int .u64 (bR (j+1) 0))) (gK (bg T.a)):=M (w.at d) o;have E:∀e∈gK (bg T.a),∃a W,e= ⟨.cell a,W,true⟩/\a.block=T.a:=λ e c=>nj e (.inl rfl) c;have ai:=(wh (h.c.c d).k (g:=0) (.inl rfl) g.frame.fn g.frame.place (λ e c=> .inr (E e c))).m (w':=(w.at d).setCell (bg T.a) (.int .u64 (bR (j+1) 0))) (eQ u.symm);have D:Ab T n N0 w0 ms' ws .cg p (t++cr 0 g.frame.fn g.frame.place (gK (bg T.a))) ((w.at d).setCell (bg T.a) (.int .u64 (bR (j+1) 0))):=by
  refine h.a.z A ⟨?_,G⟩ (let⟨s,e⟩:=h.a.r; ⟨s,(nI _ _ _ (Ne.symm h.a.c.2.1)).trans e⟩) (let⟨s,e⟩:=h.a.q; ⟨s,(nI _ _ _ (Ne.symm h.a.c.2.2)).trans e⟩) u C h.a.l (λ l x own z e=>?_) h.a.f
   (uh λ e c=>by grind[f,Aj]) (h.a.h (uM λ e c x ag=>by grind[f,yd]) rfl Iff.rfl) ⟨rfl,rfl,rfl⟩
  rw[Dp A rfl,F];exact w7 o _;have⟨R,y⟩:=h.a.g l x own z e;refine⟨m.e x own z w _ R λ b i=>nI _ _ _ λ Y=>?_,y⟩;have:=(h.c.k.c _ b (h.c.k.e _ b (y b i))).2.2
  grind
 have J:rI T ms' (.cF T.J (if j=0 then T.t else T.B j)):=by
  grind[rI]
 have⟨Z,ops,U,V⟩:=h.E m I d B O (p':=p) (ms':=ms') (ws':=ws) (fs':= .cg) (by grind) (λ _ _=>rfl) (.cF T.J (if j=0 then T.t else T.B j)) k u C X ⟨rfl,rfl,rfl⟩ D
  ⟨.inl L,by grind[qY]⟩ (λ _ _ e=>by cases e) (λ _ _ x=>x) i (.inl rfl) (λ e=>absurd rfl e) (λ _=> ⟨J,v⟩) (λ _ _=>rfl) (λ l _ e=>by have:=h.a.e;omega) (λ _=>rfl) (λ e=>by omega)
 refine⟨_,_,_,_,_,_,p,_,_,_,U,V,?_⟩
 grind[bW,bD.d,bJ.b]
end
end
section
variable{P:ef}{T:dY P}{S:Nat->Prop}{n N0 n0:Nat}{w0:dr}{ms ms':bD}{ws ws':Nat->bm}{fs fs':bJ}{p p':Nat->ai}{ρ:Nat->dm}{q wk:Nat->Nat}{gs:Array b2}{t u:fl}{w w':dr}
variable {es:Array hD} {J:dr->Prop}
theorem aP.C(v:T.g)(h:aP T S n N0 n0 w0 ms ws fs p ρ q wk gs t w){i g g'}(H:gs[i]?=some g)(d)(B)(Y:eg P (i==0) g (w.at d)= .go g' w' es)(K:bP S (λ b=>b=T.a\/b=T.c\/b=T.b) n0 (bE n ws fs) (de T ms fs) p (t++cr i g.frame.fn g.frame.place es) (w.at d))(y:bE n ws' fs'=bE n ws fs)(W:de T ms' fs'=de T ms fs)(u:w'.heap.size=w.heap.size)(m:∀a,a≠T.a->w'.heap[a]?=w.heap[a]?)(O:∀c,(c=T.a\/c=T.c\/c=T.b)->dT w c->dT w' c)(z:w'.os=w.os/\w'.output=w.output/\w'.tape=w.tape)(ac:ed T ms' ws' fs')(af:ib T ms' ws' fs' w')(X:fs'.c=fs.c)(G:fs'.a=fs.a)(Q:∀j x own f,ws' j= .eh x own f->ws j= .eh x own f)(U:∀e∈es,ee e≠ .mark (.release (bg T.a)))(said:∀k x,hR (t++cr i g.frame.fn g.frame.place es) k=some x->x.kind= .said->x.loc= .cell (dL T.a)->if fs'.d=true then hv (t++cr i g.frame.fn g.frame.place es) (n+3) k else(fs'= .cg->hv (t++cr i g.frame.fn g.frame.place es) 0 k))(Stop)(V:bM P (i==0) J (eL (ej t i) es) g' Stop)(r:ms'.a=ms.a)(I:i=0\/n<=i)(N:i≠0->ms'=ms)(M:i=0->rI T ms' (.cF J Stop)/\∀l,ms'≠ .dH l)(aa:∀j,n+j≠i->ws' j=ws j)(Z:∀j,j<3->n+j=i->uY T (ws' j) (.cF J Stop))(F:i≠n+3->fs'=fs)(E:i=n+3->xq T fs' (.cF J Stop))(D:bW T.d.length ms' ws' fs'<bW T.d.length ms ws fs):dO T S n N0 n0 w0 i d B gs t w (bW T.d.length ms ws fs):=by
 have⟨R,k,L⟩:=V;have C:Ab T n N0 w0 ms' ws' fs' p (t++cr i g.frame.fn g.frame.place es) w':=by refine h.a.z ac af (let⟨s,e⟩:=h.a.r; ⟨s,by rw[X,m _ (Ne.symm h.a.c.2.1)];exact e⟩) (let⟨s,e⟩:=h.a.q; ⟨s,by rw[G,m _ (Ne.symm h.a.c.2.2)];exact e⟩) u (λ a o _ _=>m a o) (by rw[y];exact h.a.l) (λ l x own f e=>?_) h.a.f (uh U) said z;have⟨ab,A⟩:=h.a.g l x own f (Q l x own f e);refine⟨v.e x own f w _ ab λ b r=>m b λ ag=>?_,A⟩;have:=(h.c.k.c _ b (h.c.k.e _ b (A b r))).2.2;omega
 have⟨ah,ops,ad,ae⟩:=h.E v H d B Y (p':=p) (ms':=ms') (ws':=ws') (fs':=fs') (by rw[y,W];exact K.m (eQ u.symm)) (λ _ _=>rfl) (.cF J Stop) k u (λ a o _ _=>m a o) O z C ⟨.inl R,L⟩ (λ _ _ e=>by cases e) (λ _ _ x=>by simp_all) r I N M aa Z F E;exact⟨_,_,_,_,_,_,p,_,_,_,ad,ae,D⟩
theorem Jj(ms ms')(fs)(h:∀l,ms≠ .eF l)(a:∀l,ms'≠ .eF l):de T ms' fs=de T ms fs:=by cases ms<;>cases ms'<;>first|rfl| (exfalso;exact h _ rfl)| (exfalso;exact a _ rfl)| (cases fs<;>rfl)
theorem wu(ms)(fs fs')(h:fs≠ .dD/\fs≠ .fG)(a:fs'≠ .dD/\fs'≠ .fG):de T ms fs'=de T ms fs:=by cases ms<;>cases fs<;>cases fs'<;>first|rfl| (exfalso;exact h.1 rfl)| (exfalso;exact h.2 rfl)| (exfalso;exact a.1 rfl)| (exfalso;exact a.2 rfl)
theorem aP.U(c:T.g)(h:aP T S n N0 n0 w0 .lI ws fs p ρ q wk gs t w){g}(r:gs[0]?=some g)(z:T.t (ej t 0) g)(d)(m):dO T S n N0 n0 w0 0 d m gs t w (bW T.d.length .lI ws fs):=by
 have⟨B,E,g',y,F⟩:=c.A _ g z;have l:=h.a.d;have v:fs= .cg:=l.a.2 (by trivial);subst v;have D:=h.a.e;have f:∀k x,hR t k=some x->x.kind= .said->x.loc= .cell (dL T.a)->hv t 0 k:=λ k x a b o=>(h.a.B k x a b o) rfl;refine h.C c (i:=0) r d m (ms':= .go 0) (ws':=ws) (fs':= .cg) (y (w.at d)) (P7 (h.c.c d).k (.inl rfl) _ _ (.inl rfl) f) rfl (Jj _ _ _ (by simp) (by simp)) rfl (λ _ _=>rfl) (λ _ _ x=>x) ⟨rfl,rfl,rfl⟩ (l.s rfl rfl (by simp) (by simp)) ?_ rfl rfl (λ _ _ _ _ e=>e) (λ e C=>?_) (λ k x A s u=>?_) (T.B 0) ?_ rfl (.inl rfl) (λ e=>absurd rfl e) (λ _=> ⟨⟨by omega,rfl⟩,by simp⟩) (λ _ _=>rfl) (λ j _ e=>by omega) (λ _=>rfl) (λ e=>by omega) ?_;have:=h.a.o;trivial
 grind[fp,ee]
 show(.cg:bJ)= .cg->_;intro _;rcases lx A with⟨_,a⟩| ⟨_,op,a,b,_⟩
 exact(f k x a s u).app _;have:=o1 b
 grind[gz];all_goals grind[eL,ej,fp,read,bW,bD.d,bJ.b]
theorem rO(h:aP T S n N0 n0 w0 ms ws fs p ρ q wk gs t w)(j):n+j≠0:=by have:=h.a.e;omega
theorem aP.s(z:T.g)(h:aP T S n N0 n0 w0 ms ws fs p ρ q wk gs t w){j}(F:j<3){g g'}(E:gs[n+j]?=some g)(d)(v){x}(V:eg P false g (w.at d)= .go g' w' es)(G:bP S (λ b=>b=T.a\/b=T.c\/b=T.b) n0 (bE n ws fs) (de T ms fs) p (t++cr (n+j) g.frame.fn g.frame.place es) (w.at d))(B:x.e=(ws j).e)(N:w'.heap.size=w.heap.size)(H:∀a,a≠T.a->w'.heap[a]?=w.heap[a]?)(M:∀c,(c=T.a\/c=T.c\/c=T.b)->dT w c->dT w' c)(L:w'.os=w.os/\w'.output=w.output/\w'.tape=w.tape)(o:(ws j).g=true)(m:x.g=true)(O:ib T ms (ei ws j x) fs w')(R:∀e∈es,e.mute=true\/∃a Q,e= ⟨.cell a,Q,true⟩)(Stop)(U:bM P false J (eL (ej t (n+j)) es) g' Stop)(W:uY T x (.cF J Stop))(A:bW T.d.length ms (ei ws j x) fs<bW T.d.length ms ws fs):dO T S n N0 n0 w0 (n+j) d v gs t w (bW T.d.length ms ws fs):=by
 have u:=h.a.d;have K:=rO h j;have r:((n+j)==0)=false:=by grind
 have k:∀y:bm,y.g=true->y.a= []/\y≠ .fD/\y≠ .eA/\∀a b c,y≠ .eh a b c:=λ y s=>by cases y<;>first| (cases s;done)|exact⟨rfl,by simp,by simp,by simp⟩
 have D:∀e∈es,∀y,(ee e).touch?=some y->y.kind≠ .said:=λ e C y s=>by grind[f,hB,yd]
 refine h.C z (i:=n+j) E d v (ms':=ms) (ws':=ei ws j x) (fs':=fs) (by rw[r];omega) G (mJ (λ l _=>sj B l) rfl) rfl N H M L (u.r F (k _ o).2.1 (k _ m).2.1 (k _ m).2.2.1 (k _ m).2.2.2 (λ _=>u.b j o) ((k _ m).1.trans (k _ o).1.symm)) O rfl rfl (λ l y own X e=>?_) (λ e C=>?_) (h.a.h (uM D) rfl Iff.rfl) Stop (by rw[r];omega) rfl (.inr (by omega)) (λ _=>rfl) (λ e=>absurd e K) (λ l I=>dk ws x (by omega)) (λ l _ I=>?_) (λ _=>rfl) (λ e=>by omega) A;all_goals grind[df,absurd,dk,f,xd,Aj]
end
section
variable{P:ef}{T:dY P}{S:Nat->Prop}{n N0 n0:Nat}{w0:dr}{ms ms':bD}{ws ws':Nat->bm}{fs fs':bJ}{p p':Nat->ai}{ρ:Nat->dm}{q wk:Nat->Nat}{gs:Array b2}{t u:fl}{w w':dr}
variable {j:Nat} {x:bm} {g:b2}
theorem Wk(m){c c'}(h:c<=c'):bJ.b m c fs<=bJ.b m c' fs:=by cases fs<;>simp[bJ.b]<;>omega
theorem Vn{m}(g:j<3)(f:x.c< (ws j).c)(h:x.b=(ws j).b\/(x.b=true/\(ws j).b=false)):bW m ms (ei ws j x) fs<bW m ms ws fs:=by
 obtain h| ⟨c,d⟩:=h;simp_all[rb];have e:∀l,l≠j->ei ws j x l=ws l:=λ l b=>dk ws x b;have s:ei ws j x j=x:=df ws j x;have a:bz ms (ei ws j x)<=bz ms ws:=by grind[zB]
 have i:=Wk (fs:=fs) m a
 grind[bW]
theorem JV(h:ed T ms ws fs)(b:fs≠ .cg):ms.c=3:=by have:¬ms.a<=3:=λ a=>b (h.a.2 a);cases ms<;>simp[bD.a,bD.c]at this⊢<;>omega
theorem J0:bz ms ws<=ms.c:=by unfold bz;omega
theorem O3(b:j<3)(a:ms.c=3)(c:(ws j).b=false):0<bz ms ws:=by grind[bz]
theorem Zv(c:j<3)(a:ms.c=3)(d:(ws j).b=false)(b:bz ms ws=1):∀l,l<3->l≠j->(ws l).b=true:=by grind[bz]
theorem Nu(h:x.b=true)(h1:x≠ .dg/\x≠ .dA/\x≠ .dt):x= .cd:=by cases x<;>first|rfl|exact absurd rfl h1.1|exact absurd rfl h1.2.1|exact absurd rfl h1.2.2|cases h
theorem aP.aj6(F:T.g)(h:aP T S n N0 n0 w0 ms ws fs p ρ q wk gs t w)(i:j<3)(y:ws j= .lF)(R:gs[n+j]?=some g)(Z:T.G (ej t (n+j)) g)(d)(u):dO T S n N0 n0 w0 (n+j) d u gs t w (bW T.d.length ms ws fs):=by
 have⟨Q,ai,V⟩:=F.H _ g Z;have K:=h.a.d;have Y:fs.c=true:=K.b j (by rw[y];rfl);have U:fs≠ .cg:=λ e=>by rw[e]at Y;trivial
 have v:ms.c=3:=JV K U;have o:(ws j).b=false:=by rw[y];rfl
 have P:0<bz ms ws:=O3 i v o;have O:bz ms ws<=3:=v▸J0;have s:∀x,ei ws j x j=x:=λ x=>df ws j x;have e:∀x l,l≠j->ei ws j x l=ws l:=λ x l I=>dk ws x I;have key:∀b E,b<=1->ba T.a w (bR (bz ms ws) b) E->∀x,x=(if bz ms ws=1/\b=1 then .dg else .cd)->
  ib T ms (ei ws j x) fs ((w.at d).setCell (bg T.a) (.int .u64 (bR (bz ms ws- 1) b)))->dO T S n N0 n0 w0 (n+j) d u gs t w (bW T.d.length ms ws fs):=by
  intro b E N J x m f;have⟨g',X,aj⟩:=V (bz ms ws) b P O N;have C:x.g=true/\x.e=false/\x.b=true/\x.c<bm.lF.c:=by rw[m];split<;>exact⟨rfl,rfl,rfl,by simp[bm.c]⟩
  have⟨ad,_,ae⟩:=E6 (T:=T) J (bR (bz ms ws- 1) b);refine h.s F i R d u (x:=x) (X (w.at d) E J) (DY (h.c.c d).k h.o (by omega) _ _ λ e B=>nj e (.inl rfl) B) (by rw[y];exact C.2.1) ad (λ a v=>nI _ _ _ v) ae ⟨rfl,rfl,rfl⟩ (by rw[y];rfl) C.1 f
   (λ e B=> .inr (let⟨a,ac,r,_⟩:=nj e (.inl rfl) B; ⟨a,ac,r⟩)) (if bz ms ws=1/\b=1 then T.x else gM) (by rw[qY _ _ (.inl rfl),Q];omega) ?_ (Vn i (by grind) (.inr ⟨C.2.2.1,o⟩))
  rw[m];split<;>rfl
 have D:∀x,x= .cd->(∀l,ws l≠ .dg/\ws l≠ .dA/\ws l≠ .dt)->∀l,ei ws j x l≠ .dg/\ei ws j x l≠ .dA/\ei ws j x l≠ .dt:=λ x m G l=>by
  grind
 have ak:(ba T.a w (bR (bz ms ws) 1) 0/\0<bz ms ws/\∀l,ws l≠ .dg/\ws l≠ .dA/\ws l≠ .dt)->(fs= .iH\/fs= .eE\/fs= .dZ)->dO T S n N0 n0 w0 (n+j) d u gs t w (bW T.d.length ms ws fs):=λ⟨k1,_,ab⟩H=>by
  refine key 1 0 (hq _) k1 _ rfl ?_;by_cases r:bz ms ws=1;have m:(if bz ms ws=1/\1=1 then bm.dg else .cd)= .dg:=if_pos ⟨r,rfl⟩;rw[m];have A:bz ms (ei ws j .dg)=0:=by rw[zB i rfl o];omega
  have L:∀l,l<3->l≠j->ei ws j .dg l= .cd:=λ l I ah=>by
   grind[Nu,Zv]
  have M:ba T.a ((w.at d).setCell (bg T.a) (.int .u64 (bR (bz ms ws- 1) 1))) (bR 0 1) 0:=by
   rw[r];exact w7 k1 _
  rcases H with rfl|rfl|rfl<;>exact .inr ⟨A,j,i,L,.inl ⟨M,.inl (s _)⟩⟩
  have m:(if bz ms ws=1/\1=1 then bm.dg else .cd)= .cd:=if_neg λ x=>r x.1;rw[m];have A:bz ms (ei ws j .cd)=bz ms ws- 1:=zB i rfl o;have fin:ba T.a ((w.at d).setCell (bg T.a) (.int .u64 (bR (bz ms ws- 1) 1))) (bR (bz ms (ei ws j .cd)) 1) 0/\0<bz ms (ei ws j .cd)/\∀l,ei ws j .cd l≠ .dg/\ei ws j .cd l≠ .dA/\ei ws j .cd l≠ .dt:= ⟨by rw[A];exact w7 k1 _,by omega,D _ rfl ab⟩;rcases H with rfl|rfl|rfl<;>exact .inl fin
 have af:(bz ms ws=0/\∃l,l<3/\(∀l',l'<3->l'≠l->ws l'= .cd)/\((ba T.a w (bR 0 1) 0/\(ws l= .dg\/ws l= .dA))\/(ba T.a w 0 0/\ws l= .dt)\/(ba T.a w 0 1/\ws l= .cd)))->False:=λ⟨k1,_⟩=>by omega
 have ag:(ba T.a w 0 0/\∀l,l<3->ws l= .cd)->False:=λ⟨_,k⟩=>by grind
 have f:=h.a.o;have plain:∀(G:∀l,ws l≠ .dg/\ws l≠ .dA/\ws l≠ .dt),ba T.a w (bR (bz ms ws) 0) 0->(∀W,ba T.a W (bR (bz ms (ei ws j .cd)) 0) 0->ib T ms (ei ws j .cd) fs W)->dO T S n N0 n0 w0 (n+j) d u gs t w (bW T.d.length ms ws fs):=λ G k1 aa=>by
  refine key 0 0 (by omega) k1 _ (by simp) (aa _ ?_);rw[zB i rfl o];exact w7 k1 _
 cases fs with
 |cg=>trivial
 |dF k=>trivial
 |ff k=>trivial
 |ir=>exact plain f.2 f.1 λ W z=> ⟨z,D _ rfl f.2⟩
 |lD c=>exact plain f.2.2 f.1 λ W z=> ⟨z,by rw[zB i rfl o];have:=f.2.1;omega,D _ rfl f.2.2⟩
 |iH=>exact f.elim (by grind) (by omega)
 |eE=>exact f.elim (by grind) (by omega)
 |dZ=>exact f.elim (by grind) (by omega)
 |kI=>trivial
 |jC=>trivial
 |fG=>trivial
 |dD=>trivial
theorem D6(h:aP T S n N0 n0 w0 ms ws fs p ρ q wk gs t w)(d:j<3)(g:ws j= .dg\/ws j= .dA\/ws j= .dt):(fs= .iH\/fs= .eE\/fs= .dZ)/\bz ms ws=0/\(∀l,l<3->l≠j->ws l= .cd)/\(((ws j= .dg\/ws j= .dA)/\ba T.a w (bR 0 1) 0)\/(ws j= .dt/\ba T.a w 0 0)):=by
 have a:=h.a.o;have no:(∀l,ws l≠ .dg/\ws l≠ .dA/\ws l≠ .dt)->False:=λ k=>by grind
 have o:(ba T.a w 0 0/\∀l,l<3->ws l= .cd)->False:=λ⟨_,k⟩=>by grind
 have b:(bz ms ws=0/\∃l,l<3/\(∀l',l'<3->l'≠l->ws l'= .cd)/\((ba T.a w (bR 0 1) 0/\(ws l= .dg\/ws l= .dA))\/(ba T.a w 0 0/\ws l= .dt)\/(ba T.a w 0 1/\ws l= .cd)))->bz ms ws=0/\(∀l,l<3->l≠j->ws l= .cd)/\(((ws j= .dg\/ws j= .dA)/\ba T.a w (bR 0 1) 0)\/(ws j= .dt/\ba T.a w 0 0)):=λ⟨k1,l,f,i,m⟩=>by
  have e:l=j:=by grind
  grind
 cases fs with
 |iH=>exact⟨.inl rfl,a.elim (by grind) b⟩|eE=>exact⟨.inr (.inl rfl),a.elim (by grind) b⟩|dZ=>exact⟨.inr (.inr rfl),a.elim (by grind) (by grind)⟩|lD c=>exact(no a.2.2).elim|kI=>trivial|jC=>trivial|fG=>trivial|dD=>trivial|cg=>exact(no a.2).elim|dF k=>exact(no a.2).elim|ff k=>exact(no a.2).elim|ir=>exact(no a.2).elim
theorem IG(b:fs= .iH\/fs= .eE\/(fs= .dZ/\x≠ .cd))(a:j<3)(e:bz ms ws=0)(h:(ws j).b=true)(f:∀l,l<3->l≠j->ws l= .cd)(i:x.b=true)(k:(ba T.a w' (bR 0 1) 0/\(x= .dg\/x= .dA))\/(ba T.a w' 0 0/\x= .dt)\/(ba T.a w' 0 1/\x= .cd)):ib T ms (ei ws j x) fs w':=by
 have fin:bz ms (ei ws j x)=0/\∃l,l<3/\(∀l',l'<3->l'≠l->ei ws j x l'= .cd)/\((ba T.a w' (bR 0 1) 0/\(ei ws j x l= .dg\/ei ws j x l= .dA))\/(ba T.a w' 0 0/\ei ws j x l= .dt)\/(ba T.a w' 0 1/\ei ws j x l= .cd)):= ⟨by grind[oG],j,a,λ l c d=>by grind[dk],by grind[df]⟩;obtain rfl|rfl| ⟨rfl,g⟩:=b
 exact .inr fin;exact .inr fin;refine .inr ⟨fin.1,j,a,λ l c d=>by grind[dk],?_⟩
 grind[df,id,absurd]
theorem aP.ajW(k:T.g)(h:aP T S n N0 n0 w0 ms ws fs p ρ q wk gs t w)(c:j<3)(b:ws j= .dg)(s:gs[n+j]?=some g)(v:T.x (ej t (n+j)) g)(d)(y):dO T S n N0 n0 w0 (n+j) d y gs t w (bW T.d.length ms ws fs):=by
 have⟨o,A,g',u,B⟩:=k.B _ g v;have⟨z,m,r,i⟩:=D6 h c (.inl b);have i:ba T.a w (bR 0 1) 0:=by grind
 exact h.s k c s d _ (x:= .dA) (u _ 0 i) (DY (h.c.c d).k h.o (by omega) _ _ λ e f=>nj e (.inr (.inl rfl)) f) (by rw[b];rfl) rfl (λ _ _=>rfl) (λ _ _ x=>x) ⟨rfl,rfl,rfl⟩ (by rw[b];rfl) rfl (IG (by grind) c m (by rw[b];rfl) r rfl (.inl ⟨i,.inr rfl⟩)) (λ e f=> .inr (let⟨a,C,l,_⟩:=nj e (.inr (.inl rfl)) f; ⟨a,_,l⟩)) _ (by rw[qY _ _ (.inr (.inl rfl)),o];omega) rfl (rb c (by rw[b];rfl) (by grind[bm.c]))
theorem aP.L(k:T.g)(h:aP T S n N0 n0 w0 ms ws fs p ρ q wk gs t w)(c:j<3)(b:ws j= .dA)(u:gs[n+j]?=some g)(y:T.u (ej t (n+j)) g)(d)(z):dO T S n N0 n0 w0 (n+j) d z gs t w (bW T.d.length ms ws fs):=by
 have⟨r,D,g',v,E⟩:=k.t _ g y;have⟨C,o,s,f⟩:=D6 h c (.inr (.inl b));have f:ba T.a w (bR 0 1) 0:=by grind
 have⟨A,_,B⟩:=E6 (T:=T) f 0;exact h.s k c u d _ (x:= .dt) (v _ 0 f) (DY (h.c.c d).k h.o (by omega) _ _ λ e i=>nj e (.inr (.inr rfl)) i) (by rw[b];rfl) A (λ a m=>nI _ _ _ m) B ⟨rfl,rfl,rfl⟩ (by rw[b];rfl) rfl (IG (by grind) c o (by rw[b];rfl) s rfl (.inr (.inl ⟨w7 f _,rfl⟩))) (λ e i=> .inr (let⟨a,F,l,_⟩:=nj e (.inr (.inr rfl)) i; ⟨a,_,l⟩)) _ (by rw[qY _ _ (.inr (.inr rfl)),r];omega) rfl (rb c (by rw[b];rfl) (by grind[bm.c]))
end
section
variable{P:ef}{T:dY P}{S:Nat->Prop}{n N0 n0:Nat}{w0:dr}{ms ms':bD}{ws ws':Nat->bm}{fs fs':bJ}{p p':Nat->ai}{ρ:Nat->dm}{q wk:Nat->Nat}{gs:Array b2}{t u:fl}{w w':dr}
variable {g:b2} {es:Array hD} {Wg:Nat} {A:Nat->Prop} {rp:jc->Prop}
theorem Ou(g)(fn)(pos)(a b):cr g fn pos (a++b)=cr g fn pos a++cr g fn pos b:=by grind[hg]
theorem MZ(h:bP S (λ b=>b=T.a\/b=T.c\/b=T.b) n0 A rp p t w)(g)(fn)(pos)(c:∀e∈es,hF e=true):bP S (λ b=>b=T.a\/b=T.c\/b=T.b) n0 A rp p (t++cr g fn pos es) w:=h.z (λ op a=>gz a) (λ op a=>by grind[eb,pH]) (λ op a=>by grind[eb,hB])
theorem aaI(a):lu a= #[⟨.mark .disable,false,true⟩]++gK a++ #[⟨.mark .enable,false,true⟩]:=rfl
theorem BS(e)(b:e∈lu (dL Wg)):e.mute=true\/∃a c,e= ⟨.cell a,c,true⟩/\a.block=Wg:=by simp[lu]at b;obtain rfl|rfl|rfl|rfl:=b;exact .inl rfl;simp;simp;exact .inl rfl
theorem Pk(h:bP S (λ b=>b=T.a\/b=T.c\/b=T.b) n0 A rp p t w)(c:S T.a)(g)(fn)(pos):bP S (λ b=>b=T.a\/b=T.c\/b=T.b) n0 A rp p (t++cr g fn pos (lu (dL T.a))) w:=by
 rw[aaI,Ou,Ou,<-lk,<-lk];refine MZ (DY (MZ h g fn pos λ e a=>by simp at a;subst a;rfl) c ?_ fn pos λ e a=>?_) g fn pos λ e a=>by simp at a;subst a;rfl
 rw[pN];show 0<ej t g+1;omega;grind[gK]
theorem H9(d)(a):eL d (lu a)=d:=by rfl
theorem aP.aj3(i:T.g)(h:aP T S n N0 n0 w0 ms ws fs p ρ q wk gs t w){j}(c:j<3)(b:ws j= .dt)(A:fs≠ .dZ)(r:gs[n+j]?=some g)(u:T.E (ej t (n+j)) g)(d)(v):dO T S n N0 n0 w0 (n+j) d v gs t w (bW T.d.length ms ws fs):=by
 have⟨B,D,_,g',s,E⟩:=i.y _ g u;have⟨C,l,o,f⟩:=D6 h c (.inr (.inr b));have f:ba T.a w 0 0:=by grind
 have⟨y,_,z⟩:=IA (T:=T) f 1;exact h.s i c r d _ (x:= .cd) (s _ f) (Pk (h.c.c d).k h.o _ _ _) (by rw[b];rfl) y (λ a k=>nI _ _ _ k) z ⟨rfl,rfl,rfl⟩ (by rw[b];rfl) rfl (IG (by grind) c l (by rw[b];rfl) o rfl (.inr (.inr ⟨I7 f _,rfl⟩))) (λ e m=>(BS e m).imp id (by grind)) _ (by grind[H9]) rfl (rb c (by rw[b];rfl) (by grind[bm.c]))
theorem aP.h(l:T.g)(h:aP T S n N0 n0 w0 ms ws fs p ρ q wk gs t w){g'}(r:gs[n+3]?=some g)(d)(E)(M:eg P false g (w.at d)= .go g' w' es)(f:fs.c=true/\fs.d=true/\fs.a=false/\fs.e T.d.length=T.d.length/\fs≠ .fG/\fs≠ .cg)(j:fs'.c=true/\fs'.d=true/\fs'.a=false/\fs'.e T.d.length=T.d.length/\fs'≠ .fG/\fs'≠ .cg)(s:bP S (λ b=>b=T.a\/b=T.c\/b=T.b) n0 (bE n ws fs) (de T ms fs) p (t++cr (n+3) g.frame.fn g.frame.place es) (w.at d))(A:w'.heap.size=w.heap.size)(u:∀a,a≠T.a->w'.heap[a]?=w.heap[a]?)(y:∀c,(c=T.a\/c=T.c\/c=T.b)->dT w c->dT w' c)(v:w'.os=w.os/\w'.output=w.output/\w'.tape=w.tape)(F:ib T ms ws fs' w')(z:∀e∈es,ee e≠ .mark (.release (bg T.a)))(said:∀k x,hR (t++cr (n+3) g.frame.fn g.frame.place es) k=some x->x.kind= .said->x.loc= .cell (dL T.a)->hv (t++cr (n+3) g.frame.fn g.frame.place es) (n+3) k){J}(Stop)(L:bM P false J (eL (ej t (n+3)) es) g' Stop)(o:xq T fs' (.cF J Stop))(m:fs'.b T.d.length (bz ms ws)<fs.b T.d.length (bz ms ws)):dO T S n N0 n0 w0 (n+3) d E gs t w (bW T.d.length ms ws fs):=by
 have D:=h.a.d;have K:((n+3)==0)=false:=by simp
 have B:fs≠ .dD:=λ e=>by grind[absurd,bJ.a]
 have N:fs'≠ .dD:=λ e=>by grind[absurd,bJ.a]
 have C:∀k,fs'≠ .ff k:=λ k e=>by grind[absurd,bJ.c]
 refine h.C l (i:=n+3) r d _ (ms':=ms) (ws':=ws) (fs':=fs') (by trivial) s (mJ (λ _ _=>rfl) (by grind)) (wu _ _ _ (by grind) (by grind)) A u y v (D.o f.1 j.1 C f.2.2.2.2.2 j.2.2.2.2.2 f.2.2.2.1 j.2.2.2.1 (by grind) B) F (by grind) (by grind) (by grind) z (λ k x G H I=>by grind) _ (by grind) rfl (.inr (by omega)) (λ _=>rfl) (by omega) (λ _ _=>rfl) (by omega) (by omega) (λ _=>o) (E4 m)
theorem vM(h:Ab T n N0 w0 ms ws fs p t w)(f:fs.d=true){fn pos}(d:∀e∈es,∀x,(ee e).touch?=some x->x.kind≠ .said):∀k x,hR (t++cr (n+3) fn pos es) k=some x->x.kind= .said->x.loc= .cell (dL T.a)->hv (t++cr (n+3) fn pos es) (n+3) k:=λ k x a b c=>by have:=h.h (u:=cr (n+3) fn pos es) (fs':=fs) (uM d) rfl Iff.rfl k x a b c;grind
theorem yT(c:es=gK (bg Wg)\/es=jK (bg Wg)\/es=qP (bg Wg)):∀e∈es,∀x,(ee e).touch?=some x->x.kind≠ .said:=λ e b x d=>by obtain⟨a,f,rfl,_⟩:=nj e c b;exact yd _ _ x d
theorem zu(c:es=gK (bg Wg)\/es=jK (bg Wg)\/es=qP (bg Wg)):∀e∈es,ee e≠ .mark (.release (bg Wg)):=λ e b=>by obtain⟨a,d,rfl,_⟩:=nj e c b;exact Aj _ _ _
theorem nD(a:fs.d=true):bE n ws fs (n+3):= .inr (by grind)
theorem aP.V(b:T.g)(h:aP T S n N0 n0 w0 ms ws .ir p ρ q wk gs t w){g}(o:gs[n+3]?=some g)(C:T.q (ej t (n+3)) g)(d)(u):dO T S n N0 n0 w0 (n+3) d u gs t w (bW T.d.length ms ws .ir):=by
 have⟨m,E,B⟩:=b.E _ g C;have D:=h.a.d;have i:ms.c=3:=JV D (by simp);have v:bz ms ws<=3:=i▸J0;obtain⟨a,k⟩:ba T.a w (bR (bz ms ws) 0) 0/\∀j,ws j≠ .dg/\ws j≠ .dA/\ws j≠ .dt:=h.a.o;have⟨g',s,f⟩:=B (bz ms ws) v;have r:=wh (h.c.c d).k (g:=n+3) (nD rfl) g.frame.fn g.frame.place (λ e y=> .inr (nj e (.inr (.inl rfl)) y));by_cases c:bz ms ws=0;rw[if_pos c]at f;refine h.h b o d u (fs':= .jC) (s (w.at d) 0 a) ⟨rfl,rfl,rfl,rfl,by simp,by simp⟩ ⟨rfl,rfl,rfl,rfl,by simp,by simp⟩ r rfl (λ _ _=>rfl) (λ _ _ x=>x) ⟨rfl,rfl,rfl⟩ ⟨?_,λ l z=>?_⟩ (zu (.inr (.inl rfl))) (vM h.a rfl (yT (.inr (.inl rfl)))) T.A (by rw[qY _ _ (.inr (.inl rfl)),m];exact f) rfl (by simp[bJ.b];omega);rw[c]at a;exact a;refine Nu ?_ (k l);cases A:(ws l).b with
 |true=>rfl
 |false=>have:=O3 z i A;omega
 rw[if_neg c]at f;exact h.h b o d _ (fs':= .lD _) (s _ 0 a) ⟨rfl,rfl,rfl,rfl,by simp,by simp⟩ ⟨rfl,rfl,rfl,rfl,by simp,by simp⟩ r rfl (λ _ _=>rfl) (λ _ _ x=>x) ⟨rfl,rfl,rfl⟩ ⟨a,hq _,k⟩ (zu (.inr (.inl rfl))) (vM h.a rfl (yT (.inr (.inl rfl)))) _ (by rw[qY _ _ (.inr (.inl rfl)),m];omega) rfl (by simp[bJ.b])
theorem aP.ajZ(f:T.g){c}(h:aP T S n N0 n0 w0 ms ws (.lD c) p ρ q wk gs t w)(o:gs[n+3]?=some g)(y:T.H c (ej t (n+3)) g)(d)(z):dO T S n N0 n0 w0 (n+3) d z gs t w (bW T.d.length ms ws (.lD c)):=by have⟨s,H,E,F,⟨C,u,I⟩,D,v,J⟩:=f.N c _ g y;obtain⟨b,G,l⟩:ba T.a w (bR (bz ms ws) 0) 0/\bz ms ws<=c/\∀j,ws j≠ .dg/\ws j≠ .dA/\ws j≠ .dt:=h.a.o;by_cases m:bz ms ws=c;have k:=wh (h.c.c d).k (g:=n+3) (nD rfl) g.frame.fn g.frame.place (λ e i=> .inr (nj e (.inl rfl) i));rw[m]at b;have⟨A,_,B⟩:=E6 (T:=T) b (bR c 1);exact h.h f o d _ (fs':= .iH) (u _ 0 b) ⟨rfl,rfl,rfl,rfl,by simp,by simp⟩ ⟨rfl,rfl,rfl,rfl,by simp,by simp⟩ k A (λ a r=>nI _ _ _ r) B ⟨rfl,rfl,rfl⟩ (.inl ⟨by rw[m];exact w7 b _,by omega,l⟩) (zu (.inl rfl)) (vM h.a rfl (yT (.inl rfl))) _ (by grind[qY]) rfl (by grind[bJ.b]);have k:=wh (h.c.c d).k (g:=n+3) (nD rfl) g.frame.fn g.frame.place (λ e i=> .inr (nj e (.inr (.inl rfl)) i));exact h.h f o d _ (fs':= .ir) (v _ _ 0 (by omega) b) ⟨rfl,rfl,rfl,rfl,by simp,by simp⟩ ⟨rfl,rfl,rfl,rfl,by simp,by simp⟩ k rfl (λ _ _=>rfl) (λ _ _ x=>x) ⟨rfl,rfl,rfl⟩ ⟨b,l⟩ (zu (.inr (.inl rfl))) (vM h.a rfl (yT (.inr (.inl rfl)))) _ (by rw[qY _ _ (.inr (.inl rfl)),s];omega) rfl (by grind[bJ.b])
theorem aP.ajR(f:T.g)(h:aP T S n N0 n0 w0 ms ws .iH p ρ q wk gs t w)(m:gs[n+3]?=some g)(r:T.C (ej t (n+3)) g)(d)(j):dO T S n N0 n0 w0 (n+3) d j gs t w (bW T.d.length ms ws .iH):=by
 have⟨u,y,g',o,z⟩:=f.z _ g r;have i:∀k x,hR t k=some x->x.kind= .said->x.loc= .cell (dL T.a)->hv t (n+3) k:=λ k x a b c=>h.a.B k x a b c;refine h.h f m d j (fs':= .eE) (o (w.at d)) ⟨rfl,rfl,rfl,rfl,by simp,by simp⟩ ⟨rfl,rfl,rfl,rfl,by simp,by simp⟩ (P7 (h.c.c d).k (nD rfl) _ _ (.inr rfl) i) rfl (λ _ _=>rfl) (λ _ _ x=>x) ⟨rfl,rfl,rfl⟩ h.a.o (λ e v=>?_) (λ k x s b c=>?_) T.m ?_ rfl (by simp[bJ.b])
 grind[fp,ee]
 rcases lx s with⟨_,a⟩| ⟨_,op,a,l,_⟩;exact(i k x a b c).app _;have:=o1 l
 grind[gz];grind[eL,ej,fp]
theorem aP.M(a:T.g)(h:aP T S n N0 n0 w0 ms ws .kI p ρ q wk gs t w)(j:gs[n+3]?=some g)(m:T.r (ej t (n+3)) g)(d)(o):dO T S n N0 n0 w0 (n+3) d o gs t w (bW T.d.length ms ws .kI):=by have⟨f,r,g',k,s⟩:=a.q _ g m;obtain⟨b,c⟩:ba T.a w 0 0/\∀l,l<3->ws l= .cd:=h.a.o;exact h.h a j d _ (fs':= .jC) (k _ 0 b) ⟨rfl,rfl,rfl,rfl,by simp,by simp⟩ ⟨rfl,rfl,rfl,rfl,by simp,by simp⟩ (wh (h.c.c d).k (g:=n+3) (nD rfl) _ _ (λ e i=> .inr (nj e (.inr (.inl rfl)) i))) rfl (λ _ _=>rfl) (λ _ _ x=>x) ⟨rfl,rfl,rfl⟩ ⟨b,c⟩ (zu (.inr (.inl rfl))) (vM h.a rfl (yT (.inr (.inl rfl)))) _ (by rw[qY _ _ (.inr (.inl rfl)),f];omega) rfl (by simp[bJ.b])
end
section
variable{P:ef}{T:dY P}{S:Nat->Prop}{n N0 n0:Nat}{w0:dr}{ms ms':bD}{ws ws':Nat->bm}{fs fs':bJ}{p p':Nat->ai}{ρ:Nat->dm}{q wk:Nat->Nat}{gs:Array b2}{t u:fl}{w w':dr}
variable {g:b2} {j:Nat} {x:bm}
abbrev vd:ai:= ⟨λ _=>False,λ _=>False⟩
theorem Lf{g k y}(e:hv (t++ #[y]) g k)(f:y.g=g):Before (t++ #[y]) k t.size:=by have⟨q,z,b,c,d⟩:=e;rcases getElem?_append_cases b with⟨i,a⟩| ⟨h,a⟩;have:hv t g q:=c▸o1 a;exact .inr (d.hb (Iu this f));grind
theorem adk(d:j<3)(f:x.e=false)(i):bE n (ei ws j x) fs i↔(bE n ws fs i/\i≠n+j)\/(i=0/\n+j=0):=by
 unfold bE;constructor
 grind[df,dk]
 rintro(⟨h| ⟨l,a,b,c⟩|h,e⟩| ⟨h,_⟩);omega;exact .inr (.inl ⟨l,a,b,by grind[dk]⟩)
 all_goals grind
theorem adW(h:ib T ms ws fs w)(m:∀j,(ws' j).b=(ws j).b)(d:∀j,ws' j= .dg\/ws' j= .dA\/ws' j= .dt->ws' j=ws j)(g:∀j,ws j= .cd\/ws j= .dg\/ws j= .dA\/ws j= .dt->ws' j=ws j)(b:bz ms' ws'=bz ms ws):ib T ms' ws' fs w:=by
 have no:(∀j,ws j≠ .dg/\ws j≠ .dA/\ws j≠ .dt)->∀j,ws' j≠ .dg/\ws' j≠ .dA/\ws' j≠ .dt:=λ k j=>⟨λ e=>(k j).1 ((d j (.inl e))▸e),λ e=>(k j).2.1 ((d j (.inr (.inl e)))▸e),λ e=>(k j).2.2 ((d j (.inr (.inr e)))▸e)⟩;have gone:∀j,ws j= .cd->ws' j= .cd:=λ j e=>(g j (.inl e)).trans e;have f:(bz ms ws=0/\∃j,j<3/\(∀l,l<3->l≠j->ws l= .cd)/\((ba T.a w (bR 0 1) 0/\(ws j= .dg\/ws j= .dA))\/(ba T.a w 0 0/\ws j= .dt)\/(ba T.a w 0 1/\ws j= .cd)))->(bz ms' ws'=0/\∃j,j<3/\(∀l,l<3->l≠j->ws' l= .cd)/\((ba T.a w (bR 0 1) 0/\(ws' j= .dg\/ws' j= .dA))\/(ba T.a w 0 0/\ws' j= .dt)\/(ba T.a w 0 1/\ws' j= .cd))):=λ⟨k1,j,i,n,o⟩=>by grind
 cases fs with
 |iH=>exact h.imp (by grind) f|eE=>exact h.imp (by grind) f|dZ=>exact h.imp (by grind) (by grind)|lD c=>exact⟨by rw[b];exact h.1,by rw[b];exact h.2.1,no h.2.2⟩|kI=>exact⟨h.1,λ l a=>gone l (h.2 l a)⟩|jC=>exact⟨h.1,λ l a=>gone l (h.2 l a)⟩|fG=>exact⟨h.1,λ l a=>gone l (h.2 l a)⟩|dD=>exact⟨h.1,λ l a=>gone l (h.2 l a)⟩|cg=>exact⟨by rw[b];exact h.1,no h.2⟩|dF k=>exact⟨by rw[b];exact h.1,no h.2⟩|ff k=>exact⟨by rw[b];exact h.1,no h.2⟩|ir=>exact⟨by rw[b];exact h.1,no h.2⟩
theorem sY(h:ib T ms ws fs w)(h1:(ws j).b=false)(h2:x.b=false)(b:bz ms' (ei ws j x)=bz ms ws):ib T ms' (ei ws j x) fs w:=by
 refine adW h (KE (h2.trans h1.symm)) (λ l a=>?_) (λ l a=>?_) b;by_cases e:l=j;subst e;rw[df]at a;rcases a with x|x|x<;>(rw[x]at h2;cases h2)
 grind[dk]
 by_cases e:l=j;subst e;rcases a with x|x|x|x<;>(rw[x]at h1;cases h1)
 grind[dk]
theorem As(h:ib T ms ws fs w)(a:j<3)(b:ws j≠ .cd):fs≠ .kI/\fs≠ .jC/\fs≠ .fG/\fs≠ .dD:=by refine⟨?_,?_,?_,?_⟩<;>(rintro rfl;exact b (h.2 j a))
theorem aP.aj0(u:T.g)(h:aP T S n N0 n0 w0 ms ws fs p ρ q wk gs t w)(s:j<3)(r:ws j= .ln)(I:gs[n+j]?=some g)(K:T.F (ej t (n+j)) g)(d)(C):dO T S n N0 n0 w0 (n+j) d C gs t w (bW T.d.length ms ws fs):=by
 have⟨Y,ac,g',ae,J,k,aa⟩:=u.L _ g K;have A:=h.a.d;have B:=rO h j;have X:((n+j)==0)=false:=by grind
 have z:=As h.a.o s (by grind);have N:∀l,ms≠ .eF l:=λ l e=>z.2.2.2 (A.i l e);have ab:cr (n+j) g.frame.fn g.frame.place (fp (.releaseMerge (bg T.a)))= #[⟨n+j,g.frame.fn,g.frame.place,.mark (.releaseMerge (bg T.a))⟩]:=by grind[hg,fp,ee]
 have ad:de T ms fs (.mark (.releaseMerge (bg T.a))):=by cases ms<;>cases fs<;>first|rfl|exact absurd rfl (N _)|exact absurd rfl z.2.2.1|exact absurd rfl z.2.2.2
 have L:=Pw (h.c.c d).k (n+j) g.frame.fn g.frame.place (m:= .releaseMerge (bg T.a)) (.inr rfl);have v:∀i,bE n (ei ws j .lF) fs i↔bE n ws fs i/\i≠n+j:=λ i=>(adk s rfl i).trans ⟨λ x=>x.elim id λ y=>absurd y.2 B,.inl⟩;have M:bP S (λ b=>b=T.a\/b=T.c\/b=T.b) n0 (bE n (ei ws j .lF) fs) (de T ms fs) (ei p (n+j) vd) (t++cr (n+j) g.frame.fn g.frame.place (fp (.releaseMerge (bg T.a)))) (w.at d):=by refine L.F (λ i c=>?_) (λ i c=>(v i).1 c) (λ _ x=>x) λ k Z=>?_;all_goals grind[oZ,AF,Lf]
 have Q:∀l x own f,ei ws j .lF l= .eh x own f->l≠j/\ws l= .eh x own f:=λ l x own f e=>by grind[df,dk]
 have F:Ab T n N0 w0 ms (ei ws j .lF) fs (ei p (n+j) vd) (t++cr (n+j) g.frame.fn g.frame.place (fp (.releaseMerge (bg T.a)))) (w.at d):=by
  refine h.a.z (A.r s (by grind) (by simp) (by simp) (by simp) (λ _=>A.b j (by rw[r];rfl)) (by rw[r];rfl)) (sY h.a.o (by rw[r];rfl) rfl (oG (by rw[r];rfl))) h.a.r h.a.q rfl (λ _ _ _ _=>rfl) (λ i c=>?_) (λ l x own f e=>?_) (λ i a c=>?_)
   (uh λ e H=>?_) (h.a.h (uM λ e H x af=>?_) rfl Iff.rfl) ⟨rfl,rfl,rfl⟩;have⟨D,E⟩:=(v i).1 c;rw[dk p _ E];exact h.a.l i D;have⟨V,G⟩:=Q l x own f e;rw[dk p _ (by omega)];have⟨O,P⟩:=h.a.g l x own f G;exact⟨u.e x _ _ w _ O λ _ _=>rfl,P⟩
  by_cases e:i=n+j
  grind[df]
  rw[dk p _ e]at c;exact h.a.f i a c
  all_goals grind[fp,ee,eH]
 have⟨W,ops,R,U⟩:=h.E u I d C (by grind) M (λ l o=>dk p _ o) (.cF T.J T.G) k rfl (λ _ _ _ _=>rfl) (λ _ _ x=>x) ⟨rfl,rfl,rfl⟩ F ⟨.inl J,by grind[eL,ej,fp]⟩ (λ _ _ e=>by cases e) (λ l o c=>(v l).2 ⟨c,o⟩) rfl (.inr (by omega)) (λ _=>rfl) (λ e=>absurd e B) (λ l o=>dk ws _ (by omega)) (λ l _ o=>by
  obtain rfl:l=j:=by omega
  rw[df];rfl) (λ _=>rfl) (λ e=>by omega);exact⟨_,_,_,_,_,_,_,_,_,_,R,U,rb s (by rw[r];rfl) (by grind[bm.c])⟩
theorem aP.aj4(f:T.g)(h:aP T S n N0 n0 w0 ms ws .jC p ρ q wk gs t w)(E:gs[n+3]?=some g)(I:T.A (ej t (n+3)) g)(d)(v):dO T S n N0 n0 w0 (n+3) d v gs t w (bW T.d.length ms ws .jC):=by
 have⟨B,R,g',U,D⟩:=f.I _ g I;have u:=h.a.d;have Q:((n+3)==0)=false:=by simp
 have X:∀l,ms≠ .eF l:=λ l e=>absurd (u.i l e) (by simp);have F:cr (n+3) g.frame.fn g.frame.place (fp (.acquire (bg T.a)))= #[⟨n+3,g.frame.fn,g.frame.place,.mark (.acquire (bg T.a))⟩]:=by grind[hg,fp,ee]
 have A:bE n ws .fG=bE n ws .jC:=mJ (λ _ _=>rfl) rfl;have K:=Pw (h.c.c d).k (n+3) g.frame.fn g.frame.place (m:= .acquire (bg T.a)) (.inl rfl);have H:∀a,de T ms .jC a->a= .mark (.releaseMerge (bg T.a)):=λ a=>by cases ms<;>first|exact id|exact λ x=>x.elim
 have J:bP S (λ b=>b=T.a\/b=T.c\/b=T.b) n0 (bE n ws .fG) (de T ms .fG) p (t++cr (n+3) g.frame.fn g.frame.place (fp (.acquire (bg T.a)))) (w.at d):=by
  rw[A];refine K.G (i:=n+3) (nD rfl) λ r a c z o=>?_;have:=H a z;subst this;rw[F]at c o⊢;have s:r<t.size:=by have O:=lt_of_act? c;grind[gg,oZ]
  rw[act?_old s]at c;exact VS c ((heard_old s).1 o) (.inl rfl) rfl rfl B h.a.D
 have y:Ab T n N0 w0 ms ws .fG p (t++cr (n+3) g.frame.fn g.frame.place (fp (.acquire (bg T.a)))) (w.at d):=by
  refine h.a.z (u.o rfl rfl (by simp) (by simp) (by simp) rfl rfl (by simp) (by simp)) h.a.o h.a.r h.a.q rfl (λ _ _ _ _=>rfl) (by exact h.a.l) (λ l x own k e=> ⟨f.e x own k w _ (h.a.g l x own k e).1 λ _ _=>rfl,(h.a.g l x own k e).2⟩) h.a.f (uh λ e C=>?_) (h.a.h (uM λ e C x W=>?_) rfl (by simp)) ⟨rfl,rfl,rfl⟩;all_goals grind[fp,ee,eH]
 have⟨G,r,V⟩:=D (p (n+3)) (w.at d) (h.a.l _ (nD rfl)) h.a.y;have⟨N,ops,L,M⟩:=h.E f E d v (by grind) J (λ l j=>rfl) (.cC T.s r) 0 rfl (λ _ _ _ _=>rfl) (λ _ _ x=>x) ⟨rfl,rfl,rfl⟩ y ⟨⟨G,by trivial⟩,by trivial⟩ (λ _ _ _=> .inr (.inr ⟨rfl,rfl⟩)) (λ l j P=>by trivial) rfl (.inr (by omega)) (λ _=>rfl) (λ e=>by omega) (λ l j=>rfl) (λ l _ j=>by omega) (λ e=>absurd rfl e) (λ _=> ⟨r,rfl⟩);exact⟨_,_,_,_,_,_,_,_,_,_,L,M,E4 (by simp[bJ.b])⟩
theorem Wz{a a' x}(h:a'.status= .blocked):ew P a a' w x=x:=by grind[ew]
theorem aP.z(f:T.g)(h:aP T S n N0 n0 w0 ms ws fs p ρ q wk gs t w)(C:fs= .eE\/fs= .dZ)(s:gs[n+3]?=some g)(J:T.m (ej t (n+3)) g)(O:ib T ms ws .dZ w)(d)(m){st}(M:ba T.a w st 0):∃o,lb P (fv gs (w.at d) m) (n+3)=(.next (fv o (w.at d) m),#[])/\aP T S n N0 n0 w0 ms ws .dZ p (ei ρ (n+3) (.kD g)) q (ei wk (n+3) 0) o (t++ #[]) (w.at d):=by
 have⟨B,H,G,L,g',R,U⟩:=f.u _ g J;have Q:((n+3)==0)=false:=by simp
 have E:n+3<gs.size:=(ea.1 s).1;have N:=h.a.d;have a:fs.d=true/\fs.c=true/\fs.a=false/\fs≠ .cg/\fs≠ .dD/\fs≠ .fG/\fs.e T.d.length=T.d.length:=by rcases C with e|e<;>(rw[e];exact⟨rfl,rfl,rfl,by simp,by simp,by simp,rfl⟩)
 have i:bE n ws .dZ=bE n ws fs:=mJ (λ _ _=>rfl) a.1.symm;have I:de T ms .dZ=de T ms fs:=wu ms _ _ ⟨a.2.2.2.2.1,a.2.2.2.2.2.1⟩ (by simp);have V:=L (w.at d) st M;have y:=gu (sl:=m) s (show eg P ((n+3)==0) g (w.at d)=_ by trivial);have F:gs.map (ew P g {g with status:= .blocked} (w.at d))=gs:=by grind[Array.ext,Wz]
 rw[F,hg]at y;refine⟨_,by simpa using y,?_,?_,by simp[h.e],h.o,?_,λ j D=>?_,?_,λ W h0 A=>?_,λ l z K e v=>?_⟩
 refine(h.c.c d).n (u:= #[]) (w':=w.at d) (gi:={g with status:= .blocked}) E (by rw[i,I];simpa using(h.c.c d).k) (p':=p) (ρ':=ei ρ (n+3) (.kD g)) (q':=q) (wk':=ei wk (n+3) 0) (λ _ _=>rfl) (λ l b=>dk ρ _ b) (λ _ _=>rfl) (λ l b=>dk wk _ b) (λ _=> .c _ _) (λ _ _ x=>x) (λ _=>by simp) (by rw[df _,df _];exact⟨⟨H,B⟩,G,.inl rfl⟩) (λ l Stop r e=>?_);by_cases b:l=n+3;grind[df];rw[dk ρ _ b]at e;rw[i];exact h.c.b l _ r e;have:=h.a.z (u:= #[]) (w':=w.at d) (p':=p) (ms':=ms) (ws':=ws) (fs':= .dZ) (N.o a.2.1 rfl (by simp) a.2.2.2.1 (by simp) a.2.2.2.2.2.2 rfl (by simp) a.2.2.2.2.1) O (by rw[show bJ.dZ.c=fs.c from a.2.1.symm];exact h.a.r) (by rw[show bJ.dZ.a=fs.a from a.2.2.1.symm];exact h.a.q) rfl (λ _ _ _ _=>rfl) (by rw[i];exact h.a.l) (λ l x own k e=> ⟨f.e x own k w _ (h.a.g l x own k e).1 λ _ _=>rfl,(h.a.g l x own k e).2⟩) h.a.f (by simp) (h.a.h (by simp) a.1.symm ⟨λ e=>absurd e (by simp),λ e=>absurd e a.2.2.2.1⟩) ⟨rfl,rfl,rfl⟩;omega;have:=h.a.e;exact h.r;rw[dk _ _ (by omega)];exact h.f j D;rw[df];exact⟨g,rfl,by grind⟩;rw[dk _ _ (by omega)];exact h.k _ h0 A;rw[dk ρ _ (by omega)]at v;have⟨m1,m2⟩:=h.m l z K e v;exact⟨f.f _ _ _ _ _ m1 (jn _ _ _),m2⟩
theorem aP.aj2(i:T.g)(h:aP T S n N0 n0 w0 ms ws .eE p ρ q wk gs t w)(r:gs[n+3]?=some g)(s:T.m (ej t (n+3)) g)(d)(c):dO T S n N0 n0 w0 (n+3) d c gs t w (bW T.d.length ms ws .eE):=by
 have⟨H,L,K,N,g',C,M⟩:=i.u _ g s;have o:∀{st:Int},ba T.a w st 0->ib T ms ws .dZ w->dO T S n N0 n0 w0 (n+3) d c gs t w (bW T.d.length ms ws .eE):=λ D m=>by have⟨G,y,z⟩:=h.z i (.inl rfl) r s m d c D;exact⟨_,_,_,_,_,_,_,_,_,_,y,z,E4 (by simp[bJ.b])⟩
 have m:=h.a.o;obtain⟨k1,u⟩| ⟨k1,j,I,u,⟨b,v⟩| ⟨b,v⟩| ⟨b,v⟩⟩:=m
 exact o k1 (.inl ⟨k1,u⟩);exact o b (.inr (by grind));exact o b (.inr (by grind));obtain⟨E,_,F⟩:=IA (T:=T) b 0;have B:=wh (h.c.c d).k (g:=n+3) (nD rfl) g.frame.fn g.frame.place (es:=lu (dL T.a)) (λ e k=>BS e k);refine h.h i r d c (fs':= .kI) (C (w.at d) 0 b) ⟨rfl,rfl,rfl,rfl,by simp,by simp⟩ ⟨rfl,rfl,rfl,rfl,by simp,by simp⟩ B E (λ a A=>nI _ _ _ A) F ⟨rfl,rfl,rfl⟩ ⟨I7 b _,λ l J=>?_⟩
  (λ e k=>?_) (vM h.a rfl λ e k x O=>?_) T.r (by grind[H9]) rfl (by simp[bJ.b])
 all_goals grind[BS,f,xd,Aj,hB,yd]
theorem aP.Z(b:T.g)(h:aP T S n N0 n0 w0 ms ws .dZ p ρ q wk gs t w)(c:gs[n+3]?=some g)(e:T.m (ej t (n+3)) g)(d)(j):∃i,lb P (fv gs (w.at d) j) (n+3)=(.next (fv i (w.at d) j),#[])/\aP T S n N0 n0 w0 ms ws .dZ p (ei ρ (n+3) (.kD g)) q (ei wk (n+3) 0) i (t++ #[]) (w.at d):=by have a:=h.a.o;rcases id a with⟨k1,_⟩| ⟨_,_,_,_,⟨f,_⟩| ⟨f,_⟩⟩;exact h.z b (.inr rfl) c e a d _ k1;exact h.z b (.inr rfl) c e a d _ f;exact h.z b (.inr rfl) c e a d _ f
end
section
variable{P:ef}{T:dY P}{S:Nat->Prop}{n N0 n0:Nat}{w0:dr}{ms ms':bD}{ws ws':Nat->bm}{fs fs':bJ}{p p':Nat->ai}{ρ ρ':Nat->dm}{q wk q':Nat->Nat}{gs:Array b2}{t u:fl}{w w':dr}
variable {c:Nat} {g:b2} {Y:Nat->Prop} {rp:jc->Prop} {fn:fb}
theorem eJ.b{i d k q p ρ}(h:eJ P Y i d p q k g w ρ)(e:bO p w w')(v:∀f b j K c,ρ= .ic f b j K->b.chan= .chan (some c)->dT w c->dT w' c)(a a'):eJ P Y i d p q 1 (ew P a a' w' g) w' ρ:=by cases ρ with
 |ic f b j K=>obtain⟨⟨rfl,u⟩,⟨c,m,x,n⟩,t⟩:=h;have l:=v f b j K c rfl m n;refine⟨⟨?_,u⟩,by grind,λ w2 o=>t _ (e.d o)⟩;have⟨s,r,l⟩:=l;simp_all[ew,hA,et]|cC Stop r=>exact eJ.a (Y:=λ _=>False) (i:=i) (d:=d) (p:=p) (q:=q) (k:=k) (ρ:= .cC _ r) h e (by grind) a _|cF J Stop=>exact eJ.a (Y:=λ _=>False) (i:=i) (d:=d) (p:=p) (q:=q) (k:=k) (ρ:= .cF J _) h e (by grind) a _|kD y=>exact eJ.a (Y:=λ _=>False) (i:=i) (d:=d) (p:=p) (q:=q) (k:=k) (ρ:= .kD _) h e (by grind) a _
theorem aP.I(h:aP T S n N0 n0 w0 ms ws fs p ρ q wk gs t w){l g2 b d K}(A:gs[l]?=some g)(m:ρ l= .ic g2 b d K):(l=0/\(∃l',ms= .dH l')/\b=eV T.b T.o/\d= .recv true)\/(∃j,j<3/\l=n+j/\((ws j= .eA/\b=eV T.c T.y/\d= .recv true)\/∃x own v,ws j= .eh x own v/\b=gb T.b own (.tuple #[])/\d= .send))\/(l=n+3/\∃k x,fs= .ff k/\T.d[k]?=some x/\b=gb T.c x (.tuple #[])/\d= .send):=by
 have D:l<n+ms.a:=h.e▸(ea.1 A).1;have C:ms.a<=4:=by cases ms<;>simp[bD.a]<;>omega
 have E:=h.a.e;rcases ma l with e|B
 left;subst e;have:=h.r;rw[m]at this;cases ms with
 |dH l'=>obtain⟨i,y,e⟩:=this;grind
 |iN j=>cases this.2
 |go j=>cases this.2
 |lI=>trivial
 |mW=>trivial
 |eD l'=>obtain⟨r,e⟩:=this;cases e
 |eF l'=>obtain⟨r,e⟩:=this;cases e
 right;rcases gg l n with o|o
 have:=h.k l B o
 grind
 obtain⟨j,rfl⟩:∃j,l=n+j:= ⟨l- n,by omega⟩;rcases gg j 3 with f|f;left;refine⟨j,f,rfl,?_⟩;have a:=h.f j f;rw[m]at a;have u:ws j≠ .fD:=λ e=>by have:=(h.a.d.d j f).1 e;omega
 generalize ws j=s at a u;cases s with
 |fD=>trivial
 |eA=>obtain⟨i,e⟩:=a;grind
 |lN=>obtain⟨r,e⟩:=a;cases e
 |eh x own v=>obtain⟨_,i,e⟩:=a;grind
 |eC=>obtain⟨r,e⟩:=a;cases e
 |iz x=>obtain⟨_,r,e⟩:=a;cases e
 |_=>trivial
 right;have z:j=3:=by omega
 subst z;refine⟨rfl,?_⟩;have c:=h.u;rw[m]at c;have u:fs≠ .cg:=λ e=>by have:=h.a.d.a.1 e;omega
 cases fs with
 |cg=>trivial
 |ff k=>obtain⟨i,x,y,F,e,_⟩:=c;grind
 |dF k=>obtain⟨_,r,e⟩:=c;cases e
 |fG=>obtain⟨r,e⟩:=c;cases e
 |dZ=>obtain⟨G,e,_⟩:=c;cases e
 |_=>trivial
theorem fa.m{A A' e}(h:fa P S Y n0 A rp p ρ q wk gs t w){i g'}(k:gs[i]?=some g){es pos}(l:bP S Y n0 A' e p' (t++cr i fn pos es) w')(m:eJ P Y i (eL (ej t i) es) (p' i) (q' i) 1 g' w' (ρ' i))(o:∀j x,j≠i->gs[j]?=some x->eJ P Y j (ej t j) (p' j) (q' j) 1 (ew P g g' w' x) w' (ρ' j))(f:∀j Stop r,ρ' j= .cC Stop r->A' j):fa P S Y n0 A' e p' ρ' q' (λ _=>1) ((gs.map (ew P g g' w')).setIfInBounds i g') (t++cr i fn pos es) w':=by
 have n:i<gs.size:=(ea.1 k).1;refine⟨l,λ j x d=>?_,λ j b=>?_,f⟩;by_cases c:i=j
 grind[hN,pN]
 rw[ep c,lf]at d;obtain⟨y,s,rfl⟩:=k3.1 d;rw[k8 t (g:=j) (g':=i) c _ (λ op a=>gz a)]
 grind
 have b:gs.size<=j:=by grind
 rw[k8 t (g:=j) (g':=i) (by omega) _ (λ op a=>gz a)];exact h.e j b
theorem Ka(d c):eL d (iS c)=d:=rfl
theorem PY{A}(h:bP S Y n0 A rp p t w){g}(f:A g)(d:Y c)(fn)(pos):bP S Y n0 A rp p (t++cr g fn pos (iS c)) w:=by
 refine h.C (λ op b=>gz b) (λ op b=>?_) (λ op b x i=>?_) (.inl f);obtain⟨e,a,rfl⟩:=eb b;simp[iS]at a;rcases a with rfl|rfl<;>exact h.d _ (.inr d)
 obtain⟨e,a,rfl⟩:=eb b;simp[iS]at a;rcases a with rfl|rfl;simp[ee,eH]at i;subst i;exact⟨⟨c,rfl,d⟩,by simp,by simp,.inl f⟩;trivial
theorem aaQ{g pos}:t++cr g fn pos (iS c)=(t++ #[⟨g,fn,pos,.access ⟨.obj c,false,true⟩⟩])++ #[⟨g,fn,pos,.close c⟩]:=by grind[hg,Array.ext',iS,ee]
theorem KS(a):∀e∈iS c,ee e≠ .mark (.release a):=λ e b=>by simp[iS]at b;rcases b with rfl|rfl<;>simp[ee]
theorem aaC:∀e∈iS c,∀x,(ee e).touch?=some x->x.kind≠ .said:=λ e b x a=>by simp[iS]at b;obtain rfl|rfl:=b;simp[ee,eH]at a;subst a;simp;simp[ee,eH]at a
def bm.f:bm->bm| .eA=> .eC|x=>x
theorem bm.d(x:bm):x.f.e=x.e/\x.f.b=x.b/\x.f.g=x.g/\x.f.a=x.a/\(x.f= .fD↔x= .fD)/\x.f≠ .eA/\(∀a b c,x.f= .eh a b c↔x= .eh a b c)/\(x.f= .dg↔x= .dg)/\(x.f= .dA↔x= .dA)/\(x.f= .dt↔x= .dt)/\x.f.c<=x.c+1:=by
 cases x<;>simp[bm.f,bm.e,bm.b,bm.g,bm.a,bm.c]
theorem ahF:bz ms (λ j=>(ws j).f)=bz ms ws:=by grind[bz,bm.d]
theorem Yu{c' s r}(h:c'≠c):dT w c'->dT (w.setChan c 0 #[] true s r false) c':=λ⟨a,b,e⟩=> ⟨a,b,by grind[hy]⟩
theorem aP.ajT(C:T.g){k}(h:aP T S n N0 n0 w0 ms ws (.dF k) p ρ q wk gs t w)(R:gs[n+3]?=some g)(aE:g.status= .running/\ej t (n+3)=0)(ak:T.i k (p (n+3)) g w)(i:T.d[k]?=none)(d)(Y):dO T S n N0 n0 w0 (n+3) d Y gs t w (bW T.d.length ms ws (.dF k)):=by
 have⟨aD,aA,g',aj,ah,W,ay⟩:=C.O k _ g w ak i;have m:=h.a.d;have Q:((n+3)==0)=false:=by simp
 have aB:=h.a.e;have az:k=T.d.length:=Nat.le_antisymm h.u.1 (by
  grind)
 have⟨s,u⟩:=h.a.r;have u:w.heap[T.c]?=some (.chan 0 #[] false s s false):=u;have⟨M,G⟩:=h.a.q;have G:w.heap[T.b]?=some (.chan 0 #[] false M M false):=G;have aF:=aj (w.at d) s s u;have an:∀l,ms≠ .eF l:=λ l e=>absurd (m.i l e) (by simp)
 let w':=(w.at d).setChan T.c 0 #[] true s s false
 have v:∀a,a≠T.c->w'.heap[a]?=w.heap[a]?:=λ a o=>hy (w.at d) _ _ _ _ _ _ (Ne.symm o);have J:w'.heap.size=w.heap.size:=by show((w.at d).setChan _ 0 _ _ s s _).heap.size=_;simp[hS];rfl
 have F:bE n (λ j=>(ws j).f) .ir=bE n ws (.dF k):=mJ (λ j _=>(bm.d _).1) rfl;have ai:de T ms .ir=de T ms (.dF k):=wu ms _ _ (by simp) (by simp);have am:bP S (λ b=>b=T.a\/b=T.c\/b=T.b) n0 (bE n (λ j=>(ws j).f) .ir) (de T ms .ir) p (t++cr (n+3) g.frame.fn g.frame.place (iS T.c)) w':=by
  rw[F,ai];exact(PY (h.c.c d).k (nD rfl) (.inr (.inl rfl)) _ _).m (eQ J.symm)
 have I:∀l,bO (p l) w w':=λ l=> ⟨eQ J.symm,λ a o=>v a λ e=>(h.c.k.c l a o).2.2 (.inr (.inl e)),rfl,rfl,rfl⟩;have ap:ed T ms (λ j=>(ws j).f) .ir:=
  ⟨λ _ _ e=>absurd e (by simp),λ l j x own L e z=>m.h l j x own L e (((bm.d _).2.2.2.2.2.2.1 _ _ _).1 z),λ _ j=>(bm.d _).2.2.2.2.2.1,λ _ e=>absurd e (by simp),λ _ _=>rfl,λ j f=>(bm.d _).2.2.2.2.1.trans (m.d j f),
   ⟨λ e=>absurd e (by simp),λ e=>absurd (m.a.2 e) (by simp)⟩,λ j f=>(bm.d _).2.2.2.2.1.2 (m.c j f),by
    have:=m.e
    grind[bm.d,bJ.e,load],λ l e=>absurd e (an l)⟩
 have aa:Ab T n N0 w0 ms (λ j=>(ws j).f) .ir p (t++cr (n+3) g.frame.fn g.frame.place (iS T.c)) w':=by
  refine h.a.z ap ?_ ⟨s,gf (w.at d) u _ _ _ _ _ _⟩ ⟨M,(v _ (Ne.symm h.a.c.1)).trans G⟩ J (λ a _ o _=>v a o) (by rw[F];exact h.a.l) (λ l x own L e=>?_) h.a.f (uh (KS _)) (h.a.h (uM aaC) rfl (by simp)) ⟨rfl,rfl,rfl⟩
  have A:=h.a.o;refine⟨?_,λ j=>?_⟩;rw[ahF];exact lK (v _ h.a.c.2.1) A.1;have⟨a,b,c⟩:=A.2 j
  grind[bm.d]
  have⟨ao,X⟩:=h.a.g l x own L (((bm.d _).2.2.2.2.2.2.1 _ _ _).1 e);exact⟨C.e x _ _ w _ ao λ b Q=>v b λ z=>(h.c.k.c _ b (h.c.k.e _ b (X b Q))).2.2 (.inr (.inl z)),X⟩
 let av:Nat->dm:=λ l=>if n<=l/\l<n+3 then(match ws (l- n)with| .eA=> .cC T.f .eM|_=>ρ l)else ρ l
 let ρ':=ei av (n+3) (.cF T.J T.q)
 have au:ρ' (n+3)= .cF T.J T.q:=df _ _ _;have N:∀j,j<3->ρ' (n+j)=(match ws j with| .eA=> .cC T.f .eM|_=>ρ (n+j)):=λ j f=>by
  grind[ei,dk,et,Nat.add_sub_cancel_left]
 have B:∀l,(l<n\/n+3<l)->ρ' l=ρ l:=λ l H=>by
  grind[ei,dk]
 have ar:∀x,ew P g g' w' x=x.again w':=λ x=>by grind[ew]
 have aH:∀l x,l≠n+3->gs[l]?=some x->(∀j,j<3->l=n+j->ws j≠ .eA)->eJ P (λ b=>b=T.a\/b=T.c\/b=T.b) l (ej t l) (p l) (ei q (n+3) W l) 1 (ew P g g' w' x) w' (ρ l):=λ l x H i aC=>by
  rw[dk q _ H];refine eJ.b (h.c.a l x i) (I l) (λ E aw aI K c D z ag=>?_) g g';have:c=T.b:=by
   rcases h.I i D with⟨_,_,O,_⟩| ⟨j,f,ac,⟨ax,_⟩| ⟨_,_,_,_,O,_⟩⟩| ⟨ac,_⟩
   all_goals grind[eV,absurd,gb]
  subst this;exact Yu (w:=w.at d) (Ne.symm h.a.c.1) ag
 have aq:fa P S (λ b=>b=T.a\/b=T.c\/b=T.b) n0 (bE n (λ j=>(ws j).f) .ir) (de T ms .ir) p ρ' (ei q (n+3) W) (λ _=>1) ((gs.map (ew P g g' w')).setIfInBounds (n+3) g') (t++cr (n+3) g.frame.fn g.frame.place (iS T.c)) w':=by
  refine h.c.m R am ?_ (λ l x H i=>?_) (λ l Z r e=>?_)
  rw[au,df q];exact⟨.inl ah,by grind[Ka]⟩;by_cases A:n<=l/\l<n+3;obtain⟨j,rfl⟩:∃j,l=n+j:= ⟨l- n,by omega⟩;have f:j<3:=by omega
  rw[N j f];by_cases hp:ws j= .eA;rw[hp];have y:=h.f j f;rw[hp]at y;have⟨E,D⟩:=y;have V:=h.c.a _ x i;rw[D]at V;obtain⟨⟨rfl,af⟩,_,ae⟩:=V;rw[ar,nV (gf (w.at d) u _ _ _ _ _ _)];exact⟨⟨rfl,af⟩,λ w1 al=>(ae _ ((I _).d al)).1⟩
  grind
  grind
  rw[F];by_cases O:l=n+3
  grind
  by_cases A:n<=l/\l<n+3;obtain⟨j,rfl⟩:∃j,l=n+j:= ⟨l- n,by omega⟩;have f:j<3:=by omega
  rw[N j f]at e;by_cases hp:ws j= .eA;exact .inr (.inl ⟨j,f,rfl,by rw[hp];rfl⟩);have ab:ρ (n+j)= .cC Z r:=by
   grind
  exact h.c.b _ _ r ab;rw[B l (by omega)]at e;exact h.c.b l _ r e
 refine⟨_,w',_,ms,λ j=>(ws j).f,.ir,p,ρ',_,_,gu (sl:=Y) R (show eg P ((n+3)==0) g (w.at d)=_ by trivial),⟨aq,aa,by simp[h.e],h.o,?_,λ j f=>?_,?_,λ aG h0 ad=>?_,λ l E K e U=>?_⟩,?_⟩
 rw[B 0 (by omega)];exact h.r;rw[N j f];have y:=h.f j f;show uY T _ _;generalize ws j=s at y;cases s<;>first|exact y|exact⟨.eM,rfl⟩
 trivial;rw[B _ (by omega)];exact h.k _ h0 ad;rw[B 0 (by omega)]at U;have⟨m1,m2⟩:=h.m l E K e U;exact⟨C.f _ _ _ _ _ m1 (I 0),m2⟩
 grind[bm.d,bz,JV,o0,J0,bW,bJ.b]
end
section
variable{P:ef}{T:dY P}{S:Nat->Prop}{n N0 n0:Nat}{w0:dr}{ms ms':bD}{ws ws':Nat->bm}{fs fs':bJ}{p p':Nat->ai}{ρ ρ':Nat->dm}{q wk q':Nat->Nat}{gs:Array b2}{t u:fl}{w w':dr}
def bD.e:bD->bD| .dH l=> .eD l|x=>x
theorem bD.b(x:bD):x.e.a=x.a/\x.e.c=x.c/\x.e.f=x.f/\(∀l,x.e≠ .dH l)/\(∀l,x.e= .eF l↔x= .eF l)/\x.e.d<=x.d+1:=by cases x<;>simp[bD.e,bD.a,bD.c,bD.f,bD.d]
def zK(T:dY P)(r:dm):bD->dm| .dH l=> .cC (T.e l) .eM|_=>r
theorem aP.J(Z:T.g)(h:aP T S n N0 n0 w0 ms ws .fG p ρ q wk gs t w){g}(ac:gs[n+3]?=some g)(au:g.status= .running/\ej t (n+3)=0)(ax:T.s (p (n+3)) g w)(d)(ai):dO T S n N0 n0 w0 (n+3) d ai gs t w (bW T.d.length ms ws .fG):=by
 have⟨aQ,aq,g',aw,ad,ah,ap⟩:=Z.G _ g w ax;have B:=h.a.d;have ab:((n+3)==0)=false:=by simp
 have aN:=h.a.e;have⟨s,I⟩:=h.a.q;have I:w.heap[T.b]?=some (.chan 0 #[] false s s false):=I;have⟨st,V⟩:=h.a.r;have V:w.heap[T.c]?=some (.chan 0 #[] true st st false):=V;have ay:=aw (w.at d) s s I;have aC:∀l,ms≠ .eF l:=λ l e=>absurd (B.i l e) (by simp);have L:ba T.a w 0 0/\∀l,l<3->ws l= .cd:=h.a.o;have aT:∀l,ws l= .cd\/ws l= .fD:=λ l=>by
  rcases gg l 3 with y|y
  exact .inl (L.2 l y);exact .inr (B.c l y)
 let w':=(w.at d).setChan T.b 0 #[] true s s false;have M:∀a,a≠T.b->w'.heap[a]?=w.heap[a]?:=λ a f=>hy (w.at d) _ _ _ _ _ _ (Ne.symm f);have X:w'.heap.size=w.heap.size:=by show((w.at d).setChan T.b 0 #[] true s s false).heap.size=_;simp[hS];rfl
 have O:∀i,bE n ws .dD i↔bE n ws .fG i/\i≠n+3:=λ i=>by
  unfold bE;constructor
  rintro(m| ⟨j,m,U,H⟩| ⟨_,m⟩);exact⟨.inl m,by omega⟩;exact⟨.inr (.inl ⟨j,m,U,H⟩),by omega⟩;cases m
  grind
 have av:∀a,¬de T ms .fG a:=λ a=>by cases ms<;>exact id
 have aS:de T ms.e .dD (.close T.b):=by cases ms<;>first|rfl|exact absurd rfl (aC _)
 have aK:ej (t++ #[⟨n+3,g.frame.fn,g.frame.place,.access ⟨.obj T.b,false,true⟩⟩]) (n+3)=0:=by grind[kL,j3]
 have aA:bP S (λ b=>b=T.a\/b=T.c\/b=T.b) n0 (bE n ws .dD) (de T ms.e .dD) (ei p (n+3) vd) (t++cr (n+3) g.frame.fn g.frame.place (iS T.b)) w':=by
  refine((PY (h.c.c d).k (nD rfl) (.inr (.inr rfl)) g.frame.fn g.frame.place).F (i:=n+3) (λ i f=>?_) (λ i f=>(O i).1 f) (λ a f=>absurd f (av a)) λ k aM=>?_).m (eQ X.symm)
  all_goals grind[aaQ,oZ,AF,Lf]
 have ae:∀l,bO (p l) w w':=λ l=> ⟨eQ X.symm,λ a f=>M a λ e=>(h.c.k.c l a f).2.2 (.inr (.inr e)),rfl,rfl,rfl⟩;have aF:ed T ms.e ws .dD:=
  ⟨λ _ _ e=>absurd e (by simp),λ l j x own aD e Q=>absurd e ((bD.b ms).2.2.2.1 l),λ _=>B.f rfl,λ l _=>(bD.b ms).2.2.2.1 l,λ _ _=>rfl,λ j E=>by rw[(bD.b _).1];exact B.d j E,
   ⟨λ e=>absurd e (by simp),λ e=>absurd (B.a.2 ((bD.b ms).1▸e)) (by simp)⟩,B.c,by rw[(bD.b _).2.2.1];exact B.e,λ l _=>rfl⟩
 have an:Ab T n N0 w0 ms.e ws .dD (ei p (n+3) vd) (t++cr (n+3) g.frame.fn g.frame.place (iS T.b)) w':=by
  refine h.a.z aF ⟨lK (M _ h.a.c.2.2) L.1,L.2⟩ ⟨st,(M _ h.a.c.1).trans V⟩ ⟨s,gf (w.at d) I _ _ _ _ _ _⟩ X (λ a _ _ f=>M a f) (λ i f=>?_) (λ l x own aD e=>?_) (λ i a f=>?_) (uh (KS _)) (λ k x _ _ _=>?_) ⟨rfl,rfl,rfl⟩
  have⟨al,am⟩:=(O i).1 f;rw[dk p _ am];exact h.a.l i al
  grind
  by_cases e:i=n+3
  grind[df]
  rw[dk p _ e]at f;exact h.a.f i a f
  grind[bJ.d,absurd]
 let C:dm:=zK T (ρ 0) ms
 let ρ':=ei (ei ρ 0 C) (n+3) (.cF JT gM)
 have Y:ρ' (n+3)= .cF JT gM:=df _ _ _;have aj:ρ' 0=C:=by
  rfl
 have N:∀l,l≠0->l≠n+3->ρ' l=ρ l:=λ l m U=>by
  show ei (ei ρ 0 C) (n+3) _ l=_;rw[dk _ _ U,dk _ _ m]
 have aH:∀x,ew P g g' w' x=x.again w':=λ x=>by unfold ew;rw[aq,ad];rfl
 have aE:ei p (n+3) vd 0=p 0:=dk p _ (by omega);have ag:∀l x,l≠n+3->gs[l]?=some x->(l=0->∀l',ms≠ .dH l')->eJ P (λ b=>b=T.a\/b=T.c\/b=T.b) l (ej t l) (ei p (n+3) vd l) (ei q (n+3) ah l) 1 (ew P g g' w' x) w' (ρ l):=λ l x z v ar=>by
  rw[dk q _ z,dk p _ z];refine eJ.b (h.c.a l x v) (ae l) (λ u aI aU K c D Q aO=>?_) g g';exfalso;rcases h.I v D with⟨ao,⟨l',R⟩,_⟩| ⟨j,E,aa,⟨G,_⟩| ⟨_,_,_,G,_⟩⟩| ⟨aa,_⟩
  exact ar ao l' R;rw[L.2 j E]at G;cases G;rw[L.2 j E]at G;cases G;exact z aa
 have aB:∀l,ms= .dH l->∀x,gs[0]?=some x->∃u K,ρ 0= .ic u (eV T.b T.o) (.recv true) K/\x=et u #[eV T.b T.o] (.recv true)/\ej t 0=0:=λ l e x v=>by
  have J:=h.r;rw[e]at J;have⟨u,K,D⟩:=J;have W:=h.c.a 0 x v;rw[D]at W;exact⟨u,K,D,W.1.1,W.1.2⟩
 have aG:fa P S (λ b=>b=T.a\/b=T.c\/b=T.b) n0 (bE n ws .dD) (de T ms.e .dD) (ei p (n+3) vd) ρ' (ei q (n+3) ah) (λ _=>1) ((gs.map (ew P g g' w')).setIfInBounds (n+3) g') (t++cr (n+3) g.frame.fn g.frame.place (iS T.b)) w':=by
  refine h.c.m ac aA ?_ (λ l x z v=>?_) (λ l ak r e=>?_)
  rw[Y,df q];exact⟨.inl ad,by rw[Ka,ab,au.2];exact ap⟩;by_cases F:l=0;subst F;rw[aj];cases o:ms with
  |dH l'=>
   have A:C= .cC (T.e l') .eM:=by show zK T (ρ 0) ms=_;rw[o];rfl
   rw[A];have⟨u,K,D,Q,R⟩:=aB l' o x v;subst Q;rw[aH,nV (gf (w.at d) I _ _ _ _ _ _),aE];have⟨m1,m2⟩:=h.m l' u K o D;exact⟨⟨rfl,R⟩,λ w1 az=>Z.f _ _ _ _ _ m1 ((ae 0).d az)⟩
  |_=>
   have A:C=ρ 0:=by show zK T (ρ 0) ms=_;rw[o];rfl
   rw[A];exact ag 0 x z v (λ _ l' e=>by rw[o]at e;cases e)
  rw[N l F z];exact ag l x z v (λ e=>absurd e F);by_cases F:l=0;exact .inl F;by_cases H:l=n+3;subst H;rw[Y]at e;cases e;rw[N l F H]at e;exact(O l).2 ⟨h.c.b l ak r e,H⟩
 refine⟨_,w',_,ms.e,ws,.dD,_,ρ',_,_,gu (sl:=ai) ac (show eg P ((n+3)==0) g (w.at d)=_ by rw[ab];exact ay),⟨aG,an,by simp[h.e,(bD.b ms).1],h.o,?_,λ j E=>?_,?_,λ af h0 m=>?_,λ l u K e aR=>?_⟩,?_⟩
 rw[aj];have J:=h.r;cases o:ms with
 |dH l'=>
  have A:C= .cC (T.e l') .eM:=by show zK T (ρ 0) ms=_;rw[o];rfl
  rw[A];exact⟨.eM,rfl⟩
 |_=>
  have A:C=ρ 0:=by show zK T (ρ 0) ms=_;rw[o];rfl
  rw[A];rw[o]at J;exact J
 rw[N _ (by omega) (by omega)];exact h.f j E;rw[Y];rfl;rw[N af (by omega) (by omega)];exact h.k af h0 m;exact absurd e ((bD.b ms).2.2.2.1 l);have aJ:=(bD.b ms).2.2.2.2.2;unfold bW;simp[bJ.b];omega
end
section
variable{P:ef}{T:dY P}{S:Nat->Prop}{n N0 n0:Nat}{w0:dr}{ms ms':bD}{ws ws':Nat->bm}{fs fs':bJ}{p p':Nat->ai}{ρ ρ':Nat->dm}{q wk q':Nat->Nat}{gs:Array b2}{t u:fl}{w w':dr}
variable {c j:Nat} {g:b2}
def jY(c:Nat)(a b:fb)(pos:String):Trace:= #[⟨0,a,pos,.go c⟩,⟨c,b,pos,.start⟩]
theorem M1(c)(a b)(pos):t++jY c a b pos=(t++ #[⟨0,a,pos,.go c⟩])++ #[⟨c,b,pos,.start⟩]:=by rfl
theorem Ay{a b pos op}(h:op∈jY c a b pos):op.act= .go c\/op.act= .start:=by grind[jY]
theorem Nn(c)(a b)(pos)(l):ej (t++jY c a b pos) l=ej t l:=by grind[M1,kL,j3]
theorem Lx{k}(a b)(pos)(h0:ej t 0=0)(d:ej t c=0)(e:hv t 0 k):hv (t++jY c a b pos) c k:=by grind[M1,agl]
theorem L9{Y A A' q}(h:bP S Y n0 A q p t w)(h0:ej t 0=0)(x:ej t c=0)(s:∀i,A i->A' i)(u:A' c){f}(z:∀b,f b->(p 0).a b)(B:∀a b,f b->¬(p a).b b)(n o)(pos):bP S Y n0 A' q (ei p c ⟨f,λ _=>False⟩) (t++jY c n o pos) w:=by
 have C:ei p c ⟨f,λ _=>False⟩ c= ⟨f,λ _=>False⟩:=df _ _ _;have m:∀l,l≠c->ei p c ⟨f,λ _=>False⟩ l=p l:=λ l g=>dk p _ g;refine h.H (λ op j=>?_) (λ op j=>?_) s u (i:=0) (λ k y=>Lx n o pos h0 x y) (λ a b d=>?_) (λ a b d=>?_) (λ a l b v d g=>?_);rcases Ay j with e|e<;>(rw[e];exact trivial)
 rcases Ay j with e|e<;>(rw[e];rfl)
 grind
 by_cases e:a=c
 grind
 rw[m a e]at d⊢;exact⟨h.e a b d,.inl d⟩;by_cases e:a=c
 grind
 rw[m a e]at d;by_cases r:l=c
 grind
 rw[m l r]at g;exact h.f a l b v d g
theorem abb(d:j<3){x}(e:x.e=true){i}(h:bE n ws fs i):bE n (ei ws j x) fs i:=by
 obtain h| ⟨l,a,b,c⟩|h:=h;exact .inl h;refine .inr (.inl ⟨l,a,b,?_⟩)
 grind[df,dk]
 exact .inr (.inr h)
theorem aP.aj8(E:T.g)(h:aP T S n N0 n0 w0 (.go j) ws fs p ρ q wk gs t w)(H:gs[0]?=some g)(ak:T.B j (ej t 0) g)(d)(O):dO T S n N0 n0 w0 0 d O gs t w (bW T.d.length (.go j) ws fs):=by
 have⟨G,aH,g',child,aj,⟨ag,k,ac⟩,X⟩:=E.Q j _ g ak;have⟨aD,aK⟩:=h.r;have v:=h.a.d;have aF:=h.a.e;have ad:fs= .cg:=v.a.2 (by show min j 3<=3;omega);subst ad;have B:j<3:=by omega
 have C:gs.size=n+j:=by rw[h.e];show n+min j 3=n+j;omega
 have L:ws j= .fD:=(v.d j B).2 (by show min j 3<=j;omega);let ms':bD:=if j<2 then .iN (j+1)else .mW;have z:ms'.a=j+1:=by grind[bD.a]
 have W:ms'.c=j+1:=by grind[bD.c]
 have ab:ms'.f= []:=by show(if j<2 then bD.iN _ else .mW).f=_;split<;>rfl
 have M:∀l,ms'≠ .dH l:=λ l=>by grind
 have am:∀l,ms'≠ .eF l:=λ l=>by grind
 have ah:de T ms' .cg=de T (.go j) .cg:=by grind[de]
 have aE:rI T ms' (.cF T.J (if j<2 then T.n (j+1)else T.w)):=by
  grind[rI]
 have I:=o2 (sl:=O) H (show eg P (0==0) g (w.at d)=_ from aj (w.at d));have af:((cr 0 g.frame.fn g.frame.place #[]).push {g:=0,fn:=g.frame.fn,pos:=g.frame.place,act:= .go gs.size}|>.push {g:=gs.size,fn:=child.frame.fn,pos:=g.frame.place,act:= .start})=jY (n+j) g.frame.fn child.frame.fn g.frame.place:=by
  grind[jY,hg]
 rw[af]at I;have aa:ej t (n+j)=0:=h.c.e _ (by omega)
 let D:ai:= ⟨T.z,λ _=>False⟩
 have F:∀i,bE n ws .cg i->bE n (ei ws j .eC) .cg i:=λ i=>abb B rfl;have R:bE n (ei ws j .eC) .cg (n+j):= .inr (.inl ⟨j,B,rfl,by rw[df];rfl⟩);have U:∀i,bE n (ei ws j .eC) .cg i->i≠n+j->bE n ws .cg i:=λ i f aG=>by
  obtain f| ⟨l,m,y,ay⟩|f:=f
  exact .inl f;exact .inr (.inl ⟨l,m,y,by grind[dk]⟩);exact .inr (.inr f)
 have aq:∀a b,T.z b->¬(p a).b b:=λ a b z J=>(h.a.l a (h.c.k.s a b (h.c.k.e a b J)) b z).2 J;have al:bP S (λ b=>b=T.a\/b=T.c\/b=T.b) n0 (bE n (ei ws j .eC) .cg) (de T ms' .cg) (ei p (n+j) D) (t++jY (n+j) g.frame.fn child.frame.fn g.frame.place) (w.at d):=by
  rw[ah];exact L9 (h.c.c d).k G aa F R (λ b z=>(h.a.l 0 (.inl rfl) b z).1) aq _ _ _
 have N:ed T ms' (ei ws j .eC) .cg:=by
  refine⟨λ _ _ e=>absurd e (by simp),λ l _ _ _ _ e=>absurd e (M l),λ e=>absurd e (by trivial),λ l e=>absurd e (by simp),λ l e=>?_,λ l o=>?_,⟨λ _=>by omega,λ _=>rfl⟩,λ l o=>?_,?_,λ l e=>absurd e (am l)⟩
  by_cases s:l=j;subst s;rw[df]at e;cases e;rw[dk ws _ s]at e;exact v.b l e;rw[z];by_cases s:l=j
  grind[df,absurd]
  rw[dk _ _ s];refine(v.d l o).trans ?_;show min j 3<=l↔_;omega;rw[dk _ _ (by omega)];exact v.c l o;have hand:∀l,(ei ws j .eC l).a=(ws l).a:=λ l=>by
   by_cases o:l=j;subst o;rw[df,L];rfl
   grind[dk]
  rw[hand,hand,hand,ab];exact v.e
 have az:∀l,ws l≠ .dg/\ws l≠ .dA/\ws l≠ .dt:=h.a.o.2;have Y:bz ms' (ei ws j .eC)=bz (.go j) ws:=by rw[Dp N rfl,Dp v rfl,W];rfl
 have V:Ab T n N0 w0 ms' (ei ws j .eC) .cg (ei p (n+j) D) (t++jY (n+j) g.frame.fn child.frame.fn g.frame.place) (w.at d):=by
  refine h.a.z N (sY h.a.o (by rw[L];rfl) rfl Y) h.a.r h.a.q rfl (λ _ _ _ _=>rfl) (λ i f=>?_) (λ l x own ap e=>?_) (λ i a f=>?_) (λ op ae=>?_) (h.a.h (λ op ae x aJ=>?_) rfl Iff.rfl) ⟨rfl,rfl,rfl⟩
  by_cases e:i=n+j;subst e;rw[df];exact λ a f=> ⟨f,id⟩;rw[dk p _ e];exact h.a.l i (U i f e);have s:l≠j:=λ aw=>by grind[df]
  rw[dk ws _ s]at e;rw[dk p _ (by omega)];have⟨an,ao⟩:=h.a.g l x own ap e;exact⟨E.e x _ _ w _ an λ _ _=>rfl,ao⟩;by_cases e:i=n+j
  grind[df]
  rw[dk p _ e]at f;exact h.a.f i a f
  all_goals grind[Ay,eH]
 have⟨Z,r,aB⟩:=X D (w.at d) (λ a f=> ⟨f,id⟩) h.a.y
 let ρ':=ei (ei ρ 0 (.cF T.J (if j<2 then T.n (j+1)else T.w))) (n+j) (.cC T.f r)
 have au:ρ' 0= .cF T.J (if j<2 then T.n (j+1)else T.w):=by grind[ei,dk,df]
 have Q:ρ' (n+j)= .cC T.f r:=df _ _ _;have A:∀l,l≠0->l≠n+j->ρ' l=ρ l:=λ l m y=>by grind[ei,dk]
 have ar:=(h.c.c d).d (gi:=g') (child:=child) (i:=0) (u:=jY (n+j) g.frame.fn child.frame.fn g.frame.place) (ea.1 H).1 al (λ l _ o=>dk p _ (C▸o)) (ρ':=ρ') (λ l m y=>A l m (C▸y)) (q':=ei q 0 k) (wk':=wk) (λ l m _=>dk q _ m) (λ _ _ _=>rfl) (λ _=> .c _ _) (λ _ _ x=>x) (Nn _ _ _ _)
  (by rw[au,df,G];exact⟨.inl ag,ac⟩) (by
   rw[C,Q,df];have aA:((n+j)==0)=false:=by grind
   exact⟨⟨Z,rfl⟩,by grind⟩) (λ l av r' e=>by
   by_cases m:l=0
   grind
   by_cases y:l=n+j
   grind
   rw[A l m y]at e;exact F l (h.c.b l _ _ e))
 refine⟨_,_,_,ms',ei ws j .eC,.cg,_,ρ',_,_,I,⟨ar,V,by grind,h.o,by grind,λ l o=>?_,trivial,λ aN h0 m=>?_,λ l ax K e aI=>absurd e (M l)⟩,?_⟩
 by_cases s:l=j;subst s;rw[df,Q];exact⟨r,rfl⟩;rw[dk _ _ s,A _ (by omega) (by omega)];exact h.f l o;rw[A _ (by omega) (by omega)];exact h.k _ h0 m
 grind[bD.d,ei,df,bm.c,dk,bW,bJ.b]
theorem aP.aj5(B:T.g)(h:aP T S n N0 n0 w0 .mW ws fs p ρ q wk gs t w)(F:gs[0]?=some g)(Z:T.w (ej t 0) g)(d)(J):dO T S n N0 n0 w0 0 d J gs t w (bW T.d.length .mW ws fs):=by
 have⟨D,aw,g',child,Y,V,Q⟩:=B.K _ g Z;have o:=h.a.d;have aq:=h.a.e;have W:fs= .cg:=o.a.2 (hq _);subst W;have v:gs.size=n+3:=h.e;have G:=o2 (sl:=J) F (show eg P (0==0) g (w.at d)=_ from Y (w.at d));have X:((cr 0 g.frame.fn g.frame.place #[]).push {g:=0,fn:=g.frame.fn,pos:=g.frame.place,act:= .go gs.size}|>.push {g:=gs.size,fn:=child.frame.fn,pos:=g.frame.place,act:= .start})=jY (n+3) g.frame.fn child.frame.fn g.frame.place:=by
  grind[jY,hg]
 rw[X]at G;have E:ej t (n+3)=0:=h.c.e _ (by omega);let y:ai:= ⟨T.z,λ _=>False⟩;have C:∀i,bE n ws .cg i->bE n ws (.dF 0) i:=λ i f=>by
  obtain f|f| ⟨_,f⟩:=f
  exact .inl f;exact .inr (.inl f)
  trivial
 have M:bE n ws (.dF 0) (n+3):=nD rfl;have N:∀i,bE n ws (.dF 0) i->i≠n+3->bE n ws .cg i:=λ i f ar=>by
  obtain f|f| ⟨f,_⟩:=f
  exact .inl f;exact .inr (.inl f)
  omega
 have ag:∀a b,T.z b->¬(p a).b b:=λ a b A H=>(h.a.l a (h.c.k.s a b (h.c.k.e a b H)) b A).2 H;have ab:bP S (λ b=>b=T.a\/b=T.c\/b=T.b) n0 (bE n ws (.dF 0)) (de T (.eD []) (.dF 0)) (ei p (n+3) y) (t++jY (n+3) g.frame.fn child.frame.fn g.frame.place) (w.at d):=
  L9 (h.c.c d).k D E C M (λ b A=>(h.a.l 0 (.inl rfl) b A).1) ag _ _ _;have au:∀l,(ws l).g=false:=λ l=>by
  cases e:(ws l).g with
  |false=>rfl
  |true=>have:=o.b l e;trivial
 have af:ed T (.eD []) ws (.dF 0):=by
  refine⟨λ _ _ e=>absurd e (by simp),λ l _ _ _ _ e=>absurd e (by simp),λ e=>absurd e (by trivial),λ l e=>absurd e (by simp),λ l e=>?_,λ l m=>?_,⟨λ e=>absurd e (by simp),λ e=>absurd e (by trivial)⟩,o.c,o.e,λ l e=>absurd e (by simp)⟩
  grind
  refine(o.d l m).trans ?_;show 3<=l↔4<=l;omega
 have O:Ab T n N0 w0 (.eD []) ws (.dF 0) (ei p (n+3) y) (t++jY (n+3) g.frame.fn child.frame.fn g.frame.place) (w.at d):=by
  refine h.a.z af h.a.o h.a.r h.a.q rfl (λ _ _ _ _=>rfl) (λ i f=>?_) (λ l x own ae e=>?_) (λ i a f=>?_) (λ op av=>?_) (λ k x aa R m=>?_) ⟨rfl,rfl,rfl⟩
  by_cases e:i=n+3;subst e;rw[df];exact λ a f=> ⟨f,id⟩;rw[dk p _ e];exact h.a.l i (N i f e);have an:l<3:=hG λ U=>by rw[o.c l U]at e;cases e
  rw[dk p _ (by omega)];have⟨ac,ad⟩:=h.a.g l x own ae e;exact⟨B.e x _ _ w _ ac λ _ _=>rfl,ad⟩;by_cases e:i=n+3
  grind[df]
  rw[dk p _ e]at f;exact h.a.f i a f
  grind[Ay]
  rw[if_pos (show(bJ.dF 0).d=true from rfl)];rcases lx aa with⟨_,j⟩| ⟨_,op,j,_,s⟩
  exact Lx _ _ _ D E (h.a.B k x j R m rfl)
  grind[Ay,eH]
 have⟨al,r,am⟩:=Q y (w.at d) (λ a f=> ⟨f,id⟩) h.a.y;have⟨ao,I,ap⟩:=V (p 0) (w.at d) (h.a.l 0 (.inl rfl)) h.a.y
 let ρ':=ei (ei ρ 0 (.cC (T.e []) I)) (n+3) (.cC (T.i 0) r)
 have aA:ρ' 0= .cC (T.e []) I:=by rfl
 have L:ρ' (n+3)= .cC (T.i 0) r:=df _ _ _;have z:∀l,l≠0->l≠n+3->ρ' l=ρ l:=λ l j s=>by grind[ei,dk]
 have az:ei p (n+3) y 0=p 0:=dk p _ (by omega);have ah:=(h.c.c d).d (gi:=g') (child:=child) (i:=0) (u:=jY (n+3) g.frame.fn child.frame.fn g.frame.place) (ea.1 F).1 ab (λ l _ m=>dk p _ (v▸m)) (ρ':=ρ') (λ l j s=>z l j (v▸s)) (q':=q) (wk':=wk) (λ l j _=>rfl) (λ _ _ _=>rfl) (λ _=> .c _ _) (λ _ _ x=>x) (Nn _ _ _ _)
  (by trivial) (by
   rw[v,L,df];trivial) (λ l aj r' e=>by
   by_cases j:l=0
   exact .inl j;by_cases s:l=n+3
   grind
   rw[z l j s]at e;exact C l (h.c.b l _ _ e))
 refine⟨_,_,_,.eD [],ws,.dF 0,_,ρ',_,_,G,⟨ah,O,by simp[v,bD.a],h.o,by exact⟨_,rfl⟩,λ l m=>?_,by rw[L];exact⟨Nat.zero_le _,r,rfl⟩,λ ay h0 j=>?_,λ l ak K e ax=>absurd e (by simp)⟩,?_⟩
 rw[z _ (by omega) (by omega)];exact h.f l m;rw[z _ (by omega) (by omega)];exact h.k _ h0 j
 grind[bW,bD.d,bJ.b]
end
section
variable{P:ef}{T:dY P}{S:Nat->Prop}{n N0 n0:Nat}{w0:dr}{ms ms':bD}{ws ws':Nat->bm}{fs fs':bJ}{p p':Nat->ai}{ρ ρ':Nat->dm}{q wk q':Nat->Nat}{gs:Array b2}{t u:fl}{w w':dr}
variable {b:Bool}
theorem agX{h}(a:h.offers=none)(r)(b):offersAt h r b= []:=by grind[offersAt]
theorem aP.d(h:aP T S n N0 n0 w0 ms ws fs p ρ q wk gs t w){i c l k}(C:(l,k)∈nf (gs.setIfInBounds i ph) c b):l≠i/\k=0/\∃o a f,(∃K,ρ l= .ic o a f K)/\gs[l]?=some (et o #[a] f)/\((b=false/\c=T.b/\l=0/\(∃l',ms= .dH l')/\a=eV T.b T.o/\f= .recv true)\/(b=false/\c=T.c/\(∃j,j<3/\l=n+j/\ws j= .eA)/\a=eV T.c T.y/\f= .recv true)\/(b=true/\c=T.b/\(∃j x own y,j<3/\l=n+j/\ws j= .eh x own y/\a=gb T.b own (.tuple #[]))/\f= .send)\/(b=true/\c=T.c/\l=n+3/\(∃k x,fs= .ff k/\T.d[k]?=some x/\a=gb T.c x (.tuple #[]))/\f= .send)):=by
 have⟨g,A,s⟩:=mb.1 C;rcases getElem?_stand gs i l g A with⟨_,e⟩| ⟨D,u⟩
 grind[offersAt_ph]
 have d:=h.c.a l g u;cases m:ρ l with
 |cC Stop r=>
  rw[m]at d;rw[lA (by rw[d.1.1];simp)]at s;trivial
 |cF J Stop=>
  rw[m]at d;rw[lA (by rcases d.1 with x|x<;>(rw[x];simp))]at s;trivial
 |kD F=>
  rw[m]at d;have:g.offers=none:=by rcases d.2.2 with x| ⟨x,_⟩<;>(rw[x];exact d.2.1)
  grind[agX]
 |ic o a f K=>
  rw[m]at d;obtain⟨⟨B,_⟩,_⟩:=d;subst B;have hp:=h.I u m;have key:k=0/\((b=false/\∃z,a=eV c z)\/(b=true/\∃v,a=gb c v (.tuple #[]))):=by
   have one:∀{x c':Nat},x∈(if c'=c then[0]else[])->x=0/\c'=c:=λ{x c'}E=>by
    grind
   rcases hp with⟨_,_,e,_⟩| ⟨j,_,_,⟨_,e,_⟩| ⟨x,own,y,_,e,_⟩⟩| ⟨_,k',x,_,_,e,_⟩<;>subst e<;>cases b
   grind[hY]
   trivial
   grind[hY]
   trivial
   all_goals grind[offersAt_parked_send',nc]
  grind[eV,gb,absurd]
theorem aP.g(h:aP T S n N0 n0 w0 ms ws fs p ρ q wk gs t w){i c}(m:(b=false->c=T.b->∀l,ms≠ .dH l)/\(b=false->c=T.c->∀j,ws j≠ .eA)/\(b=true->c=T.b->∀j x own d,ws j≠ .eh x own d)/\(b=true->c=T.c->∀k,fs≠ .ff k)):nf (gs.setIfInBounds i ph) c b= []:=by apply List.eq_nil_iff_forall_not_mem.2;rintro⟨l,k⟩a;have⟨_,_,f,e,o,_,_,g⟩:=h.d a;grind
theorem aP.x(A:T.g)(h:aP T S n N0 n0 w0 ms ws fs p ρ q wk gs t w){i g gi}(G:gs[i]?=some g)(d)(H:bP S (λ b=>b=T.a\/b=T.c\/b=T.b) n0 (bE n ws' fs') (de T ms' fs') p (t++u) (w.at d))(I:∀l,ej (t++u) l=ej t l)(a)(o)(B:Ab T n N0 w0 ms' ws' fs' p (t++u) (w.at d))(U:eJ P (λ b=>b=T.a\/b=T.c\/b=T.b) i (ej t i) (p i) o (wk i) gi (w.at d) a)(L:∀Stop r,a= .cC Stop r->bE n ws' fs' i)(D:∀j,j≠i->bE n ws fs j->bE n ws' fs' j)(E:ms'.a=ms.a)(N:i=0\/n<=i)(y:i≠0->ms'=ms)(Q:i=0->rI T ms' a)(J:∀j,n+j≠i->ws' j=ws j)(V:∀j,j<3->n+j=i->uY T (ws' j) a)(F:i≠n+3->fs'=fs)(M:i=n+3->xq T fs' a)(O:i=0->∀l f K,ms'= .dH l->a= .ic f (eV T.b T.o) (.recv true) K->T.e l (p 0) {et f #[eV T.b T.o] (.recv true)with status:= .running} (w.at d)/\∀w',eg P true {et f #[eV T.b T.o] (.recv true)with status:= .running} w'= .comm f #[eV T.b T.o] true (.recv true) w' #[]):aP T S n N0 n0 w0 ms' ws' fs' p (ei ρ i a) (ei q i o) wk (gs.setIfInBounds i gi) (t++u) (w.at d):=by have R:=h.a.e;refine⟨(h.c.c d).n (ea.1 G).1 H (λ _ _=>rfl) (λ l m=>dk ρ a m) (λ l m=>dk q o m) (λ _ _=>rfl) (λ _=> .c _ _) (λ _ _ x=>x) I (by grind[df]) (λ j Stop r e=>?_),B,by simp[h.e,E],h.o,?_,λ j k=>?_,?_,λ W h0 C=>?_,λ l f K e z=>?_⟩;by_cases k:j=i;grind[df];rw[dk ρ a k]at e;exact D j k (h.c.b j _ r e);by_cases h0:i=0;grind[df];rw[dk _ _ (Ne.symm h0),y h0];exact h.r;by_cases v:n+j=i;grind[df];rw[dk _ _ v,J j v];exact h.f j k;by_cases s:i=n+3;grind[df];rw[dk _ _ (Ne.symm s),F s];exact h.u;rw[dk _ _ (by omega)];exact h.k _ h0 C;by_cases h0:i=0;grind[df];rw[dk ρ a (Ne.symm h0)]at z;have⟨m1,m2⟩:=h.m l f K (y h0▸e) z;exact⟨A.f _ _ _ _ _ m1 (jn _ _ _),m2⟩
theorem Ab.A(h:Ab T n N0 w0 ms ws fs p t w)(c:T.g)(d)(s:ed T ms' ws' fs')(v:ib T ms' ws' fs' w)(r:fs'.c=fs.c)(m:fs'.a=fs.a)(f:∀i,bE n ws' fs' i->bE n ws fs i)(own:∀j x own a,ws' j= .eh x own a->T.j x own a w/\∀b,a=some b->(p (n+j)).b b)(o:∀op∈u,op.act≠ .mark (.release (bg T.a)))(q:∀op∈u,∀x,op.act.touch?=some x->x.kind≠ .said)(k:fs'.d=fs.d)(l:fs'= .cg↔fs= .cg):Ab T n N0 w0 ms' ws' fs' p (t++u) (w.at d):=h.z s v (by rw[r];exact h.r) (by rw[m];exact h.q) rfl (λ _ _ _ _=>rfl) (λ i g=>h.l i (f i g)) (λ j x y a e=> ⟨c.e x _ _ w _ (by grind) λ _ _=>rfl,by grind⟩) h.f o (h.h q k l) ⟨rfl,rfl,rfl⟩
end
section
variable{P:ef}{T:dY P}{S:Nat->Prop}{n N0 n0:Nat}{w0:dr}{ms ms':bD}{ws ws':Nat->bm}{fs fs':bJ}{p p':Nat->ai}{ρ ρ':Nat->dm}{q wk q':Nat->Nat}{gs:Array b2}{t u:fl}{w w':dr}
variable {g:b2} {j:Nat} {x:en}
theorem ed.m(h:ed T ms ws fs){x}(q:j<3)(n:ws j≠ .fD)(r:x≠ .fD)(hp:x= .eA->(∀k,fs≠ .ff k)/\fs.c=false)(s:∀a b c,x= .eh a b c->∀l,ms≠ .dH l)(t:x.g=true->fs.c=true)(p:x.a=(ws j).a):ed T ms (ei ws j x) fs:=by
 have e:∀l,l≠j->ei ws j x l=ws l:=λ l d=>dk ws x d;have hand:∀l,(ei ws j x l).a=(ws l).a:=λ l=>by grind[df]
 refine⟨λ k l i f=>?_,λ l l' y own u m f=>?_,λ o l f=>?_,h.n,λ l d=>?_,λ l d=>?_,h.a,λ l d=>?_,by rw[hand,hand,hand];exact h.e,h.i⟩;by_cases d:l=j
 grind[df]
 rw[e l d]at f;exact h.g k l i f;by_cases d:l'=j
 grind[df]
 rw[e l' d]at f;exact h.h l _ y _ _ m f;by_cases d:l=j
 grind[df]
 rw[e l d]at f;exact h.f o l f;by_cases g:l=j
 grind[df]
 rw[e l g]at d;exact h.b l d;by_cases g:l=j;subst g;rw[df];exact⟨by grind,λ e=>absurd ((h.d l d).2 e) n⟩;rw[e l g];exact h.d l d;rw[e l (by omega)];exact h.c l d
theorem DK{l}:ej (t++ #[]) l=ej t l:=by simp
theorem oM{es}(h:es= #[])(g)(fn)(pos):cr g fn pos es= #[]:=by grind[hg]
theorem aP.R(a:T.g)(h:aP T S n N0 n0 w0 ms ws fs p ρ q wk gs t w)(B:j<3)(b:ws j= .eC)(A:gs[n+j]?=some g)(K:g.status= .running/\ej t (n+j)=0)(F:T.f (p (n+j)) g w)(m:(∀k,fs≠ .ff k)/\fs.c=false)(d)(G):dO T S n N0 n0 w0 (n+j) d G gs t w (bW T.d.length ms ws fs):=by
 have⟨_,c,E,⟨z,r,y⟩,R,_⟩:=a.i _ g w F;have M:=h.a.d;have C:=rO h j;have I:((n+j)==0)=false:=by grind
 have⟨s,f⟩:=h.a.r;rw[m.2]at f;have H:bE n (ei ws j .eA) fs=bE n ws fs:=mJ (λ l _=>sj (by rw[b];rfl) l) rfl;have D:=k4 (sl:=G) (cases:= #[eV T.c T.y]) A (show eg P ((n+j)==0) g (w.at d)=_ by rw[I];exact E _) (λ O v=>by simp at v;subst v;exact pS (w₁:=w.at d) f (h.g ⟨by simp,by simp,λ _ e=>absurd e h.a.c.1,λ _ _=>m.1⟩));rw[oM rfl]at D;have N:ed T ms (ei ws j .eA) fs:=M.m B (by grind) (by simp) (λ _=>m) (λ _ _ _ e=>absurd e (by simp)) (λ e=>absurd e (by trivial)) (by rw[b];rfl);have L:=h.x a (u:= #[]) (ms':=ms) (ws':=ei ws j .eA) (fs':=fs) (gi:=et c #[eV T.c T.y] (.recv true)) A d (by rw[H];simpa using(h.c.c d).k) (λ _=>DK) (.ic c (eV T.c T.y) (.recv true) (TQ T c)) (q (n+j)) (h.a.A a d N (sY h.a.o (by rw[b];rfl) rfl (oG (by rw[b];rfl))) rfl rfl (λ i Q=>by simp_all) (λ l x own U e=>by
  by_cases o:l=j;grind[df];rw[dk ws _ o]at e;exact h.a.g l x _ _ e) (by simp) (by simp) rfl Iff.rfl) ⟨⟨rfl,K.2⟩,⟨T.c,rfl,.inr (.inl rfl),s,s,f⟩,λ w' J=> ⟨a.m _ _ _ _ (a.n _ _ _ _ F rfl z r y) ((jn _ _ _).d J),λ w'=>(nz (g:={et c #[eV T.c T.y] (.recv true)with status:= .running}) z r y w').trans (E w')⟩⟩ (λ _ _ e=>by cases e) (λ _ _ x=>by simp_all) rfl (.inr (by omega)) (λ _=>rfl) (λ e=>absurd e C) (λ l o=>dk ws _ (by omega)) (λ l _ o=>by
  obtain rfl:l=j:=by omega
  rw[df];exact⟨_,rfl⟩) (λ _=>rfl) (λ e=>by omega) (λ e=>absurd e C);exact⟨_,_,_,_,_,_,p,_,_,_,D,L,rb B (by rw[b];rfl) (by grind[bm.c])⟩
theorem aP.ajV(m:T.g)(h:aP T S n N0 n0 w0 ms ws fs p ρ q wk gs t w)(f:j<3)(b:ws j= .iz x)(D:gs[n+j]?=some g)(O:g.status= .running/\ej t (n+j)=0)(U:T.k x (p (n+j)) g w)(C:∀l,ms≠ .dH l)(d)(G):dO T S n N0 n0 w0 (n+j) d G gs t w (bW T.d.length ms ws fs):=by
 have⟨_,own,k,o,Q,aa,ab,L⟩:=m.D x _ g w U;have X:=h.a.d;have E:=rO h j;have J:((n+j)==0)=false:=by grind
 have M:=As h.a.o f (by grind);have K:fs.a=false:=by cases fs<;>first|rfl|exact absurd rfl M.2.2.2
 have⟨s,r⟩:=h.a.q;rw[K]at r;have I:bE n (ei ws j (.eh x own k)) fs=bE n ws fs:=mJ (λ l _=>sj (by rw[b];rfl) l) rfl;have V:x∈T.d:=by have:=h.f j f;rw[b]at this;exact this.1
 have F:=k4 (sl:=G) (cases:= #[gb T.b own (.tuple #[])]) D (show eg P ((n+j)==0) g (w.at d)=_ by rw[J];exact Q _ (jn _ _ _)) (λ Z B=>by simp at B;subst B;exact pV (w₁:=w.at d) r (by simp) (h.g ⟨λ _ _=>C,λ _ e=>absurd e (Ne.symm h.a.c.1),by simp,by simp⟩));rw[oM rfl]at F;have Y:ed T ms (ei ws j (.eh x own k)) fs:=X.m f (by grind) (by simp) (λ e=>absurd e (by simp)) (λ _ _ _ _=>C) (λ e=>absurd e (by trivial)) (by rw[b];rfl);have W:=h.x m (u:= #[]) (ms':=ms) (ws':=ei ws j (.eh x own k)) (fs':=fs) (gi:=et o #[gb T.b own (.tuple #[])] .send) D d (by rw[I];simpa using(h.c.c d).k) (λ _=>DK) (.ic o (gb T.b own (.tuple #[])) .send (IM T o k)) (q (n+j)) (h.a.A m d Y (sY h.a.o (by rw[b];rfl) rfl (oG (by rw[b];rfl))) rfl rfl (λ i A=>by simp_all) (λ l y ad ac e=>by
  by_cases v:l=j;grind[df];rw[dk ws _ v]at e;exact h.a.g l y _ _ e) (by simp) (by simp) rfl Iff.rfl) ⟨⟨rfl,O.2⟩,⟨T.b,rfl,.inr (.inr rfl),s,s,r⟩,λ w' c p' w2 z H N R=>L p' w2 z H (((jn p' w d).d (bO.mk c.b (λ a A=>c.e a ((z a).1 A).1) c.i c.f c.h:bO p' (w.at d) w')).d N) R⟩ (λ _ _ e=>by cases e) (λ _ _ x=>by simp_all) rfl (.inr (by omega)) (λ _=>rfl) (λ e=>absurd e E) (λ l v=>dk ws _ (by omega)) (λ l _ v=>by
  obtain rfl:l=j:=by omega
  rw[df];exact⟨V,_,rfl⟩) (λ _=>rfl) (λ e=>by omega) (λ e=>absurd e E);exact⟨_,_,_,_,_,_,p,_,_,_,F,W,rb f (by rw[b];rfl) (by grind[bm.c])⟩
theorem aP.ajN(c:T.g){k}(h:aP T S n N0 n0 w0 ms ws (.dF k) p ρ q wk gs t w)(r:gs[n+3]?=some g)(E:g.status= .running/\ej t (n+3)=0)(H:T.i k (p (n+3)) g w)(z:T.d[k]?=some x)(o:∀j,ws j≠ .eA)(d)(A):dO T S n N0 n0 w0 (n+3) d A gs t w (bW T.d.length ms ws (.dF k)):=by
 have⟨_,f,G,C⟩:=c.C k x _ g w H z;have a:=h.a.d;have O:((n+3)==0)=false:=by simp
 have⟨s,b⟩:=h.a.r;have b:w.heap[T.c]?=some (.chan 0 #[] false s s false):=b;have B:bE n ws (.ff k)=bE n ws (.dF k):=mJ (λ _ _=>rfl) rfl;have v:=k4 (sl:=A) (cases:= #[gb T.c x (.tuple #[])]) r (show eg P ((n+3)==0) g (w.at d)=_ by exact G _ (jn _ _ _)) (λ M m=>by simp at m;subst m;exact pV (w₁:=w.at d) b (by simp) (h.g ⟨λ _ e=>absurd e h.a.c.1,λ _ _=>o,by simp,by simp⟩));rw[oM rfl]at v;have L:ed T ms ws (.ff k):= ⟨λ _ j _=>o j,a.h,λ e=>absurd e (by trivial),λ l e=>absurd e (by simp),λ j e=>absurd (a.b j e) (by grind),a.d,⟨λ e=>absurd e (by simp),λ e=>absurd (a.a.2 e) (by simp)⟩,a.c,a.e,λ l e=>absurd (a.i l e) (by simp)⟩;have F:de T ms (.ff k)=de T ms (.dF k):=wu ms _ _ (by simp) (by simp);have I:=h.x c (u:= #[]) (ms':=ms) (ws':=ws) (fs':= .ff k) (gi:=et f #[gb T.c x (.tuple #[])] .send) r d (by rw[B,F];simpa using(h.c.c d).k) (λ _=>DK) (.ic f (gb T.c x (.tuple #[])) .send λ _ _=>True) (q (n+3)) (h.a.A c d L h.a.o rfl rfl (λ i N=>by trivial) (λ l y K J e=>h.a.g l y K J e) (by simp) (by simp) rfl (by simp)) ⟨⟨rfl,E.2⟩,⟨T.c,rfl,.inr (.inl rfl),s,s,b⟩,λ _ _=>trivial⟩ (λ _ _ e=>by cases e) (λ _ _ x=>by trivial) rfl (.inr (by omega)) (λ _=>rfl) (λ e=>by omega) (λ l D=>rfl) (λ l _ D=>by omega) (λ e=>absurd rfl e) (λ _=> ⟨f,x,_,z,rfl,C⟩) (λ e=>by omega);exact⟨_,_,_,_,_,_,p,_,_,_,v,I,E4 (by simp[bJ.b])⟩
theorem aP.ajQ(b:T.g){l}(h:aP T S n N0 n0 w0 (.eD l) ws fs p ρ q wk gs t w)(r:gs[0]?=some g)(I:g.status= .running/\ej t 0=0)(z:T.e l (p 0) g w)(c:(∀j x own m,ws j≠ .eh x own m)/\fs≠ .dD)(d)(A):dO T S n N0 n0 w0 0 d A gs t w (bW T.d.length (.eD l) ws fs):=by
 have⟨_,f,K,⟨F,D,E⟩,W,_⟩:=b.h l _ g w z;have a:=h.a.d;have X:=h.a.e;have G:fs.a=false:=by cases fs<;>first|rfl|exact absurd rfl c.2
 have⟨s,k⟩:=h.a.q;rw[G]at k;have v:=k4 (sl:=A) (cases:= #[eV T.b T.o]) r (show eg P (0==0) g (w.at d)=_ from K (w.at d)) (λ U o=>by simp at o;subst o;exact pS (w₁:=w.at d) k (h.g ⟨by simp,by simp,λ _ _=>c.1,λ _ e=>absurd e (Ne.symm h.a.c.1)⟩));rw[oM rfl]at v;have Q:ed T (.dH l) ws fs:= ⟨a.g,λ _ j x own m _=>c.1 j x own m,a.f,λ l' e=>absurd e c.2,a.b,a.d,a.a,a.c,a.e,λ l' e=>absurd e (by simp)⟩;have J:de T (.dH l) fs=de T (.eD l) fs:=Jj _ _ _ (by simp) (by simp);have L:ib T (.dH l) ws fs w:=h.a.o;have M:=h.x b (u:= #[]) (ms':= .dH l) (ws':=ws) (fs':=fs) (gi:=et f #[eV T.b T.o] (.recv true)) r d (by rw[J];simpa using(h.c.c d).k) (λ _=>DK) (.ic f (eV T.b T.o) (.recv true) λ _ _=>True) (q 0) (h.a.A b d Q L rfl rfl (λ i C=>C) (λ l y O N e=>h.a.g l y O N e) (by simp) (by simp) rfl Iff.rfl) ⟨⟨rfl,I.2⟩,⟨T.b,rfl,.inr (.inr rfl),s,s,k⟩,λ _ _=>trivial⟩ (λ _ _ e=>by cases e) (λ _ _ x=>x) rfl (.inl rfl) (λ e=>absurd rfl e) (λ _=> ⟨f,_,rfl⟩) (λ l H=>rfl) (λ l _ H=>by omega) (λ _=>rfl) (λ e=>by omega) (λ _ l' V R e B=>by cases e;cases B;refine⟨b.f _ _ _ _ _ (b.o _ _ _ _ _ z rfl F D E) (jn _ _ _),λ w'=>?_⟩;grind[nz,et,eV,trans]);exact⟨_,_,_,_,_,_,p,_,_,_,v,M,by unfold bW;have:bz (.dH l) ws=bz (.eD l) ws:=rfl;grind[bD.d]⟩
end
section
variable{P:ef}{T:dY P}{S:Nat->Prop}{n N0 n0:Nat}{w0:dr}{ms ms':bD}{ws ws':Nat->bm}{fs fs':bJ}{p p':Nat->ai}{ρ ρ':Nat->dm}{q wk q':Nat->Nat}{gs:Array b2}{t u:fl}{w w':dr}
variable {g:b2} {k:Nat} {x:en}
theorem Me{y c}(a:y.act= .recvClosed c)(l):ej (t++ #[y]) l=ej t l:=by grind[kL,j3]
theorem aP.O(c:T.g)(h:aP T S n N0 n0 w0 ms ws fs p ρ q wk gs t w){j}(o:j<3)(b:ws j= .eC)(z:gs[n+j]?=some g)(U:g.status= .running/\ej t (n+j)=0)(I:T.f (p (n+j)) g w)(m:fs.c=true)(d)(C):dO T S n N0 n0 w0 (n+j) d C gs t w (bW T.d.length ms ws fs):=by
 have⟨_,f,H,⟨R,O,Q⟩,_,F⟩:=c.i _ g w I;have⟨G,r,V⟩:=F (w.at d) (jn _ _ _) h.a.y;have L:=h.a.d;have A:=rO h j;have E:((n+j)==0)=false:=by grind
 have⟨s,y⟩:=h.a.r;rw[m]at y;have K:∀k,fs≠ .ff k:=λ k e=>by rw[e]at m;trivial
 have D:bE n (ei ws j .lN) fs=bE n ws fs:=mJ (λ l _=>sj (by rw[b];rfl) l) rfl;have B:=n1 (sl:=C) z (show eg P ((n+j)==0) g (w.at d)=_ by rw[E];exact H _) (show(w.at d).heap[T.c]?=_ from y) (h.g ⟨by simp,by simp,λ _ e=>absurd e h.a.c.1,λ _ _=>K⟩);rw[oM rfl,gw]at B;have M:ed T ms (ei ws j .lN) fs:=L.m o (by grind) (by simp) (λ e=>absurd e (by simp)) (λ _ _ _ e=>absurd e (by simp)) (λ _=>m) (by rw[b];rfl);have J:=h.x c (u:= #[]++ #[{g:=n+j,fn:=f.frame.fn,pos:=f.frame.place,act:= .recvClosed T.c}]) (ms':=ms) (ws':=ei ws j .lN) (fs':=fs) (gi:=eo f (.tuple #[T.y,.bool false])) z d (by rw[D];exact(h.c.c d).k.z (g:=n+j) (by grind) (λ op a=>by simp at a;rw[a];exact h.c.k.d _ (by omega)) (λ op a=>by simp at a;rw[a];rfl)) (λ l=>by grind[Me]) (.cC T.D r) (q (n+j)) (h.a.A c d M (sY h.a.o (by rw[b];rfl) rfl (oG (by rw[b];rfl))) rfl rfl (λ i N=>by simp_all) (λ l x own X e=>by
  by_cases v:l=j;grind[df];rw[dk ws _ v]at e;exact h.a.g l x _ _ e) (λ op a=>by grind) (λ op a x W=>by grind[eH]) rfl Iff.rfl) ⟨⟨G,by omega⟩,by grind⟩ (λ _ _ e=> .inr (.inl ⟨j,o,rfl,by rw[df];rfl⟩)) (λ _ _ x=>by simp_all) rfl (.inr (by omega)) (λ _=>rfl) (λ e=>absurd e A) (λ l v=>dk ws _ (by omega)) (λ l _ v=>by
  obtain rfl:l=j:=by omega
  rw[df];exact⟨r,rfl⟩) (λ _=>rfl) (λ e=>by omega) (λ e=>absurd e A);exact⟨_,_,_,_,_,_,p,_,_,_,B,J,rb o (by rw[b];rfl) (by grind[bm.c])⟩
theorem aP.ajU(k:T.g){l}(h:aP T S n N0 n0 w0 (.eD l) ws .dD p ρ q wk gs t w)(z:gs[0]?=some g)(B:g.status= .running/\ej t 0=0)(L:T.e l (p 0) g w)(d)(F):dO T S n N0 n0 w0 0 d F gs t w (bW T.d.length (.eD l) ws .dD):=by
 have⟨_,f,K,⟨aa,Y,Z⟩,_,H⟩:=k.h l _ g w L;have c:=h.a.d;have ab:=h.a.e;have⟨s,o⟩:=h.a.q;have o:w.heap[T.b]?=some (.chan 0 #[] true s s false):=o;have D:ba T.a w 0 0/\∀l,l<3->ws l= .cd:=h.a.o;have N:∀l x own E,ws l≠ .eh x own E:=λ l x own E=>by rcases gg l 3 with y|y;grind;rw[c.c l y];simp
 have C:=n1 (sl:=F) z (show eg P (0==0) g (w.at d)=_ from K (w.at d)) (show(w.at d).heap[T.b]?=_ from o) (h.g ⟨by simp,by simp,λ _ _=>N,λ _ e=>absurd e (Ne.symm h.a.c.1)⟩);rw[oM rfl,gw]at C;have⟨J,r,M⟩:=H (w.at d) (jn _ _ _) h.a.y;have U:ed T (.eF l) ws .dD:= ⟨c.g,λ _ _ _ _ _ e=>absurd e (by simp),c.f,λ l' _=>by simp,c.b,c.d,c.a,c.c,c.e,λ l' e=>rfl⟩;have O:=h.x k (u:= #[]++ #[{g:=0,fn:=f.frame.fn,pos:=f.frame.place,act:= .recvClosed T.b}]) (ms':= .eF l) (ws':=ws) (fs':= .dD) (gi:=eo f (.tuple #[T.o,.bool false])) z d (by
  refine((h.c.c d).k.z (g:=0) (u:= #[]++ #[{g:=0,fn:=f.frame.fn,pos:=f.frame.place,act:= .recvClosed T.b}]) (λ op b=>by grind) (λ op b=>by simp at b;rw[b];exact h.c.k.d _ (by omega)) (λ op b=>by simp at b;rw[b];rfl)).G (i:=0) (.inl rfl) λ r a j m v=>?_;have m:a= .close T.b:=m;subst m;rw[fu]at j v⊢;have A:r<t.size:=by have X:=lt_of_act? j;grind[gg,oZ]
  rw[act?_old A]at j;exact afM j ((heard_old A).1 v) (.inl rfl) rfl rfl B.2) (λ l=>by grind[Me]) (.cC (T.l l) r) (q 0) (h.a.A k d U ⟨D.1,D.2⟩ rfl rfl (λ i G=>G) (λ l y R Q e=>h.a.g l y R Q e) (λ op b=>by grind) (λ op b x ac=>by grind[eH]) rfl Iff.rfl) ⟨⟨J,B.2⟩,M⟩ (λ _ _ e=> .inl rfl) (λ _ _ x=>x) rfl (.inl rfl) (λ e=>absurd rfl e) (λ _=> ⟨r,rfl⟩) (λ l I=>rfl) (λ l _ I=>by omega) (λ _=>rfl) (λ e=>by omega) (λ _ l' W V e _=>absurd e (by simp));exact⟨_,_,_,_,_,_,p,_,_,_,C,O,by unfold bW;have:bz (.eF l) ws=bz (.eD l) ws:=rfl;grind[bD.d]⟩
def jB(i j c s cap:Nat)(fi fj:fb)(pi pj:String):Trace:= #[⟨i,fi,pi,.send c s⟩,⟨j,fj,pj,.recv c s cap⟩,⟨i,fi,pi,.sendDone c s⟩,⟨j,fj,pj,.recvDone c s⟩]
section
variable{i j c s cap:Nat}{fi fj:fb}{pi pj:String}
theorem Vz:t++jB i j c s cap fi fj pi pj=((t++ #[⟨i,fi,pi,.send c s⟩])++ #[⟨j,fj,pj,.recv c s cap⟩,⟨i,fi,pi,.sendDone c s⟩])++ #[⟨j,fj,pj,.recvDone c s⟩]:=by rfl
theorem Im{op}(h:op∈jB i j c s cap fi fj pi pj):op.act= .send c s\/op.act= .recv c s cap\/op.act= .sendDone c s\/op.act= .recvDone c s:=by grind[jB]
theorem KV(l):ej (t++jB i j c s cap fi fj pi pj) l=ej t l:=by
 have e:t++jB i j c s cap fi fj pi pj=(((t++ #[⟨i,fi,pi,.send c s⟩])++ #[⟨j,fj,pj,.recv c s cap⟩])++ #[⟨i,fi,pi,.sendDone c s⟩])++ #[⟨j,fj,pj,.recvDone c s⟩]:=by rfl
 grind[kL,j3]
theorem QC(a:c<w.heap.size):∀op∈jB i j c s cap fi fj pi pj,op.act.low w.heap.size:=λ op b=>by rcases Im b with e|e|e|e<;>(rw[e];exact a)
theorem Hc:∀op∈jB i j c s cap fi fj pi pj,op.act.touch?=none:=λ op a=>by rcases Im a with e|e|e|e<;>(rw[e];rfl)
theorem ND(a):∀op∈jB i j c s cap fi fj pi pj,op.act≠ .mark (.release a):=λ op b=>by rcases Im b with e|e|e|e<;>(rw[e];simp)
theorem KB:∀op∈jB i j c s cap fi fj pi pj,∀x,op.act.touch?=some x->x.kind≠ .said:=λ op b x a=>by rw[Hc op b]at a;cases a
theorem Yv(a:ej t i=0)(d:ej t j=0)(b:hv t i k):hv (t++jB i j c s cap fi fj pi pj) j k:=by
 rw[Vz];refine Wb rfl rfl rfl rfl a ?_ b;have e:((t++ #[⟨i,fi,pi,.send c s⟩])++ #[⟨j,fj,pj,.recv c s cap⟩,⟨i,fi,pi,.sendDone c s⟩]:fl)=((t++ #[⟨i,fi,pi,.send c s⟩])++ #[⟨j,fj,pj,.recv c s cap⟩])++ #[⟨i,fi,pi,.sendDone c s⟩]:=by rfl
 grind[kL,j3]
end
theorem abL{α:Type}{l:List α}{x}(h:l[k]?=some x):l.take (k+1)=l.take k++ [x]:=by grind[List.take_add_one]
theorem afb{j}(c:j<3){s}(h0:(ws j).a= [])(f:s.a= [x]){a b}(h:a.Perm (b++ ((ws 0).a++ ((ws 1).a++ (ws 2).a)))):(a++ [x]).Perm (b++ ((ei ws j s 0).a++ ((ei ws j s 1).a++ (ei ws j s 2).a))):=by
 have e:∀l,l≠j->ei ws j s l=ws l:=λ l d=>dk ws s d;have k:ei ws j s j=s:=df ws j s;have base:(a++ [x]).Perm (b++ ([x]++ ((ws 0).a++ ((ws 1).a++ (ws 2).a)))):=by refine(h.append_right _).trans ?_;grind[fR,gl,fz]
 refine base.trans (gl b ?_)
 match j,c with
 |0,_=>simp_all|1,_=>grind[fR,List.Perm.append_right,fz]|2,_=>grind[fz,trans,List.Perm.of_eq,fR]
theorem ai2{j}(c:j<3){s}(h0:(ws j).a= [x])(f:s.a= []){a b:List en}(h:a.Perm (b++ ((ws 0).a++ ((ws 1).a++ (ws 2).a)))):a.Perm ((b++ [x])++ ((ei ws j s 0).a++ ((ei ws j s 1).a++ (ei ws j s 2).a))):=by
 have e:∀l,l≠j->ei ws j s l=ws l:=λ l d=>dk ws s d;have k:ei ws j s j=s:=df ws j s;refine h.trans ?_;rw[fR];refine gl b ?_
 match j,c with
 |0,_=>simp_all|1,_=>simp_all|2,_=>grind[fR,fz]
end
section
variable{P:ef}{T:dY P}{S:Nat->Prop}{n N0 n0:Nat}{w0:dr}{ms ms':bD}{ws ws':Nat->bm}{fs fs':bJ}{p p':Nat->ai}{ρ ρ':Nat->dm}{q wk q':Nat->Nat}{gs:Array b2}{t u:fl}{w w':dr}
variable {ob:Option Nat} {j i:Nat}
theorem J4{m x}(c:j<3)(h:x.b=(ws j).b)(b:ms'.d+x.c+fs'.b m (bz ms ws)<ms.d+ (ws j).c+fs.b m (bz ms ws))(a:ms'.c=ms.c):bW m ms' (ei ws j x) fs'<bW m ms ws fs:=by grind[ei,dk,df,bz,oG,bW]
theorem aP.A(R:T.g)(h:aP T S n N0 n0 w0 ms ws fs p ρ q wk gs t w){k x}(O:j<3)(au:ws j= .eC\/ws j= .eA)(X:fs= .dF k\/fs= .ff k)(z:T.d[k]?=some x){g1 J M L}(h1:gs[n+j]?=some g1)(h2:gs[n+3]?=some J) (W:ej t (n+j)=0/\ej t (n+3)=0) (al:∀w',bO (p (n+j)) w w'->T.h w'->bG P false (p (n+j)) M w' (T.k x)) (ak:∀p' w',T.p p'->T.h w'->bG P false p' L w' (T.i (k+1))) (d s) (aj:w.heap[T.c]?=some (.chan 0 #[] false s s false)) (F G) (H I):∃p' ρ' q' wk',aP T S n N0 n0 w0 ms (ei ws j (.iz x)) (.dF (k+1)) p' ρ' q' wk' ((gs.setIfInBounds (n+j) M).setIfInBounds (n+3) L) (t++jB (n+3) (n+j) T.c s 0 F G H I) ((w.at d).setChan T.c 0 #[] false (s+1) (s+1) false)/\
  bW T.d.length ms (ei ws j (.iz x)) (.dF (k+1))<bW T.d.length ms ws fs:=by
 have m:=h.a.d;have aI:=h.a.e;have o:(ws j).e=true/\(ws j).b=false/\(ws j).a= []/\ws j≠ .fD:=by rcases au with e|e<;>(rw[e];exact⟨rfl,rfl,rfl,by simp⟩)
 have g:fs.d=true/\fs.c=false/\fs.a=false/\fs≠ .cg/\fs≠ .dD/\fs≠ .fG/\fs.e T.d.length=k:=by rcases X with e|e<;>(rw[e];exact⟨rfl,rfl,rfl,by simp,by simp,by simp,rfl⟩)
 have an:k<T.d.length:=(List.getElem?_eq_some_iff.1 z).1;have ao:x∈T.d:=hQ z;have ax:∀l,ms≠ .eF l:=λ l e=>absurd (m.i l e) g.2.2.2.2.1;let w':=(w.at d).setChan T.c 0 #[] false (s+1) (s+1) false;have v:∀a,a≠T.c->w'.heap[a]?=w.heap[a]?:=λ a B=>hy (w.at d) _ _ _ _ _ _ (Ne.symm B);have ar:w'.heap[T.c]?=some (.chan 0 #[] false (s+1) (s+1) false):=gf (w.at d) aj _ _ _ _ _ _;have Q:w'.heap.size=w.heap.size:=by show((w.at d).setChan _ 0 _ _ _ _ _).heap.size=_;simp[hS];rfl
 have N:bE n (ei ws j (.iz x)) (.dF (k+1))=bE n ws fs:=mJ (λ l _=>sj (show(bm.iz x).e=(ws j).e from o.1.symm) l) g.1.symm;have aq:de T ms (.dF (k+1))=de T ms fs:=wu ms _ _ ⟨g.2.2.2.2.1,g.2.2.2.2.2.1⟩ (by simp);have aw:bP S (λ b=>b=T.a\/b=T.c\/b=T.b) n0 (bE n (ei ws j (.iz x)) (.dF (k+1))) (de T ms (.dF (k+1))) p (t++jB (n+3) (n+j) T.c s 0 F G H I) w':=by
  rw[N,aq];have:=(h.c.c d).k.E (jB (n+3) (n+j) T.c s 0 F G H I).toList (λ op D=>QC (w:=w.at d) (h.c.k.d _ (.inr (.inr (.inl rfl)))) op (by simpa using D)) (λ op D=>Hc op (by simpa using D));exact this.m (eQ Q.symm)
 have u:∀l,bO (p l) w w':=λ l=> ⟨eQ Q.symm,λ a B=>v a λ e=>(h.c.k.c l a B).2.2 (.inr (.inl e)),rfl,rfl,rfl⟩;have aL:∀l,(ws l).g=false:=λ l=>by
  cases e:(ws l).g with
  |false=>rfl
  |true=>have:=m.b l e;grind
 have az:ed T ms (ei ws j (.iz x)) (.dF (k+1)):=by
  refine⟨λ _ _ e=>absurd e (by simp),λ l l' y own ob e z=>?_,λ e=>absurd e (by trivial),λ l e=>absurd e (by simp),λ l e=>?_,λ l f=>?_,⟨λ e=>absurd e (by simp),λ e=>absurd (m.a.2 e) g.2.2.2.1⟩,λ l f=>?_,?_,λ l e=>absurd e (ax l)⟩
  by_cases f:l'=j
  grind[df]
  rw[dk ws _ f]at z;exact m.h l _ y _ _ e z;by_cases f:l=j;subst f;rw[df]at e;cases e
  grind[dk]
  by_cases C:l=j;subst C;rw[df];exact⟨by grind,λ e=>absurd ((m.d l f).2 e) o.2.2.2⟩;rw[dk _ _ C];exact m.d l f;rw[dk _ _ (by omega)];exact m.c l f;have V:=m.e;rw[g.2.2.2.2.2.2]at V;show(T.d.take (k+1)).Perm _;rw[abL z];exact afb O o.2.2.1 rfl V
 have av:ba T.a w (bR (bz ms ws) 0) 0/\∀j,ws j≠ .dg/\ws j≠ .dA/\ws j≠ .dt:=by
  have:=h.a.o;rcases X with e|e<;>(rw[e]at this;exact this)
 have aE:ib T ms (ei ws j (.iz x)) (.dF (k+1)) w:=sY (fs:= .dF (k+1)) av o.2.1 rfl (oG (show(bm.iz x).b=(ws j).b from o.2.1.symm));have U:Ab T n N0 w0 ms (ei ws j (.iz x)) (.dF (k+1)) p (t++jB (n+3) (n+j) T.c s 0 F G H I) w':=by
  refine h.a.z az (IU (v _ h.a.c.2.1) aE) ⟨s+1,ar⟩ (let⟨aC,e⟩:=h.a.q; ⟨aC,(v _ (Ne.symm h.a.c.1)).trans (by rw[e,g.2.2.1];rfl)⟩) Q (λ a _ B _=>v a B) (by rw[N];exact h.a.l) (λ l y own ob e=>?_) h.a.f (ND _) (h.a.h KB g.1.symm ⟨λ e=>absurd e (by simp),λ e=>absurd e g.2.2.2.1⟩) ⟨rfl,rfl,rfl⟩;have f:l≠j:=λ E=>by grind[df]
  rw[dk ws _ f]at e;have⟨ay,aa⟩:=h.a.g l y own ob e;exact⟨R.e y _ _ w _ ay λ b ai=>v b λ E=>(h.c.k.c _ b (h.c.k.e _ b (aa b ai))).2.2 (.inr (.inl E)),aa⟩
 have aK:bE n ws fs (n+j):= .inr (.inl ⟨j,O,rfl,o.1⟩);have ag:bE n ws fs (n+3):=nD g.1;have Z:T.h w':=U.y;have⟨aB,ac,aN⟩:=al w' (u _) Z;have⟨aA,ab,aM⟩:=ak (p (n+3)) w' (h.a.l _ ag) Z
 let ρ':=ei (ei ρ (n+j) (.cC (T.k x) ac)) (n+3) (.cC (T.i (k+1)) ab)
 have ad:ρ' (n+3)= .cC (T.i (k+1)) ab:=df _ _ _;have ae:ρ' (n+j)= .cC (T.k x) ac:=by grind[ei,dk,df]
 have A:∀l,l≠n+j->l≠n+3->ρ' l=ρ l:=λ l a b=>by grind[ei,dk]
 have aG:((n+j)==0)=false:=by grind
 have aH:((n+3)==0)=false:=by simp
 have ap:∀c,(c=T.a\/c=T.c\/c=T.b)->dT (w.at d) c->dT w' c:=λ c _ D=>by
  by_cases e:c=T.c
  exact⟨s+1,s+1,by grind⟩;have⟨a,b,ah⟩:=D;exact⟨a,b,(v c e).trans ah⟩
 have aD:=(h.c.c d).o (i:=n+3) (j:=n+j) (gi:=L) (gj:=M) (by omega) (ea.1 h2).1 (ea.1 h1).1 aw (p':=p) (ρ':=ρ') (q':=q) (wk':=wk) (λ _ _ _=>rfl) (λ l a b=>A l b a) (λ _ _ _=>rfl) (λ _ _ _=>rfl)
  (λ l=> ⟨(u l).b,(u l).e,(u l).i,(u l).f,(u l).h⟩) ap (λ l=>KV l) (by rw[ad];exact⟨⟨aA,W.2⟩,by grind⟩) (by rw[ae];exact⟨⟨aB,W.1⟩,by grind⟩) (λ l aF r e=>by
   rw[N];by_cases af:l=n+j
   grind
   by_cases E:l=n+3
   grind
   rw[A l af E]at e;exact h.c.b l _ r e)
 refine⟨p,ρ',q,wk,⟨aD,U,by simp[h.e],h.o,by rw[A 0 (by omega) (by omega)];exact h.r,λ l f=>?_,by rw[ad];exact⟨an,_,rfl⟩,λ aJ h0 am=>?_,λ l J K e Y=>?_⟩,?_⟩
 by_cases C:l=j;subst C;rw[df,ae];exact⟨ao,_,rfl⟩;rw[dk _ _ C,A _ (by omega) (by omega)];exact h.f l f;rw[A _ (by omega) (by omega)];exact h.k _ h0 am;rw[A 0 (by omega) (by omega)]at Y;have⟨m1,m2⟩:=h.m l J K e Y;exact⟨R.f _ _ _ _ _ m1 (u 0),m2⟩;refine J4 O o.2.1.symm ?_ rfl
 grind[bm.c,bz,bJ.b]
def vw(p:Nat->ai)(i:Nat)(ob:Option Nat)(l:Nat):=if l=0 then⟨λ a=>(p 0).a a\/ob=some a,λ a=>(p 0).b a\/ob=some a⟩else if l=i then⟨λ a=>(p i).a a/\ob≠some a,λ a=>(p i).b a/\ob≠some a⟩else p l
theorem xW{p}:vw p i ob 0= ⟨λ a=>(p 0).a a\/ob=some a,λ a=>(p 0).b a\/ob=some a⟩:=rfl
theorem qS{p}(b:i≠0):vw p i ob i= ⟨λ a=>(p i).a a/\ob≠some a,λ a=>(p i).b a/\ob≠some a⟩:=by grind[vw]
theorem qt{p l}(h0:l≠0)(a:l≠i):vw p i ob l=p l:=by grind[vw]
theorem aP.G(Q:T.g)(h:aP T S n N0 n0 w0 ms ws fs p ρ q wk gs t w){l x own}(L:j<3)(ab:(ws j= .iz x/\ms= .dH l)\/(ws j= .eh x own ob/\ms= .eD l)){g1 Y I gm}(h1:gs[n+j]?=some g1)(h2:gs[0]?=some Y) (J:ej t (n+j)=0/\ej t 0=0) (D:T.j x own ob w/\∀b,ob=some b->(p (n+j)).b b) (aY:x∈T.d) (ao:∀p' w',(∀a,p'.a a↔(p (n+j)).a a/\ob≠some a)->(∀a,p'.b a↔(p (n+j)).b a/\ob≠some a)->bO p' w w'->T.h w'->bG P false p' I w' T.f) (an:∀p' w',bO (p 0) w w'->T.h w'->T.j x own ob w'->(∀a,p'.a a↔(p 0).a a\/ob=some a)->(∀a,p'.b a↔(p 0).b a\/ob=some a)->bG P true p' gm w' (T.e (l++ [x]))) (d s) (al:w.heap[T.b]?=some (.chan 0 #[] false s s false)) (G H) (N O):∃p' ρ' q' wk',aP T S n N0 n0 w0 (.eD (l++ [x])) (ei ws j .eC) fs p' ρ' q' wk' ((gs.setIfInBounds (n+j) I).setIfInBounds 0 gm) (t++jB (n+j) 0 T.b s 0 G H N O) ((w.at d).setChan T.b 0 #[] false (s+1) (s+1) false)/\
  bW T.d.length (.eD (l++ [x])) (ei ws j .eC) fs<bW T.d.length ms ws fs:=by
 have C:=h.a.d;have aV:=h.a.e;have z:(ws j).e=true/\(ws j).b=false/\(ws j).a= [x]/\ws j≠ .fD/\ws j≠ .cd:=by rcases ab with⟨e,_⟩| ⟨e,_⟩<;>(rw[e];exact⟨rfl,rfl,rfl,by simp,by simp⟩)
 have A:ms.a=4/\ms.c=3/\ms.f=l/\∀l',ms≠ .eF l':=by rcases ab with⟨_,e⟩| ⟨_,e⟩<;>(rw[e];exact⟨rfl,rfl,rfl,by simp⟩)
 have au:=As h.a.o L z.2.2.2.2;have aT:fs.a=false:=by cases fs<;>first|rfl|exact absurd rfl au.2.2.2
 have ac:n+j≠0:=by omega
 let w':=(w.at d).setChan T.b 0 #[] false (s+1) (s+1) false
 have B:∀a,a≠T.b->w'.heap[a]?=w.heap[a]?:=λ a g=>hy (w.at d) _ _ _ _ _ _ (Ne.symm g);have aX:w'.heap[T.b]?=some (.chan 0 #[] false (s+1) (s+1) false):=gf (w.at d) al _ _ _ _ _ _;have V:w'.heap.size=w.heap.size:=by show((w.at d).setChan _ 0 _ _ _ _ _).heap.size=_;simp[hS];rfl
 have aa:bE n (ei ws j .eC) fs=bE n ws fs:=mJ (λ l _=>sj (show bm.eC.e=(ws j).e from z.1.symm) l) rfl;have ax:de T (.eD (l++ [x])) fs=de T ms fs:=Jj _ _ _ A.2.2.2 (by simp);have a0:bE n ws fs (n+j):= .inr (.inl ⟨j,L,rfl,z.1⟩);have u:=h.c.k
 let p':=vw p (n+j) ob
 have ap:=u.f;have az:bP S (λ b=>b=T.a\/b=T.c\/b=T.b) n0 (bE n (ei ws j .eC) fs) (de T (.eD (l++ [x])) fs) p' (t++jB (n+j) 0 T.b s 0 G H N O) w':=by
  rw[aa,ax];refine((h.c.c d).k.H (i:=n+j) (j:=0) (A':=bE n ws fs) (QC (w:=w.at d) (u.d _ (.inr (.inr (.inr rfl))))) Hc (λ _ x=>x) (.inl rfl) (λ k ar=>Yv J.1 J.2 ar) (λ a b f=>?_) (λ a b f=>?_) (λ a c b aQ f aS=>?_)).m (eQ V.symm)
  by_cases e:a=0;subst e;rw[show p' 0=_ from xW]at f;obtain y|y:=f
  grind
  exact .inr ⟨rfl,u.e _ b (D.2 b y)⟩
  grind[qS,qt]
  by_cases e:a=0;subst e;rw[show p' 0=_ from xW]at f⊢;obtain y|y:=f
  exact⟨.inl (u.e 0 b y),.inl y⟩
  grind
  by_cases m:a=n+j;subst m;rw[show p' (n+j)=_ from qS ac]at f⊢;exact⟨⟨u.e _ b f.1,f.2⟩,.inl f.1⟩;rw[show p' a=_ from qt e m]at f⊢;exact⟨u.e a b f,.inl f⟩
  
  have W:(a=0/\((p 0).b b\/ob=some b))\/(a≠0/\(p a).b b/\(a=n+j->ob≠some b)):=by
   grind[xW,qS,qt,absurd]
  have R:(c=0/\((p 0).a b\/ob=some b))\/(c≠0/\(p c).a b/\(c=n+j->ob≠some b)):=by
   grind[xW,qS,qt,absurd]
  rcases W with⟨U,w1⟩| ⟨U,w1,w2⟩<;>obtain⟨m,af⟩| ⟨m,af,a1⟩:=R
  omega
  grind
  subst m;obtain y|y:=af
  grind
  by_cases aj:a=n+j
  grind
  exact ap a _ b aj w1 (u.e _ b (D.2 b y))
  grind
 have v:∀l,bO (p l) w w':=λ l=> ⟨eQ V.symm,λ a g=>B a λ e=>(u.c l a g).2.2 (.inr (.inr e)),rfl,rfl,rfl⟩;have aF:ed T (.eD (l++ [x])) (ei ws j .eC) fs:=by
  refine⟨λ k l' e E=>?_,λ l' _ _ _ _ e=>absurd e (by simp),λ e l' E=>?_,λ l' e=>by simp,λ l' e=>?_,λ l' o=>?_,?_,λ l' o=>?_,?_,λ l' e=>absurd e (by simp)⟩
  by_cases o:l'=j
  grind[df]
  rw[dk ws _ o]at E;exact C.g k _ e E;by_cases o:l'=j
  grind[df]
  rw[dk ws _ o]at E;exact C.f e _ E;by_cases o:l'=j;subst o;rw[df]at e;cases e;rw[dk ws _ o]at e;exact C.b _ e;show _↔4<=l';rw[<-A.1];by_cases M:l'=j
  grind[df,absurd]
  rw[dk _ _ M];exact C.d _ o;show _↔4<=3;rw[<-A.1];exact C.a;rw[dk _ _ (by omega)];exact C.c _ o;have Z:=C.e;rw[A.2.2.1]at Z;exact ai2 L z.2.2.1 rfl Z
 have am:bz (.eD (l++ [x])) (ei ws j .eC)=bz ms ws:=by rw[oG (show bm.eC.b=(ws j).b from z.2.1.symm)];unfold bz;rw[A.2.1];rfl
 have aM:ib T (.eD (l++ [x])) (ei ws j .eC) fs w:=sY h.a.o z.2.1 rfl am;have a3:∀b,ob=some b->¬T.z b:=λ b f=>by subst f;exact Q.F x _ b w D.1
 have aD:∀b,ob=some b->b≠T.b:=λ b f e=>(u.c _ b (u.e _ b (D.2 b f))).2.2 (.inr (.inr e));have aA:∀i,bE n ws fs i->T.p (p' i):=λ i g a ay=>by
  have aU:=h.a.l i g a ay
  grind[xW,qS,qt]
 have X:Ab T n N0 w0 (.eD (l++ [x])) (ei ws j .eC) fs p' (t++jB (n+j) 0 T.b s 0 G H N O) w':=by
  refine h.a.z aF (IU (B _ h.a.c.2.2) aM) (let⟨aK,e⟩:=h.a.r; ⟨aK,(B _ h.a.c.1).trans e⟩) ⟨s+1,by grind⟩ V (λ a _ _ g=>B a g) (λ i g=>aA i (by simp_all)) (λ l' y aE aC e=>?_) (λ i a g=>?_) (ND _) (h.a.h KB rfl Iff.rfl) ⟨rfl,rfl,rfl⟩
  have o:l'≠j:=λ m=>by grind[df]
  rw[dk ws _ o]at e;have⟨aB,ae⟩:=h.a.g l' y aE aC e;rw[show p' _=_ from qt (by omega) (by omega)];exact⟨Q.e y _ _ w _ aB λ b f=>B b λ m=>(u.c _ b (u.e _ b (ae b f))).2.2 (.inr (.inr m)),ae⟩;by_cases e:i=0;subst e;exact g.elim (h.a.f 0 a) λ y=>h.a.f _ a (D.2 a y);by_cases m:i=n+j;subst m;rw[show p' (n+j)=_ from qS ac]at g;exact h.a.f _ a g.1;rw[show p' i=_ from qt e m]at g;exact h.a.f i a g
 have ad:T.h w':=X.y;have⟨aJ,ah,a2⟩:=ao (p' (n+j)) w' (λ a=>by grind[qS]) (λ a=>by grind[qS]) ⟨(v (n+j)).b,λ a g=>(v (n+j)).e a (by grind[qS]),rfl,rfl,rfl⟩ ad;have⟨aH,ag,aI⟩:=an (p' 0) w' (v 0) ad (Q.e x own ob w w' D.1 λ b f=>B b (aD b f)) (λ a=>by rfl) (λ a=>by rfl)
 let ρ':=ei (ei ρ (n+j) (.cC T.f ah)) 0 (.cC (T.e (l++ [x])) ag)
 have a5:ρ' 0= .cC (T.e (l++ [x])) ag:=df _ _ _;have ai:ρ' (n+j)= .cC T.f ah:=by grind[ei,dk,df]
 have F:∀l',l'≠n+j->l'≠0->ρ' l'=ρ l':=λ l' a b=>by grind[ei,dk]
 have aR:((n+j)==0)=false:=by grind
 have av:∀c,(c=T.a\/c=T.c\/c=T.b)->dT (w.at d) c->dT w' c:=λ c _ aw=>by
  by_cases e:c=T.b
  exact⟨s+1,s+1,by grind⟩;have⟨a,b,ak⟩:=aw;exact⟨a,b,(B c e).trans ak⟩
 have aG:∀l',bO (p l') (w.at d) w':=λ l'=> ⟨(v l').b,(v l').e,(v l').i,(v l').f,(v l').h⟩;have a4:∀l' aN,l'≠0->l'≠n+j->gs[l']?=some aN->p' l'=p l':=λ l' _ a b _=>qt a b;have aL:fa P S (λ b=>b=T.a\/b=T.c\/b=T.b) n0 (bE n (ei ws j .eC) fs) (de T (.eD (l++ [x])) fs) p' ρ' q wk ((gs.setIfInBounds (n+j) I).setIfInBounds 0 gm) (t++jB (n+j) 0 T.b s 0 G H N O) w':=
  (h.c.c d).o (i:=0) (j:=n+j) (gi:=gm) (gj:=I) (by omega) (ea.1 h2).1 (ea.1 h1).1 az (p':=p') (ρ':=ρ') (q':=q) (wk':=wk) (λ l' a b=>qt a b) (λ l' a b=>F l' b a) (λ _ _ _=>rfl) (λ _ _ _=>rfl)
  aG av (λ l=>KV l) (by exact⟨⟨aH,J.2⟩,aI⟩) (by rw[ai];exact⟨⟨aJ,J.1⟩,by grind⟩) (λ l' aO r e=>by
   rw[aa];by_cases U:l'=n+j
   grind
   by_cases m:l'=0;exact .inl m;rw[F l' U m]at e;exact h.c.b _ _ r e)
 refine⟨p',ρ',q,wk,⟨aL,X,by simp[h.e,A.1];rfl,h.o,by exact⟨_,rfl⟩,λ l' o=>?_,by rw[F _ (by omega) (by omega)];exact h.u,λ aZ h0 aq=>?_,λ l' Y K e aW=>absurd e (by simp)⟩,?_⟩
 by_cases M:l'=j;subst M;rw[df,ai];exact⟨_,rfl⟩;rw[dk _ _ M,F _ (by omega) (by omega)];exact h.f _ o;rw[F _ (by omega) (by omega)];exact h.k _ h0 aq;refine J4 L z.2.1.symm ?_ A.2.1.symm
 grind[bm.c,bD.d]
end
section
variable {j:Nat} {g:b2} {x:en} {sh:kH} {k j0:Nat} {l0:List en}
theorem ed.y{P}{T:dY P}{ms ws fs}(h:ed T ms ws fs){l}(c:ms.f=l)(b:j<3)(g:(ws j).a= [x]):∃r,T.d.Perm (l++x::r):=by
 have a:=h.e;rw[c]at a;have e:T.d=T.d.take (fs.e T.d.length)++T.d.drop (fs.e T.d.length):=(List.take_append_drop _ _).symm;have key:∀r0,((ws 0).a++ ((ws 1).a++ (ws 2).a)).Perm (x::r0)->∃r,T.d.Perm (l++x::r):=λ r0 d=> ⟨r0++T.d.drop (fs.e T.d.length),by have f:=(a.trans (gl l d)).append_right (T.d.drop (fs.e T.d.length));grind⟩
 match j,b with|0,_=>grind[List.Perm.refl]|1,_=>grind[List.perm_middle]|2,_=>exact key ((ws 0).a++ (ws 1).a) (by grind[fR,fz])
section
variable{P:ef}{T:dY P}{S:Nat->Prop}{n N0 n0:Nat}{w0:dr}{ms ms':bD}{ws ws':Nat->bm}{fs fs':bJ}{p p':Nat->ai}{ρ ρ':Nat->dm}{q wk q':Nat->Nat}{gs:Array b2}{t u:fl}{w w':dr}
theorem Bj{a b cs cs' f}(h:et a cs sh=et b cs' f)(v):eo a v=eo b v:=by have⟨g,i,j,k,l⟩:=a;have⟨m,n,o,p,q⟩:=b;simp only[et,Goroutine.mk.injEq]at h;have⟨c,d,_,e,_⟩:=h;subst c d e;rfl
theorem Cj{a b c d e}(h:et a #[c] sh=et b #[d] e):c=d/\sh=e:=by grind[et,Goroutine.mk.injEq,Option.some.injEq,Prod.mk.injEq,Array.mk.injEq]
theorem Po{gs:Array b2}{i}(h:i≠j)(a b):(gs.setIfInBounds i a).setIfInBounds j b=(gs.setIfInBounds j b).setIfInBounds i a:=Array.setIfInBounds_comm a b h
theorem CF(w:dr)(d e):(w.at d).at e=w.at e:=rfl
theorem D5{l i c z}(a:l≠i)(h:gs[l]?=some (et g #[eV c z] sh)):(l,0)∈nf (gs.setIfInBounds i ph) c false:=mb.2 ⟨_,stand_get a h,by rw[hY,if_pos rfl];simp⟩
theorem Bx{l i c v z}(a:l≠i)(h:gs[l]?=some (et g #[gb c v z] sh)):(l,0)∈nf (gs.setIfInBounds i ph) c true:=mb.2 ⟨_,stand_get a h,by rw[nc,if_pos rfl];simp⟩
theorem aP.y(h:aP T S n N0 n0 w0 ms ws fs p ρ q wk gs t w){l}(a:l<n+ms.a):∃g,gs[l]?=some g:= ⟨_,ko (h.e▸a)⟩
theorem aP.D(h:aP T S n N0 n0 w0 ms ws fs p ρ q wk gs t w)(b:j<3)(c:ws j≠ .fD):∃g,gs[n+j]?=some g:=by refine h.y ?_;have:¬ms.a<=j:=λ a=>c ((h.a.d.d j b).2 a);omega
theorem aP.ajO(h:aP T S n N0 n0 w0 ms ws fs p ρ q wk gs t w)(b:fs≠ .cg):∃g,gs[n+3]?=some g:=by refine h.y ?_;have:¬ms.a<=3:=λ a=>b (h.a.d.a.2 a);omega
theorem aP.F(f:T.g)(h:aP T S n N0 n0 w0 ms ws fs p ρ q wk gs t w)(d:j<3)(o:ws j= .eA):∃a,gs[n+j]?=some (et a #[eV T.c T.y] (.recv true))/\ej t (n+j)=0/\∀x w',x∈T.d->bO (p (n+j)) w w'->T.h w'->bG P false (p (n+j)) (eo a (.tuple #[x,.bool true])) w' (T.k x):=by
 have⟨g,c⟩:=h.D d (by grind);have e:=h.f j d;rw[o]at e;have⟨a,i⟩:=e;have b:=h.c.a _ g c;rw[i]at b;have⟨k1,s⟩:=b.2.2 w (bO.c _ _);have⟨_,l,r,_,m,_⟩:=f.i _ _ w k1;have k:l=a:=by simp_all
 subst k;exact⟨_,by rw[c,b.1.1],b.1.2,m⟩
theorem aP.B(h:aP T S n N0 n0 w0 ms ws fs p ρ q wk gs t w){own ob}(d:j<3)(i:ws j= .eh x own ob):∃b,gs[n+j]?=some (et b #[gb T.b own (.tuple #[])] .send)/\ej t (n+j)=0/\x∈T.d/\IM T b ob (p (n+j)) w:=by have⟨g,c⟩:=h.D d (by grind);have e:=h.f j d;rw[i]at e;have⟨k,b,f⟩:=e;have a:=h.c.a _ g c;rw[f]at a;exact⟨_,by rw[c,a.1.1],a.1.2,k,a.2.2 w (bO.c _ _)⟩
theorem aP.aj7(h:aP T S n N0 n0 w0 ms ws fs p ρ q wk gs t w)(i:fs= .ff k):∃a x,gs[n+3]?=some (et a #[gb T.c x (.tuple #[])] .send)/\ej t (n+3)=0/\T.d[k]?=some x/\∀p' w',T.p p'->T.h w'->bG P false p' (eo a nL) w' (T.i (k+1)):=by have⟨g,c⟩:=h.ajO (by grind);have d:=h.u;rw[i]at d;have⟨a,x,K,j,e,f⟩:=d;have b:=h.c.a _ g c;rw[e]at b;exact⟨_,x,by rw[c,b.1.1],b.1.2,j,f⟩
theorem aP.aj9(k:T.g)(h:aP T S n N0 n0 w0 ms ws fs p ρ q wk gs t w){l}(i:ms= .dH l):∃b,gs[0]?=some (et b #[eV T.b T.o] (.recv true))/\ej t 0=0/\∀x own d p' w',(∃r,T.d.Perm (l++x::r))->bO (p 0) w w'->T.h w'->T.j x own d w'->(∀a,p'.a a↔(p 0).a a\/d=some a)->(∀a,p'.b a↔(p 0).b a\/d=some a)->bG P true p' (eo b (.tuple #[own,.bool true])) w' (T.e (l++ [x])):=by
 have⟨g,f⟩:=h.y (l:=0) (by have:=h.a.e;omega);have j:=h.r;rw[i]at j;have⟨b,K,e⟩:=j;have c:=h.c.a _ g f;rw[e]at c;have⟨m1,m2⟩:=h.m l b K i e;have⟨_,o,u,_,s,_⟩:=k.h l _ _ w m1;have m:o=b:=by simp_all
 subst m;exact⟨_,by rw[f,c.1.1],c.1.2,s⟩
theorem aP.W(a:T.g)(h:aP T S n N0 n0 w0 ms ws (.dF k) p ρ q wk gs t w)(y:gs[n+3]?=some g)(R:g.status= .running/\ej t (n+3)=0)(W:T.i k (p (n+3)) g w)(f:T.d[k]?=some x)(M:j0<3)(Y:ws j0= .eA)(d)(D):dO T S n N0 n0 w0 (n+3) d D gs t w (bW T.d.length ms ws (.dF k)):=by
 have⟨_,o,U,K⟩:=a.C k x _ g w W f;have ah:((n+3)==0)=false:=by simp
 have⟨s,b⟩:=h.a.r;have b:w.heap[T.c]?=some (.chan 0 #[] false s s false):=b;have⟨af,J,_⟩:=h.F a M Y;obtain⟨l,gj,aa,C,G,N,v,c⟩:=mr (sl:=D) y (show eg P ((n+3)==0) g (w.at d)=_ by exact U _ (jn _ _ _)) (show(w.at d).heap[T.c]?=_ from b) (λ e=>by have:=D5 (i:=n+3) (by omega) J;grind) (λ l k Q=>by have⟨ab,ac,ad,F,sh,ae,E,m⟩:=h.d Q;grind);have⟨_,_,ag,F,sh,_,E,m⟩:=h.d (D5 (i:=n+3) N v);obtain⟨j,z,O,B⟩:∃j,j<3/\l=n+j/\ws j= .eA:=by obtain⟨_,e,_⟩| ⟨_,_,e,_⟩| ⟨e,_⟩| ⟨e,_⟩:=m;exact absurd e h.a.c.1;all_goals trivial
 subst O;have⟨r,u,I,L⟩:=h.F a z B;have A:et gj #[eV T.c aa] C=et r #[eV T.c T.y] (.recv true):=gE (v.symm.trans u);have V:C= .recv true:=(Cj A).2;subst V;rw[hU,gw,oM rfl,fu,CF]at c;have X:eo gj (recvd true x true)=eo r (.tuple #[x,.bool true]):=Bj A _;rw[X]at c;have⟨p',ρ',q',wk',Z,H⟩:=h.A a z (.inr B) (.inl rfl) f u y ⟨I,R.2⟩ (λ w'=>L x w' (hQ f)) K G s b o.frame.fn gj.frame.fn o.frame.place gj.frame.place;exact⟨_,_,_,_,_,_,_,_,_,_,c,Z,H⟩
theorem aP.Q(f:T.g)(h:aP T S n N0 n0 w0 ms ws (.ff k) p ρ q wk gs t w)(K:j<3)(W:ws j= .eC)(u:gs[n+j]?=some g)(O:g.status= .running/\ej t (n+j)=0)(U:T.f (p (n+j)) g w)(d)(A):dO T S n N0 n0 w0 (n+j) d A gs t w (bW T.d.length ms ws (.ff k)):=by
 have⟨_,o,Q,_,I,_⟩:=f.i _ g w U;have ag:=rO h j;have G:((n+j)==0)=false:=by grind
 have⟨s,a⟩:=h.a.r;have a:w.heap[T.c]?=some (.chan 0 #[] false s s false):=a;have⟨E,x,b,H,z,J⟩:=h.aj7 rfl;obtain⟨l,gj,c,Z,Y,D,L,r,y⟩:=mo (sl:=A) u (show eg P ((n+j)==0) g (w.at d)=_ by rw[G];exact Q _) (show(w.at d).heap[T.c]?=_ from a) (λ e=>by have:=Bx (i:=n+j) (by omega) b;grind) (λ l k N=>by have⟨aa,ab,ac,C,sh,ad,B,m⟩:=h.d N;grind);have⟨_,_,ae,C,sh,_,B,m⟩:=h.d (Bx (i:=n+j) L r);have M:l=n+3:=by obtain⟨e,_⟩| ⟨e,_⟩| ⟨_,e,_⟩| ⟨_,_,e,_⟩:=m;cases e;cases e;exact absurd e h.a.c.1;omega
 subst M;have v:et gj #[gb T.c c Z] Y=et E #[gb T.c x (.tuple #[])] .send:=gE (r.symm.trans b);have⟨af,R⟩:=Cj v;have V:c=x:=by grind[gb]
 subst R V;rw[hU,gw,oM rfl,fu,CF,Bj v,Po (by omega)]at y;have⟨p',ρ',q',wk',X,F⟩:=h.A f K (.inl W) (.inr rfl) z u b ⟨O.2,H⟩ (λ w'=>I c w' (hQ z)) J D s a gj.frame.fn o.frame.fn gj.frame.place o.frame.place;exact⟨_,_,_,_,_,_,_,_,_,_,y,X,F⟩
theorem aP.Y(b:T.g)(h:aP T S n N0 n0 w0 (.dH l0) ws fs p ρ q wk gs t w)(a:j<3)(o:ws j= .iz x)(z:gs[n+j]?=some g)(V:g.status= .running/\ej t (n+j)=0)(Y:T.k x (p (n+j)) g w)(d)(C):dO T S n N0 n0 w0 (n+j) d C gs t w (bW T.d.length (.dH l0) ws fs):=by
 have⟨_,own,ac,v,W,R,U,K⟩:=b.D x _ g w Y;have aj:=rO h j;have H:((n+j)==0)=false:=by grind
 have O:=As h.a.o a (by grind);have J:fs.a=false:=by cases fs<;>first|rfl|exact absurd rfl O.2.2.2
 have⟨s,c⟩:=h.a.q;rw[J]at c;have aa:x∈T.d:=by have:=h.f j a;rw[o]at this;exact this.1
 have⟨u,f,I,L⟩:=h.aj9 b rfl;obtain⟨l,gj,ad,B,F,M,y,m⟩:=mr (sl:=C) z (show eg P ((n+j)==0) g (w.at d)=_ by rw[H];exact W _ (jn _ _ _)) (show(w.at d).heap[T.b]?=_ from c) (λ e=>by have:=D5 (i:=n+j) (by omega) f;grind) (λ l k Q=>by have⟨ae,af,ag,E,sh,ah,D,r⟩:=h.d Q;grind);have⟨_,_,ai,E,sh,_,D,r⟩:=h.d (D5 (i:=n+j) M y);have N:l=0:=by obtain⟨_,_,e,_⟩| ⟨_,e,_⟩| ⟨e,_⟩| ⟨e,_⟩:=r;exact e;exact absurd e (Ne.symm h.a.c.1);all_goals trivial
 subst N;have A:et gj #[eV T.b ad] B=et u #[eV T.b T.o] (.recv true):=gE (y.symm.trans f);have X:B= .recv true:=(Cj A).2;subst X;rw[hU,gw,oM rfl,fu,CF,Po (by omega)]at m;have Z:eo gj (recvd true own true)=eo u (.tuple #[own,.bool true]):=Bj A _;rw[Z]at m;have⟨p',ρ',q',wk',ab,G⟩:=h.G b a (.inl ⟨o,rfl⟩) z f ⟨V.2,I⟩ ⟨R,U⟩ aa K (λ p' w'=>L x own ac p' w' (h.a.d.y rfl a (by rw[o];rfl))) F s c v.frame.fn gj.frame.fn v.frame.place gj.frame.place;exact⟨_,_,_,_,_,_,_,_,_,_,m,ab,G⟩
theorem aP.ajP(o:T.g)(h:aP T S n N0 n0 w0 (.eD l0) ws fs p ρ q wk gs t w)(z:gs[0]?=some g)(V:g.status= .running/\ej t 0=0)(Y:T.e l0 (p 0) g w)(A:j0<3){ag ae ad}(aa:ws j0= .eh ag ae ad)(d)(D):dO T S n N0 n0 w0 0 d D gs t w (bW T.d.length (.eD l0) ws fs):=by
 have⟨_,u,W,_,M,_⟩:=o.h l0 _ g w Y;have au:=h.a.e;have Q:=As h.a.o A (by grind);have L:fs.a=false:=by cases fs<;>first|rfl|exact absurd rfl Q.2.2.2
 have⟨s,f⟩:=h.a.q;rw[L]at f;have⟨ap,K,_⟩:=h.B A aa;have⟨l,gj,c,ah,af,G,O,y,C⟩:=mo (sl:=D) z (show eg P (0==0) g (w.at d)=_ from W (w.at d)) (show(w.at d).heap[T.b]?=_ from f) (λ e=>by have:=Bx (i:=0) (by omega) K;grind) (λ l k U=>by have⟨ai,aj,ak,F,sh,al,E,r⟩:=h.d U;grind);have⟨_,_,aq,F,sh,_,E,r⟩:=h.d (Bx (i:=0) O y);obtain⟨j,x,own,a,m,R,b⟩:∃j x own a,j<3/\l=n+j/\ws j= .eh x own a:=by obtain⟨e,_⟩| ⟨e,_⟩| ⟨_,_,⟨j,x,own,a,am,an,ao,_⟩,_⟩| ⟨_,e,_⟩:=r;cases e;cases e;grind;exact absurd e (Ne.symm h.a.c.1)
 subst R;have⟨H,v,J,ab,N⟩:=h.B m b;have B:et gj #[gb T.b c ah] af=et H #[gb T.b own (.tuple #[])] .send:=gE (y.symm.trans v);have⟨ar,X⟩:=Cj B;have Z:c=own:=by grind[gb]
 subst X Z;rw[hU,gw,oM rfl,fu,CF,Bj B]at C;have⟨p',ρ',q',wk',ac,I⟩:=h.G o m (.inr ⟨b,rfl⟩) v z ⟨J,V.2⟩ (h.a.g j x c a b) ab N (λ p' w'=>M x c a p' w' (h.a.d.y rfl m (by rw[b];rfl))) G s f gj.frame.fn u.frame.fn gj.frame.place u.frame.place;exact⟨_,_,_,_,_,_,_,_,_,_,C,ac,I⟩
end
end
section
variable{P:ef}{T:dY P}{S:Nat->Prop}{n N0 n0:Nat}{w0:dr}{ms ms':bD}{ws ws':Nat->bm}{fs fs':bJ}{p p':Nat->ai}{ρ ρ':Nat->dm}{q wk q':Nat->Nat}{gs:Array b2}{t u:fl}{w w':dr}
variable {g:b2} {j:Nat}
theorem afx{a}(c:a.status= .running)(b:a.offers=none)(h:g={a with status:= .blocked}\/g=a)(w):g.again w=a:=by obtain rfl|rfl:=h;have⟨d,e,f,i,j⟩:=a;simp at c b;subst c b;rfl;grind[Dk]
theorem aP.akc(B:T.g)(h:aP T S n N0 n0 w0 ms ws .dZ p ρ q wk gs t w)(A:j<3)(v:ws j= .dt)(I:gs[n+j]?=some g)(af:T.E (ej t (n+j)) g)(d)(Q):dO T S n N0 n0 w0 (n+j) d Q gs t w (bW T.d.length ms ws .dZ):=by
 have⟨aw,aF,aB,g',ae,ac,N,az⟩:=B.y _ g af;have⟨_,H,ay,y⟩:=D6 h A (.inr (.inr v));have y:ba T.a w 0 0:=by grind
 have aj:=h.a.d;have aD:=h.a.e;have aC:=rO h j;have E:((n+j)==0)=false:=by grind
 have⟨au,_,aI⟩:=IA (T:=T) y 1;let w':=(w.at d).setCell (dL T.a) (.int .u32 1);have u:∀a,a≠T.a->w'.heap[a]?=w.heap[a]?:=λ a o=>nI _ _ _ o;have F:w'.heap.size=w.heap.size:=au;have D:bE n (ei ws j .cd) .eE=bE n ws .dZ:=mJ (λ l _=>sj (by rw[v];rfl) l) rfl;have ad:de T ms .eE=de T ms .dZ:=wu ms _ _ (by simp) (by simp);have ag:bP S (λ b=>b=T.a\/b=T.c\/b=T.b) n0 (bE n (ei ws j .cd) .eE) (de T ms .eE) p (t++cr (n+j) g.frame.fn g.frame.place (lu (dL T.a))) w':=by
  rw[D,ad];exact(Pk (h.c.c d).k h.o _ _ _).m (eQ F.symm)
 have L:∀l,bO (p l) w w':=λ l=> ⟨eQ F.symm,λ a o=>u a λ e=>(h.c.k.c l a o).2.2 (.inl e),rfl,rfl,rfl⟩;have al:ed T ms (ei ws j .cd) .dZ:=aj.r A (by grind) (by simp) (by simp) (by simp) (λ _=>rfl) (by rw[v];rfl);have ak:ed T ms (ei ws j .cd) .eE:=al.o rfl rfl (by simp) (by simp) (by simp) rfl rfl (by simp) (by simp);have aq:ib T ms (ei ws j .cd) .eE w':=by
  refine .inr ⟨by rw[oG (by rw[v];rfl)];omega,j,A,λ l i aA=>by grind[dk],.inr (.inr ⟨I7 y _,df _ _ _⟩)⟩
 have V:Ab T n N0 w0 ms (ei ws j .cd) .eE p (t++cr (n+j) g.frame.fn g.frame.place (lu (dL T.a))) w':=by
  refine h.a.z ak aq (let⟨s,e⟩:=h.a.r; ⟨s,(u _ (Ne.symm h.a.c.2.1)).trans e⟩) (let⟨s,e⟩:=h.a.q; ⟨s,(u _ (Ne.symm h.a.c.2.2)).trans e⟩) F (λ a o _ _=>u a o) (by rw[D];exact h.a.l) (λ l x own ai e=>?_) h.a.f
   (uh λ e aa=>?_) (h.a.h (uM λ e aa x G=>?_) rfl (by simp)) ⟨rfl,rfl,rfl⟩
  have i:l≠j:=λ z=>by grind[df]
  rw[dk ws _ i]at e;have⟨ah,O⟩:=h.a.g l x own ai e;exact⟨B.e x _ _ w _ ah λ b E=>u b λ z=>(h.c.k.c _ b (h.c.k.e _ b (O b E))).2.2 (.inl z),O⟩
  all_goals grind[BS,f,xd,Aj,hB,yd]
 have aE:∀c,dT w c->dT w' c:=λ c H=>JE (w:=w.at d) y rfl _ H;have ar:∀x,ew P g g' w' x=x.again w':=λ x=>by grind[ew]
 let ρ':=ei (ei ρ (n+3) (.cF T.J T.m)) (n+j) (.cF JT gM);let q':=ei (ei q (n+3) 0) (n+j) N;have U:ρ' (n+j)= .cF JT gM:=df _ _ _;have R:ρ' (n+3)= .cF T.J T.m:=by grind[ei,dk,df]
 have m:∀l,l≠n+j->l≠n+3->ρ' l=ρ l:=λ l a b=>by grind[ei,dk]
 have ao:q' (n+j)=N:=df _ _ _;have am:q' (n+3)=0:=by grind[ei,dk,df]
 have an:∀l,l≠n+j->l≠n+3->q' l=q l:=λ l a b=>by grind[ei,dk]
 have⟨aH,ab,ax⟩:=h.u;have ap:fa P S (λ b=>b=T.a\/b=T.c\/b=T.b) n0 (bE n (ei ws j .cd) .eE) (de T ms .eE) p ρ' q' (λ _=>1) ((gs.map (ew P g g' w')).setIfInBounds (n+j) g') (t++cr (n+j) g.frame.fn g.frame.place (lu (dL T.a))) w':=by
  refine h.c.m I ag ?_ (λ l x i G=>?_) (λ l av r e=>?_)
  rw[U,ao];exact⟨.inl ac,by grind[H9]⟩;by_cases C:l=n+3;subst C;have k:=h.c.a _ x G;rw[ab]at k;rw[R,am,ar,afx k.1.1 k.2.1 (k.2.2.imp id And.left)];have Z:((n+3)==0)=false:=by simp
  refine⟨.inl k.1.1,?_⟩;rw[Z,k.1.2];trivial;rw[m l i C,an l i C];exact eJ.b (h.c.a l x G) (L l) (by grind) g _;rw[D];by_cases W:l=n+j
  grind
  by_cases z:l=n+3
  grind
  rw[m l W z]at e;exact h.c.b l _ r e
 refine⟨_,w',_,ms,ei ws j .cd,.eE,p,ρ',_,_,gu (sl:=Q) I (show eg P ((n+j)==0) g (w.at d)=_ by rw[E];exact ae _ y),⟨ap,V,by simp[h.e],h.o,?_,λ l i=>?_,R,λ aG h0 Y=>?_,λ l X K e M=>?_⟩,?_⟩
 rw[m 0 (by omega) (by omega)];exact h.r;by_cases J:l=j;subst J;rw[df,U];rfl;rw[dk _ _ J,m _ (by omega) (by omega)];exact h.f l i;rw[m _ (by omega) (by omega)];exact h.k _ h0 Y;rw[m 0 (by omega) (by omega)]at M;have⟨m1,m2⟩:=h.m l X K e M;exact⟨B.f _ _ _ _ _ m1 (L 0),m2⟩;refine J4 A (by rw[v];rfl) ?_ rfl
 grind[bm.c,bJ.b]
theorem aP.H(c:T.g)(h:aP T S n N0 n0 w0 ms ws fs p ρ q wk gs t w)(f:j<3)(a:ws j= .lN)(v:gs[n+j]?=some g)(I:ej t (n+j)=0)(C:T.D (p (n+j)) g w)(d)(o):dO T S n N0 n0 w0 (n+j) d o gs t w (bW T.d.length ms ws fs):=by
 have⟨K,g',L,B,k,J⟩:=c.R _ g w C;have m:=h.a.d;have y:=rO h j;have H:((n+j)==0)=false:=by grind
 have s:bE n (ei ws j .ln) fs=bE n ws fs:=mJ (λ l _=>sj (by rw[a];rfl) l) rfl;have A:cr (n+j) g.frame.fn g.frame.place #[]= #[]:=oM rfl _ _ _;have D:ed T ms (ei ws j .ln) fs:=m.m f (by grind) (by simp) (λ e=>absurd e (by simp)) (λ _ _ _ e=>absurd e (by simp)) (λ _=>m.b j (by rw[a];rfl)) (by rw[a];rfl);have r:Ab T n N0 w0 ms (ei ws j .ln) fs p (t++cr (n+j) g.frame.fn g.frame.place #[]) (w.at d):=h.a.A c d D (sY h.a.o (by rw[a];rfl) rfl (oG (by rw[a];rfl))) rfl rfl (λ i u=>by simp_all) (λ l x own N e=>by by_cases b:l=j;grind[df];rw[dk ws _ b]at e;exact h.a.g l x _ _ e) (λ op z=>by grind) (λ op z x M=>by grind) rfl Iff.rfl;have⟨G,ops,E,F⟩:=h.E c v d o (by grind) (ws':=ei ws j .ln) (fs':=fs) (ms':=ms) (p':=p) (w':=w.at d) (by rw[s,A,Array.append_empty];exact(h.c.c d).k) (λ _ _=>rfl) (.cF T.J T.F) k rfl (λ _ _ _ _=>rfl) (λ _ _ x=>x) ⟨rfl,rfl,rfl⟩ r ⟨.inl B,by grind[eL,ej]⟩ (λ _ _ e=>by cases e) (λ l b u=>by simp_all) rfl (.inr (by omega)) (λ _=>rfl) (λ e=>absurd e y) (λ l b=>dk ws _ (by omega)) (λ l _ b=>by
  obtain rfl:l=j:=by omega
  rw[df];rfl) (λ _=>rfl) (λ e=>by omega);exact⟨_,_,_,_,_,_,_,_,_,_,E,F,rb f (by rw[a];rfl) (by grind[bm.c])⟩
end
section
variable{P:ef}{T:dY P}{S:Nat->Prop}{n N0 n0:Nat}{w0:dr}{ms ms':bD}{ws ws':Nat->bm}{fs fs':bJ}{p p':Nat->ai}{ρ ρ':Nat->dm}{q wk q':Nat->Nat}{gs:Array b2}{t u:fl}{w w':dr}
variable {i:Nat} {g:b2} {J:dr->Prop}
theorem aP.who(h:aP T S n N0 n0 w0 ms ws fs p ρ q wk gs t w)(b:gs[i]?=some g):i=0\/(0<i/\i<n)\/(∃j,j<3/\i=n+j/\ws j≠ .fD)\/(i=n+3/\fs≠ .cg):=by
 have f:i<n+ms.a:=h.e▸(ea.1 b).1;have d:ms.a<=4:=by cases ms<;>simp[bD.a]<;>omega
 have k:=h.a.e;rcases ma i with e|l
 omega;rcases gg i n with c|c;omega;obtain⟨j,rfl⟩:∃j,i=n+j:= ⟨i- n,by omega⟩;rcases gg j 3 with a|a;exact .inr (.inr (.inl ⟨j,a,rfl,λ e=>by have:=(h.a.d.d j a).1 e;omega⟩));obtain rfl:j=3:=by omega
 exact .inr (.inr (.inr ⟨rfl,λ e=>by have:=h.a.d.a.1 e;omega⟩))
inductive Xq{P:ef}(T:dY P)(S:Nat->Prop)(n N0 n0:Nat)(w0:dr)(i d:Nat)(b:Option (Nat×Nat))(ms:bD)(ws:Nat->bm)(fs:bJ)(ρ:Nat->dm)(q wk:Nat->Nat)(gs:Array b2)(t:fl)(w:dr):Prop where|A5 (h:dO T S n N0 n0 w0 i d b gs t w (bW T.d.length ms ws fs))|KN (Stop:ai->b2->dr->Prop) (f:dr->dI) (w1:dr) (a:Array b2) (w':dr) (ops:Array nb) (p':Nat->ai) (e:ρ i= .cC Stop (.mk f)) (c:lb P (fv gs (w.at d) b) i=(.next (fv a w' b),ops)) (h:aP T S n N0 n0 w0 ms ws fs p' (ei ρ i (.cC Stop (f w1))) q (λ _=>1) a (t++ops) w')|Mj (J:dr->Prop) (Stop:Nat->b2->Prop) (k:Nat) (a:Array b2) (ops:Array nb) (p':Nat->ai) (e:ρ i= .cF J Stop) (m:q i=k+1) (c:lb P (fv gs (w.at d) b) i=(.next (fv a (w.at d) b),ops)) (h:aP T S n N0 n0 w0 ms ws fs p' ρ (ei q i k) (λ _=>1) a (t++ops) (w.at d))|On (g:b2) (a:Array b2) (ops:Array nb) (p':Nat->ai) (e:∃j,ρ i= .kD j) (l:wk i=1) (c:lb P (fv gs (w.at d) b) i=(.next (fv a (w.at d) b),ops)) (h:aP T S n N0 n0 w0 ms ws fs p' (ei ρ i (.kD g)) q (ei wk i 0) a (t++ops) (w.at d))
theorem aP.N(s:T.g)(h:aP T S n N0 n0 w0 ms ws fs p ρ q wk gs t w){i g}(f:gs[i]?=some g){Stop r}(B:ρ i= .cC Stop r)(u:g.status= .running/\ej t i=0)(m:Stop (p i) g w) (J:∀l,ms= .eF l->i=0->¬T.l l (p 0) g w) (d) (o):dO T S n N0 n0 w0 i d o gs t w (bW T.d.length ms ws fs):=by
 rcases h.who f with e| ⟨h0,I⟩| ⟨j,y,e,E⟩| ⟨e,E⟩;subst e;have z:=h.r;rw[B]at z;cases ms with
  |eD l=>
   have⟨r',e⟩:=z;cases e;by_cases G:fs= .dD;subst G;exact h.ajU s f u m d o
   by_cases hp:∃j x own A,ws j= .eh x own A;have⟨j,x,own,A,hp⟩:=hp;have y:j<3:=hG λ D=>by rw[h.a.d.c j D]at hp;cases hp
   exact h.ajP s f u m y hp d o;exact h.ajQ s f u m ⟨λ j x own A e=>hp ⟨j,x,own,A,e⟩,G⟩ d o|eF l=>have⟨r',e⟩:=z;cases e;exact absurd m (J l rfl rfl)|dH l=>have⟨C,K,e⟩:=z;cases e|iN j=>cases z.2|go j=>cases z.2|lI=>cases z|mW=>cases z
 have:=h.k i h0 I;rw[B]at this;cases this;subst e;have a:=h.f j y;rw[B]at a;cases b:ws j with
 |eC=>rw[b]at a;have⟨r',e⟩:=a;cases e;cases H:fs.c with|true=>exact h.O s y b f u m H d o|false=>
   by_cases hp:∃k,fs= .ff k;obtain⟨k,rfl⟩:=hp;exact h.Q s y b f u m d o;exact h.R s y b f u m ⟨λ k e=>hp ⟨k,e⟩,H⟩ d o
 |iz x=>rw[b]at a;have⟨_,r',e⟩:=a;cases e;by_cases hp:∃l,ms= .dH l;obtain⟨l,rfl⟩:=hp;exact h.Y s y b f u m d o;exact h.ajV s y b f u m (λ l e=>hp ⟨l,e⟩) d o|fD=>exact absurd b E|eA=>rw[b]at a;have⟨C,e⟩:=a;cases e|eh x own A=>rw[b]at a;have⟨_,C,e⟩:=a;cases e|lN=>rw[b]at a;have⟨r',e⟩:=a;cases e;exact h.H s y b f u.2 m d o|ln=>rw[b]at a;cases a|lF=>rw[b]at a;cases a|dg=>rw[b]at a;cases a|dA=>rw[b]at a;cases a|dt=>rw[b]at a;cases a|cd=>rw[b]at a;cases a
 subst e;have v:=h.u;rw[B]at v;cases fs with
 |dF k=>have⟨_,r',e⟩:=v;cases e;cases F:T.d[k]? with|none=>exact h.ajT s f u m F d o|some x=>
   by_cases hp:∃j,ws j= .eA;have⟨j,hp⟩:=hp;have y:j<3:=hG λ D=>by rw[h.a.d.c j D]at hp;cases hp
   exact h.W s f u m F y hp d o;exact h.ajN s f u m F (λ j e=>hp ⟨j,e⟩) d o
 |fG=>have⟨r',e⟩:=v;cases e;exact h.J s f u m d o|cg=>exact absurd rfl E|ff k=>have⟨C,x,K,_,e,_⟩:=v;cases e|dZ=>have⟨L,e,_⟩:=v;cases e|ir=>cases v|lD c=>cases v|iH=>cases v|eE=>cases v|kI=>cases v|jC=>cases v|dD=>cases v
theorem aP.X(s:T.g)(h:aP T S n N0 n0 w0 ms ws fs p ρ q wk gs t w){i g}(m:gs[i]?=some g){J Stop}(z:ρ i= .cF J Stop)(D:g.status= .running)(b:Stop (ej t i) g)(d)(o):dO T S n N0 n0 w0 i d o gs t w (bW T.d.length ms ws fs):=by
 have fin:gM (ej t i) g->False:=λ e=>by rw[e.1]at D;cases D
 rcases h.who m with e| ⟨h0,E⟩| ⟨j,y,e,B⟩| ⟨e,B⟩;subst e;have v:=h.r;rw[z]at v;cases ms with|iN j=>have⟨_,e⟩:=v;cases e;exact h.ajY s m b d o|lI=>cases v;exact h.U s m b d o|go j=>have⟨_,e⟩:=v;cases e;exact h.aj8 s m b d o|mW=>cases v;exact h.aj5 s m b d o|eD l=>have⟨r,e⟩:=v;cases e|eF l=>have⟨r,e⟩:=v;cases e|dH l=>have⟨A,K,e⟩:=v;cases e
 have:=h.k i h0 E;rw[z]at this;cases this;exact(fin b).elim;subst e;have a:=h.f j y;rw[z]at a;cases f:ws j with
 |ln=>rw[f]at a;cases a;exact h.aj0 s y f m b d o|lF=>rw[f]at a;cases a;exact h.aj6 s y f m b d o|dg=>rw[f]at a;cases a;exact h.ajW s y f m b d o|dA=>rw[f]at a;cases a;exact h.L s y f m b d o|dt=>rw[f]at a;cases a;by_cases C:fs= .dZ;subst C;exact h.akc s y f m b d o;exact h.aj3 s y f C m b d o|cd=>rw[f]at a;cases a;exact(fin b).elim|fD=>exact absurd f B|eC=>rw[f]at a;have⟨r,e⟩:=a;cases e|lN=>rw[f]at a;have⟨r,e⟩:=a;cases e|iz x=>rw[f]at a;have⟨_,r,e⟩:=a;cases e|eA=>rw[f]at a;have⟨A,e⟩:=a;cases e|eh x own F=>rw[f]at a;have⟨_,A,e⟩:=a;cases e
 subst e;have u:=h.u;rw[z]at u;cases fs with|ir=>cases u;exact h.V s m b d o|lD c=>cases u;exact h.ajZ s m b d o|iH=>cases u;exact h.ajR s m b d o|eE=>cases u;exact h.aj2 s m b d o|kI=>cases u;exact h.M s m b d o|jC=>cases u;exact h.aj4 s m b d o|dD=>cases u;exact(fin b).elim|cg=>exact absurd rfl B|dF k=>have⟨_,r,e⟩:=u;cases e|fG=>have⟨r,e⟩:=u;cases e|ff k=>have⟨A,x,K,_,e,_⟩:=u;cases e|dZ=>have⟨G,e,_⟩:=u;cases e
theorem acn(h:ib T ms ws fs w):T.J w:=by cases fs with|iH=>rcases h with⟨k,_⟩| ⟨_,j,_,_,⟨k,_⟩| ⟨k,_⟩| ⟨k,_⟩⟩<;>exact⟨_,_,k⟩|eE=>rcases h with⟨k,_⟩| ⟨_,j,_,_,⟨k,_⟩| ⟨k,_⟩| ⟨k,_⟩⟩<;>exact⟨_,_,k⟩|dZ=>rcases h with⟨k,_⟩| ⟨_,j,_,_,⟨k,_⟩| ⟨k,_⟩⟩<;>exact⟨_,_,k⟩|_=>exact⟨_,_,h.1⟩
theorem aP.akb(h:aP T S n N0 n0 w0 ms ws fs p ρ q wk gs t w){i g}(z:gs[i]?=some g){J Stop}(s:ρ i= .cF J Stop)(d):J (w.at d):=by
 have b:T.J (w.at d):=acn (w:=w.at d) h.a.o;rcases h.who z with e| ⟨h0,y⟩| ⟨j,A,e,v⟩| ⟨e,v⟩;subst e;have o:=h.r;rw[s]at o;cases ms with|iN j=>have⟨_,e⟩:=o;cases e;exact b|lI=>cases o;exact b|go j=>have⟨_,e⟩:=o;cases e;exact b|mW=>cases o;exact b|eD l=>have⟨r,e⟩:=o;cases e|eF l=>have⟨r,e⟩:=o;cases e|dH l=>have⟨u,K,e⟩:=o;cases e
 have:=h.k i h0 y;rw[s]at this;cases this;exact trivial;subst e;have a:=h.f j A;rw[s]at a;cases m:ws j with|ln=>rw[m]at a;cases a;exact b|lF=>rw[m]at a;cases a;exact b|dg=>rw[m]at a;cases a;exact b|dA=>rw[m]at a;cases a;exact b|dt=>rw[m]at a;cases a;exact b|cd=>rw[m]at a;cases a;exact trivial|fD=>exact absurd m v|eC=>rw[m]at a;have⟨r,e⟩:=a;cases e|lN=>rw[m]at a;have⟨r,e⟩:=a;cases e|iz x=>rw[m]at a;have⟨_,r,e⟩:=a;cases e|eA=>rw[m]at a;have⟨u,e⟩:=a;cases e|eh x own B=>rw[m]at a;have⟨_,u,e⟩:=a;cases e
 subst e;have f:=h.u;rw[s]at f;cases fs with|ir=>cases f;exact b|lD c=>cases f;exact b|iH=>cases f;exact b|eE=>cases f;exact b|kI=>cases f;exact b|jC=>cases f;exact b|dD=>cases f;exact trivial|cg=>exact absurd rfl v|dF k=>have⟨_,r,e⟩:=f;cases e|fG=>have⟨r,e⟩:=f;cases e|ff k=>have⟨u,x,K,_,e,_⟩:=f;cases e|dZ=>have⟨C,e,_⟩:=f;cases e
theorem aP.aka(A:T.g)(h:aP T S n N0 n0 w0 ms ws fs p ρ q wk gs t w){i g}(u:gs[i]?=some g)(y:g.status= .running)(H:∀l,ms= .eF l->i=0->¬T.l l (p 0) g w)(d)(z):Xq T S n N0 n0 w0 i d z ms ws fs ρ q wk gs t w:=by have o:=h.c.a i g u;cases m:ρ i with
 |cC Stop r=>rw[m]at o;cases r with
  |eM=>exact .A5 (h.N A u m o.1 (o.2 w (.c _ _)) H d z)|mk f=>
   obtain b| ⟨_,b⟩:=o.2
   exact .A5 (h.N A u m o.1 (b w (.c _ _)) H d z);have⟨C,w',ops,p',B,D⟩:=h.ajX A u m y d z b;exact .KN Stop f _ C w' ops p' m B D
 |cF J Stop=>rw[m]at o;cases F:q i with
  |zero=>rw[F]at o;exact .A5 (h.X A u m y o.2 d z)|succ k=>
   rw[F]at o;obtain b| ⟨_,g',es,v,b,L,Q⟩:=o.2
   exact .A5 (h.X A u m y b d z);have⟨C,ops,B,D⟩:=h.aj1 A u m F y d z v b (h.akb u m d) L Q;exact .Mj J Stop k C ops _ m F B D
 |ic E R W=>rw[m]at o;rw[o.1.1]at y;cases y|kD I=>
  rw[m]at o;have N:i=n+3/\fs= .dZ/\T.m 1 I:=by
   rcases h.who u with e| ⟨h0,B⟩| ⟨j,O,e,G⟩| ⟨e,G⟩
   subst e;have v:=h.r;rw[m]at v;cases ms with
   |iN j=>cases v.2
   |go j=>cases v.2
   |lI=>cases v
   |mW=>cases v
   |eD l=>have⟨r,e⟩:=v;cases e
   |eF l=>have⟨r,e⟩:=v;cases e
   |dH l=>have⟨E,K,e⟩:=v;cases e
   have:=h.k i h0 B;rw[m]at this;cases this;subst e;have a:=h.f j O;rw[m]at a;cases b:ws j with
   |fD=>exact absurd b G
   |eC=>rw[b]at a;have⟨r,e⟩:=a;cases e
   |lN=>rw[b]at a;have⟨r,e⟩:=a;cases e
   |iz x=>rw[b]at a;have⟨_,r,e⟩:=a;cases e
   |eA=>rw[b]at a;have⟨E,e⟩:=a;cases e
   |eh x own U=>rw[b]at a;have⟨_,E,e⟩:=a;cases e
   |ln=>rw[b]at a;cases a
   |lF=>rw[b]at a;cases a
   |dg=>rw[b]at a;cases a
   |dA=>rw[b]at a;cases a
   |dt=>rw[b]at a;cases a
   |cd=>rw[b]at a;cases a
   subst e;have s:=h.u;rw[m]at s;cases fs with
   |dZ=>have⟨V,e,hp⟩:=s;cases e;exact⟨rfl,rfl,hp⟩
   |cg=>exact absurd rfl G
   |dF k=>have⟨_,r,e⟩:=s;cases e
   |fG=>have⟨r,e⟩:=s;cases e
   |ff k=>have⟨E,x,K,_,e,_⟩:=s;cases e
   |ir=>cases s
   |lD c=>cases s
   |iH=>cases s
   |eE=>cases s
   |kI=>cases s
   |jC=>cases s
   |dD=>cases s
  obtain⟨rfl,rfl,hp⟩:=N;have M:g=I/\wk (n+3)=1:=o.2.2.resolve_left λ e=>by rw[e]at y;cases y
  have⟨rfl,P⟩:=M;have⟨C,B,D⟩:=h.Z A u (by rw[o.1.2];exact hp) d z;exact .On g C _ _ ⟨_,m⟩ P B D
end
def Fa(m:Nat)(a b:Nat->dI):=∃i,i<m/\dI.a (a i) (b i)/\∀j,j≠i->a j=b j
theorem L5:∀m R,Acc (Fa m) R
 |0,R=> ⟨_,λ _⟨i,a,_⟩=>by omega⟩|m+1,R=>by
  generalize d:R m=r
  induction r using dI.b.induction generalizing R with|_ r f=>
   have inner:Acc (Fa m) R:=L5 m R
   induction inner with|intro R _ inner=>constructor;rintro c⟨i,a,b,heq⟩;by_cases e:i=m;grind;exact inner _ ⟨i,by omega,b,heq⟩ (by grind)
section
variable{P:ef}{T:dY P}{S:Nat->Prop}{n N0 n0:Nat}{w0:dr}{ms ms':bD}{ws ws':Nat->bm}{fs fs':bJ}{p p':Nat->ai}{ρ ρ':Nat->dm}{q wk q':Nat->Nat}{gs:Array b2}{t u:fl}{w w':dr}
theorem kN{Y i d k b pp g J Stop}(h:eJ P Y i d pp b k g w (.cF J Stop))(a:∀d g,Stop d g->g.status= .running):g.status= .running:=by have⟨_,h⟩:=h;cases b with|zero=>exact a d g h|succ n=>exact h.elim (a d g) And.left
theorem aP.akd(m:T.g)(h:aP T S n N0 n0 w0 ms ws fs p ρ q wk gs t w):∃(i:Nat)(g:b2),gs[i]?=some g/\g.status= .running:=by have O:=h.a.e;have B:=h.a.d;have⟨z,A⟩:=h.y (l:=0) (by omega);have o:=h.c.a 0 z A;have C:=h.r;cases ms with|iN j=>have⟨_,e⟩:=C;rw[e]at o;exact⟨0,z,A,kN o λ d g x=>(m.M _ d g x).2.1⟩|lI=>rw[show ρ 0=_ from C]at o;exact⟨0,z,A,kN o λ d g x=>(m.A d g x).2.1⟩|go j=>have⟨_,e⟩:=C;rw[e]at o;exact⟨0,z,A,kN o λ d g x=>(m.Q _ d g x).2.1⟩|mW=>rw[show ρ 0=_ from C]at o;exact⟨0,z,A,kN o λ d g x=>(m.K d g x).2.1⟩|eD l=>have⟨r,e⟩:=C;rw[e]at o;exact⟨0,z,A,o.1.1⟩|eF l=>have⟨r,e⟩:=C;rw[e]at o;exact⟨0,z,A,o.1.1⟩|dH l=>
 have J:fs≠ .cg:=λ e=>by have:=B.a.1 e;simp[bD.a]at this
 have G:∀j,j<3->ws j≠ .fD:=λ j u e=>by have:=(B.d j u).1 e;simp[bD.a]at this;omega
 have⟨H,v⟩:=h.ajO J;have b:=h.c.a _ H v;have y:=h.u;have D:∀j,j<3->(∀l,ws j≠ .eA)->ws j≠ .cd->∃(i:Nat)(g:b2),gs[i]?=some g/\g.status= .running:=λ j u hp N=>by have⟨g,E⟩:=h.D u (G j u);have a:=h.c.a _ g E;have f:=h.f j u;refine⟨n+j,g,E,?_⟩;cases s:ws j with
  |fD=>exact absurd s (G j u)|eC=>rw[s]at f;have⟨r,e⟩:=f;rw[e]at a;exact a.1.1|lN=>rw[s]at f;have⟨r,e⟩:=f;rw[e]at a;exact a.1.1|iz x=>rw[s]at f;have⟨_,r,e⟩:=f;rw[e]at a;exact a.1.1|eA=>exact absurd s (hp 0)|eh x own K=>exact absurd s (B.h l j x own K rfl)|ln=>rw[s]at f;rw[show ρ (n+j)=_ from f]at a;exact kN a λ d g x=>(m.L d g x).2.1|lF=>rw[s]at f;rw[show ρ (n+j)=_ from f]at a;exact kN a λ d g x=>(m.H d g x).2.1|dg=>rw[s]at f;rw[show ρ (n+j)=_ from f]at a;exact kN a λ d g x=>(m.B d g x).2.1|dA=>rw[s]at f;rw[show ρ (n+j)=_ from f]at a;exact kN a λ d g x=>(m.t d g x).2.1|dt=>rw[s]at f;rw[show ρ (n+j)=_ from f]at a;exact kN a λ d g x=>(m.y d g x).2.1|cd=>trivial
 cases fs with
 |cg=>trivial|dF k=>have⟨_,r,e⟩:=y;rw[e]at b;exact⟨_,_,v,b.1.1⟩|fG=>have⟨r,e⟩:=y;rw[e]at b;exact⟨_,_,v,b.1.1⟩|dD=>exact absurd rfl (B.n l rfl)|ir=>rw[show ρ (n+3)=_ from y]at b;exact⟨_,_,v,kN b λ d g x=>(m.E d g x).2.1⟩|lD c=>rw[show ρ (n+3)=_ from y]at b;exact⟨_,_,v,kN b λ d g x=>(m.N c d g x).2.1⟩|iH=>rw[show ρ (n+3)=_ from y]at b;exact⟨_,_,v,kN b λ d g x=>(m.z d g x).2.1⟩|eE=>rw[show ρ (n+3)=_ from y]at b;exact⟨_,_,v,kN b λ d g x=>(m.u d g x).2.1⟩|kI=>rw[show ρ (n+3)=_ from y]at b;exact⟨_,_,v,kN b λ d g x=>(m.q d g x).2.1⟩|jC=>rw[show ρ (n+3)=_ from y]at b;exact⟨_,_,v,kN b λ d g x=>(m.I d g x).2.1⟩|ff k=>refine D 0 (by omega) (λ _=>B.g k 0 rfl) λ e=>?_;have:=B.b 0 (by rw[e];rfl);trivial|dZ=>
  have F:∀j,ws j≠ .eA:=B.f rfl;obtain⟨_,M,P⟩| ⟨_,j,u,_,L⟩:=h.a.o
  have:∃j,j<3/\(ws j).b=false:=by
   grind[absurd,bz,bD.c]
  obtain⟨j,u,I⟩:=this;exact D j u (λ _=>F j) λ e=>by rw[e]at I;trivial
  refine D j u (λ _=>F j) λ e=>?_
  grind
def qk(T:dY P)(S:Nat->Prop)(n N0 n0:Nat)(w0:dr)(gs:Array b2)(w:dr)(sl:Option (Nat×Nat))(t:fl):=∃N a w' c t' l ws' fs' p' ρ' q' wk' b,runNT P N (fv gs w sl) t=(.next (fv a w' c),t')/\aP T S n N0 n0 w0 (.eF l) ws' fs' p' ρ' q' wk' a t' w'/\a[0]?=some b/\T.l l (p' 0) b w'
theorem qk.a{a w1 sl b}{ops:fl}(h:stepT P (fv gs w sl)=(.next (fv a w1 b),ops))(d:qk T S n N0 n0 w0 a w1 b (t++ops)):qk T S n N0 n0 w0 gs w sl t:=by have⟨N,g,w',e,t',l,ws',fs',p',ρ',q',wk',f,i,c⟩:=d;exact⟨N+1,_,_,e,_,l,_,_,_,_,_,_,_,by grind[runNT],c⟩
theorem Rw{ρ i j}{r:dm}(h:j≠i):(ei ρ i r j).a=(ρ j).a:=by rw[dk _ r h]
theorem aP.run(A:T.g):∀F ms ws fs p ρ q wk gs t w sl,bW T.d.length ms ws fs=F->aP T S n N0 n0 w0 ms ws fs p ρ q wk gs t w->qk T S n N0 n0 w0 gs w sl t:=by
 intro F
 induction F using kg with|_ F N=>
  have W:∀{ms:bD}{ws:Nat->bm}{fs:bJ}{gs:Array b2}{t:fl}{w:dr}{sl c:Option (Nat×Nat)}{i d:Nat},bW T.d.length ms ws fs=F->stepT P (fv gs w sl)=lb P (fv gs (w.at d) c) i->dO T S n N0 n0 w0 i d c gs t w (bW T.d.length ms ws fs)->qk T S n N0 n0 w0 gs w sl t:=λ a o⟨b,w',ops,ms',ws',fs',p',ρ',q',wk',D,E,G⟩=>qk.a (o.trans D) (N _ (a▸G) ms' ws' fs' p' ρ' q' wk' b _ w' _ rfl E);intro ms ws fs;have main:∀R,Acc (Fa (n+ms.a)) R->∀Q K p ρ q wk gs t w sl,(∀i,(ρ i).a=R i)->np (n+ms.a) q=Q->np (n+ms.a) wk=K->bW T.d.length ms ws fs=F->aP T S n N0 n0 w0 ms ws fs p ρ q wk gs t w->qk T S n N0 n0 w0 gs w sl t:=by
   intro R e
   induction e with|intro R _ V=>
    intro Q
    induction Q using kg with|_ Q U=>
     intro K
     induction K using kg with|_ K O=>
      intro p ρ q wk gs t w sl e H X a h;have⟨i,g,d,c,y,I,o⟩:=h.c.s (h.akd A) sl;have z:i<n+ms.a:=h.e▸(ea.1 y).1;by_cases B:∃l x,ms= .eF l/\gs[0]?=some x/\T.l l (p 0) x w;obtain⟨l,x,s,u,v⟩:=B;exact⟨0,_,w,_,t,l,_,_,p,_,q,_,_,rfl,s▸h,u,v⟩;have L:∀l,ms= .eF l->i=0->¬T.l l (p 0) g w:=λ l s u v=>B ⟨l,g,s,u▸y,v⟩;cases h.aka A y I L d c with
      |A5 aa=>grind
      |KN Stop f w1 b w' ops p' r m hp=>
       refine qk.a (o.trans m) (V (λ j=>(ei ρ i (.cC Stop (f w1)) j).a) ⟨i,z,?_,λ j C=>?_⟩ _ _ p' _ q (λ _=>1) b _ w' c (λ _=>rfl) rfl rfl a hp);simp only[df];rw[<-e i,r];exact .mk f _
       grind[Rw]
      |Mj J Stop k b ops p' r Z m hp=>
       refine qk.a (o.trans m) (U _ ?_ _ _ _ _ _ _ _ _ _ e rfl rfl a hp);have:np (n+ms.a) (ei q i k)+ (k+1)=np (n+ms.a) q+k:=by
        have:=sumTo_upd q k id z;simp_all
       omega
      |On g' b ops p' r Y m hp=>
       obtain⟨ab,M⟩:=r;refine qk.a (o.trans m) (O (np (n+ms.a) (ei wk i 0)) ?_ p' _ q (ei wk i 0) b _ _ c (λ j=>?_) H rfl a hp);have:np (n+ms.a) (ei wk i 0)+1=np (n+ms.a) wk:=by
        have:=sumTo_upd wk 0 id z;simp_all
       omega;by_cases C:j=i;subst C;rw[df,<-e j,M];rfl
       grind[Rw]
  intro p ρ q wk gs t w sl a h;exact main _ (L5 _ _) _ _ p _ q _ _ t w _ (λ _=>rfl) rfl rfl a h
end
section
variable{P:ef}{T:dY P}{S:Nat->Prop}{n N0 n0:Nat}{w0:dr}{gs:Array b2}{t:fl}{w:dr}
variable {q:Nat->Nat} {g:b2} {p0:ai}
theorem ag9{k d}(h:QuitsD P k d g):g.status= .running\/g.status= .finished:=h.status
structure Cx(T:dY P)(S:Nat->Prop)(w0:dr)(p0:ai)(gs:Array b2)(q:Nat->Nat)(t:fl)(w:dr):Prop where
 y:∃g,gs[0]?=some g/\bM P true T.J 0 g (T.n 0)
 r:Leavers P t gs q
 h:Past (eG S) w.heap.size t
 f:gI w0.heap.size p0 t
 p:∀b,p0.b b->p0.a b
 m:∀b,p0.a b->b<w.heap.size/\¬S b
 l:∀b,S b->b<w.heap.size
 d:w0.heap.size<=T.a/\w0.heap.size<=T.c/\w0.heap.size<=T.b
 c:¬p0.a T.a/\¬p0.a T.c/\¬p0.a T.b
 i:T.c≠T.b/\T.a≠T.c/\T.a≠T.b
 s:∀a,T.z a->p0.a a
 z:∀a,p0.b a->T.z a\/w0.heap.size<=a
 u:ba T.a w 0 0
 k:w.heap[T.c]?=some (.chan 0 #[] false 0 0 false)
 j:w.heap[T.b]?=some (.chan 0 #[] false 0 0 false)
 o:T.h w
 e:mq w0 w
theorem Cx.x(h:Cx T S w0 p0 gs q t w):∃(p:Nat->ai)(ρ:Nat->dm)(q' O:Nat->Nat),aP T (λ b=>S b\/b=T.a) gs.size w0.heap.size t.size w0 (.iN 0) (λ _=> .fD) .cg p ρ q' O gs t w:=by
 obtain⟨g,z,C,k,E⟩:=h.y
 let s:ai:= ⟨p0.a,λ b=>p0.b b/\¬T.z b⟩
 let p:Nat->ai:=λ i=>if i=0 then s else⟨λ _=>False,λ _=>False⟩
 have X:p 0=s:=if_pos rfl;have W:∀i,i≠0->p i= ⟨λ _=>False,λ _=>False⟩:=λ i c=>if_neg c;have k0:=bP.J h.h s (λ b f=>h.p b f.1) h.m h.l;have v:bE gs.size (λ _=>bm.fD) bJ.cg=λ i=>i=0:=by
  funext i;apply propext;constructor
  ·rintro(e| ⟨_,_,_,e⟩| ⟨_,e⟩)
   all_goals trivial
  ·exact .inl
 have L:∀i,¬(p i).a T.a/\¬(p i).a T.c/\¬(p i).a T.b:=λ i=>by
  by_cases c:i=0
  subst c;exact h.c
  grind
 have lt:∀{a:Nat}{o:Obj},w.heap[a]?=some o->a<w.heap.size:=λ e=>(ea.1 e).1;obtain⟨ty,u⟩:=h.u;have k1:bP (λ b=>S b\/b=T.a) (λ b=>b=T.a\/b=T.c\/b=T.b) t.size (λ i=>i=0) (λ _=>False) p t w:=by
  refine bP.I k0 (λ b f=> .inr ?_) (λ b f=> .inl f) (λ b(f:S b\/b=T.a)=>f.imp id λ(e:b=T.a)=> ⟨by grind,λ i=>by simp_all⟩);rcases f with rfl|rfl|rfl
  exact⟨lt u,λ i=>(L i).1,h.f.d _ h.d.1 h.c.1⟩;exact⟨lt h.k,by simp_all,h.f.d _ h.d.2.1 h.c.2.1⟩;exact⟨lt h.j,by simp_all,h.f.d _ h.d.2.2 h.c.2.2⟩
 have J:bP (λ b=>S b\/b=T.a) (λ b=>b=T.a\/b=T.c\/b=T.b) t.size (bE gs.size (λ _=>bm.fD) bJ.cg) (de T (.iN 0) .cg) p t w:=by
  rw[v];exact k1.G (i:=0) rfl (by grind)
 let ρ:Nat->dm:=λ i=>if i=0 then .cF T.J (T.n 0)else .cF JT gM
 have P:ρ 0= .cF T.J (T.n 0):=if_pos rfl;have B:∀i,i≠0->ρ i= .cF JT gM:=λ i c=>if_neg c
 let q':Nat->Nat:=λ i=>if i=0 then k else q i
 have N:q' 0=k:=if_pos rfl;have M:∀i,i≠0->q' i=q i:=λ i c=>if_neg c;have H:0<gs.size:=(ea.1 z).1;refine⟨p,ρ,q',λ _=>1,⟨J,λ i x m=>?_,h.r.above,λ i Q r e=>?_⟩,?_,by rfl,.inr rfl,by trivial,λ j D=>trivial,trivial,λ i h0 _=>B i (by omega),λ l R K e=>by cases e⟩
 by_cases c:i=0;subst c;rw[z]at m;cases m;rw[P,N,h.h.hears];exact⟨.inl C,E⟩;have I:=h.r.old i x (by omega) m;rw[B i c,M i c];have f:(i==0)=false:=by grind
 refine⟨ag9 I,?_⟩
 grind[PT]
 grind
 refine⟨H,λ i d=>?_,h.o,h.i,?_,?_,⟨0,h.k⟩,⟨0,h.j⟩,λ j x own V e=>(by cases e),λ op G=>h.f.f (bg T.a) h.d.1 op G,λ k x m U F=>?_,h.e.d,λ i a d=>?_,h.d,λ a d=>?_,⟨h.e.f,h.e.c,h.e.e,h.e.b,rfl⟩⟩;rw[v]at d;have d:i=0:=d;subst d;exact λ a A=> ⟨h.s a A,λ y=>y.2 A⟩;exact⟨by grind,by grind,by grind,by grind,λ _ e=>(by cases e),λ j D=>(by simp[bD.a]),(by simp[bD.a]),λ _ _=>rfl,by rfl,by grind⟩;refine⟨?_,λ _=>by simp⟩;have:bz (.iN 0) (λ _=>bm.fD)=0:=rfl;exact⟨_,u⟩;rw[if_neg (by trivial)];exact absurd (show iX _=some _ by rw[F];rfl) (h.f.d _ h.d.1 h.c.1 k x m);by_cases c:i=0;subst c;exact(h.z a d.1).resolve_left d.2
 grind
 have n:=h.s a d;refine⟨(h.m a n).1,λ e=>?_,λ e=>?_,λ e=>?_⟩;exact h.c.1 (e▸n);exact h.c.2.1 (e▸n);exact h.c.2.2 (e▸n)
structure Jd(T:dY P)(S:Nat->Prop)(w0:dr)(p:ai)(gs:Array b2)(q:Nat->Nat)(t:fl)(w:dr)(l:List en)(g:b2):Prop where
 o:gs[0]?=some g
 i:T.l l p g w
 f:T.d.Perm l
 m:Leavers P t gs q
 d:Past (eG S) w.heap.size t
 e:∀b,p.a b->b<w.heap.size/\¬S b
 h:∀b,S b->b<w.heap.size
 j:∀a,p.b a->w0.heap.size<=a
 r:∀a,p.b a->p.a a
 s:T.p p
 k:T.h w
 c:mq w0 w
theorem aP.ake{l:List en}{m:Nat->bm}{fs:bJ}{p:Nat->ai}{ρ:Nat->dm}{F:Nat->Nat}(h:aP T S n N0 n0 w0 (.eF l) m fs p ρ q F gs t w)(s:gs[0]?=some g)(C:T.l l (p 0) g w):Jd T S w0 (p 0) gs q t w l g:=by
 have z:=h.a.d;have D:fs= .dD:=z.i l rfl;subst D;obtain⟨J,o⟩:ba T.a w 0 0/\∀l,l<3->m l= .cd:=h.a.o;have H:=h.a.e;have k:=h.a.m.2.2.2.2;have B:∀i,bE n m .dD i->i=0:=λ i c=>by
  rcases c with e| ⟨j,f,_,e⟩| ⟨_,e⟩
  exact e;rw[o j f]at e;cases e
  trivial
 have v:=h.c.a 0 g s;obtain⟨r,E⟩:=h.r;rw[E]at v;refine⟨s,C,?_,⟨λ i x G y=>?_,h.c.e⟩,h.c.k.L B (λ a=>id) v.1.2,λ b d=> ⟨(h.c.k.c 0 b d).1,(h.c.k.c 0 b d).2.1⟩,λ b d=>h.c.k.d b (.inl d),λ a c=>k▸h.a.f 0 a c,h.c.k.e 0,h.a.l 0 (.inl rfl),h.a.y,⟨k▸h.a.m.2.2.2.1,λ a c=>h.a.E a (k▸c),h.a.m.1,h.a.m.2.1,h.a.m.2.2.1⟩⟩
 have:=z.e
 grind[bJ.e,bD.f,bm.a]
 have d:(i==0)=false:=by grind
 have u:=h.c.a i x y;have:ρ i= .cF JT gM:=by
  rcases h.who y with e| ⟨h0,A⟩| ⟨j,f,e,_⟩| ⟨e,_⟩;omega;exact h.k i h0 A;subst e;have:=h.f j f;rw[o j f]at this;trivial;subst e;exact h.u
 rw[this]at u;have I:=u.2
 grind[OP]
theorem dY.I(d:T.g)(h:Cx T S w0 p0 gs q t w)(sl):∃N a w' c t' q' p' l g,runNT P N (fv gs w sl) t=(.next (fv a w' c),t')/\Jd T (λ b=>S b\/b=T.a) w0 p' a q' t' w' l g:=by have⟨p,ρ,n,o,k⟩:=h.x;have⟨N,a,w',c,t',l,ws',fs',p',ρ',q',wk',m,e,f,i,j⟩:=aP.run d _ _ _ _ _ _ _ _ _ _ _ sl rfl k;exact⟨N,_,_,_,_,_,_,l,_,e,f.ake i j⟩
end
def vf(P:ef)(main:Bool)(g:b2):Array Event:=
 match eg P main g lT with
 | .go _ _ es=>es
 |_=> #[]
def jo(P:ef)(main:Bool):Nat->b2->dr->List GStep
 |0,_,_=> []
 |k+1,g,w=>eg P main g w::jo P main k (lO P main g) w
def jl(P:ef)(main:Bool):Nat->b2->dr->List GStep
 |0,_,_=> []
 |k+1,g,w=> .go (lO P main g) w (vf P main g)::jl P main k (lO P main g) w
def Jg:GoStatus->Bool| .running=>true|_=>false
def gJ(P:ef)(main:Bool):Nat->b2->Bool
 |0,g=>Jg g.status
 |k+1,g=>Jg g.status&& (vf P main g).toList.all hF&&gJ P main k (lO P main g)
def tI(P:ef)(main:Bool):Nat->Nat->b2->Nat
 |0,d,_=>d
 |k+1,d,g=>tI P main k (eL d (vf P main g)) (lO P main g)
theorem AM{s}(h:Jg s=true):s= .running:=by cases s<;>first|rfl|cases h
theorem qI{P main}:∀{k:Nat}{g:b2},gJ P main k g=true->g.status= .running|0,g,h=>AM h|k+1,g,h=>by grind[gJ,AM]
def gY:pc->pc| .seq a _=>a|c=>c
def bX:pc->pc| .seq _ b=>b|c=>c
def ek:pc->Array nv| .region _ ops _=>ops|_=> #[]
def Af(P:ef)(f:Nat):Code:=((P.funcs[f]?).bind (·.body)).getD .skip
def GG(fn:Nat)(sl:List en)(todo:List Item)(a:List Deferred)(cs:List ht):Goroutine:=
 {frame:={fn,tmps:= ⟨sl⟩,todo,defers:=a,mode:= .run,kind:= .normal},callers:=cs,status:= .running,dying:=none}
def aK(g:b2)(v:en):Goroutine:={frame:=g.frame.finish v,callers:=g.callers,status:= .running,dying:=g.dying}
def Ch(P:ef)(main:Bool)(k d d':Nat)(g:b2):=∀w,(jo P main k g w,gJ P main k g,tI P main k d g)=(jl P main k g w,true,d')
def fP(P:ef)(main:Bool)(k d d':Nat)(g g':b2):=∀w,(jo P main k g w,gJ P main k g,tI P main k d g,dR P main k g)=(jl P main k g w,true,d',g')
section
variable{P:ef}{main:Bool}{k d d':Nat}{g g':b2}
theorem Ch.t(h:Ch P main k d d' g)(w):jo P main k g w=jl P main k g w:=congrArg (·.1) (h w)
theorem Ch.m(h:Ch P main k d d' g):gJ P main k g=true:=congrArg (·.2.1) (h lT)
theorem Ch.c(h:Ch P main k d d' g):tI P main k d g=d':=congrArg (·.2.2) (h lT)
theorem fP.c(h:fP P main k d d' g g'):Ch P main k d d' g:=λ w=>congrArg (λ x=>(x.1,x.2.1,x.2.2.1)) (h w)
theorem fP.m(h:fP P main k d d' g g'):gJ P main k g=true:=h.c.m
theorem fP.e(h:fP P main k d d' g g'):dR P main k g=g':=congrArg (·.2.2.2) (h lT)
end
section
variable {J:dr->Prop} {f:fb} {az:Array ml} {fn:Func} {e:Array en->Sem en} {vs:Array en}
theorem A6{P:ef}{main:Bool}{Stop:Nat->b2->Prop}:∀{k n d:Nat}{g:b2},(∀w,jo P main k g w=jl P main k g w)->gJ P main k g=true->kE P main J Stop n (tI P main k d g) (dR P main k g)->kE P main J Stop (k+n) d g
 |0,n,d,g,_,_,h=>by rw[Nat.zero_add];exact h
 |k+1,n,d,g,f,a,b=>by
  have c:∀w,eg P main g w= .go (lO P main g) w (vf P main g):=λ w=>by
   simp_all[jo,jl,List.cons.injEq]
  simp only[gJ,Bool.and_eq_true]at a;rw[Nat.add_right_comm];exact .inr ⟨AM a.1.1,_,_,λ e i=>by
   grind,λ w _=>c w,.inl (qI a.2),A6 (λ w=>by
   simp_all[jo,jl,List.cons.injEq]) a.2 b⟩
theorem Uv{P main Stop n d g g'}(a:g.status= .running)(c:∀w,J w->eg P main g w= .go g' w #[])(b:g'.status= .running)(h:kE P main J Stop n d g'):kE P main J Stop (n+1) d g:= .inr ⟨a,_,_,by grind,c,.inl b,by trivial⟩
def oy(g:b2):=match g.frame.todo with| .inRegion ops _::_=>ops|_=> #[]
def hI(g:b2):=match g.frame.todo with| .inRegion _ (i::_)::_=>i|_=>0
def wJ(g:b2):=match g.frame.todo with| .inRegion _ (_::l)::_=>l|_=> []
def hK(g:b2):=match g.frame.todo with|_::k=>k|_=> []
def bj(g:b2):Oper:=((oy g)[hI g]?).getD default
def Sd:Op->Array ml| .call c=>c.args|_=> #[]
def Ia:Op->Array nB| .call c=>c.argTypes|_=> #[]
def bY(g:b2):Go.Act:= ⟨g.frame.tmps,g.frame.defers⟩
def It:CallKind->Bool| .early=>false|_=>true
theorem BR{k}(h:It k=true):k≠ .early:=by rintro rfl;cases h
structure dh(g:b2)(o:nv):Prop where
 m:g.frame={fn:=g.frame.fn,tmps:=g.frame.tmps,todo:= .inRegion (oy g) (hI g::wJ g)::hK g,defers:=g.frame.defers,mode:= .run,kind:=g.frame.kind}
 k:(oy g)[hI g]?=some o
 a:kp o (yielded (oy g) g.frame.tmps)=true
 h:It g.frame.kind=true
 i:g.dying=none
section
variable{P:ef}{main:Bool}{g:b2}{o:nv}{w w':dr}{v:en}
theorem dh.n(h:dh g o):g.frame=g.frame.at (bY g) (.inRegion (oy g) (hI g::wJ g)::hK g):=h.m
theorem dh.c(h:dh g o):eg P main g w=eg P main (G (g.frame.at (bY g) (.inRegion (oy g) (hI g::wJ g)::hK g)) g.callers) w:=nz (h:=G _ _) h.n rfl h.i w
theorem dh.d(h:dh g o)(v):G (g.frame.at ((bY g).put o.dst v) (.inRegion (oy g) (wJ g)::hK g)) g.callers=aK g v:=by
 have a:g.frame.finish v=g.frame.at ((bY g).put o.dst v) (.inRegion (oy g) (wJ g)::hK g):=by
  conv=>lhs;rw[h.n]
  rw[mx,h.k];rfl
 unfold aK G;rw[a,h.i]
theorem dh.b(h:dh g o)(a:(jA (bY g).eval o).run P w= .ok (.value v) w'):eg P main g w= .go (aK g v) w' (listed P g.frame.fn (bY g) o w):=by rw[h.c,stepG_value h.k h.a (BR h.h) a,h.d]
theorem dh.l(h:dh g o){b}(m:o.op= .call {callee:= .value (.func f),args:=az,argTypes:=b})(q:az.map (bY g).eval=vs)(j:P.funcs[f]?=some fn)(l:(fn.name== "runtime.NumGoroutine")=false)(c:fn.body.isNone=true)(k:hJ fn=none)(d:ih fn=some e){a}(n:(e vs).run P w= .ok v w')(i:(e vs).events P w #[⟨.mark (.extern f),false,true⟩]= #[⟨.mark (.extern f),false,true⟩]++a)(p:∀x∈a,x.sync=true/\∀g,x.loc≠ .mark (.extern g)):eg P main g w= .go (aK g v) w' a:=by subst q;rw[h.c,stepG_entry h.k h.a (BR h.h) m j l c k d n i p,h.d]
theorem dh.j(h:dh g o)(c:g.status= .running)(b:g.offers=none){d}(n:o.op= .call {callee:= .value (.func f),args:=az,argTypes:=d})(q:az.map (bY g).eval=vs)(k:P.funcs[f]?=some fn)(m:(fn.name== "runtime.NumGoroutine")=false)(i:fn.body.isNone=true)(l:hJ fn=none)(j:ih fn=some e)(p:(e vs).run P w= .halt .blocked w'):eg P main g w= .go {g with status:= .blocked} w' #[]:=by
 subst q;rw[h.c,stepG_entry_blocked h.k h.a n k m i l j p,<-h.n]
 congr 1;have⟨r,s,t,u,v⟩:=g;have a:=h.i;simp at a c b;subst a c b;rfl
theorem dh.p(h:dh g o){c b t x a u}(j:o.op= .convert c b x)(m:(bY g).eval x= .pointer (some a))(k:P.underlying c=some (.pointer t))(f:P.underlying b=some .unsafePointer)(l:(P.info? t).map (λ i=>decide (i.size=0))=some false)(e:w.cell? a=some u):eg P main g w= .go (aK g (.pointer (some a))) w #[]:=by
 have d:(jA (bY g).eval o).run P w= .ok (.value (.pointer (some a))) w:=by simp_all[jA,mA]
 rw[h.b d];simp_all[listed,jA,events_convert_to_unsafe,mA,Result.evThen,seen_none]
end
end
section
variable{P:ef}{main:Bool}{g:b2}{o:nv}{w w':dr}{v:en}{f:fb}{az:Array ml}{ats:Array nB}{fn:Func}{Wg:Nat}{st sm:Int}
variable {ad:hP} {vs:Array en} {n:Int} {k:IntKind} {e:Array en->Sem en}
theorem ox(h:ba Wg w st sm):w.cell? (bg Wg)=some (.int .u64 st):=by have⟨ty,e⟩:=h;grind[n3]
theorem Ap(h:ba Wg w st sm):w.cell? (dL Wg)=some (.int .u32 sm):=by have⟨ty,e⟩:=h;grind[n3]
theorem AG(h:ba Wg w st sm):w.frozen? (bg Wg)=false:=by have⟨ty,e⟩:=h;grind[ny]
theorem Md(h:ba Wg w st sm):w.frozen? (dL Wg)=false:=by have⟨ty,e⟩:=h;grind[ny]
structure iP(P:ef)(f:fb)(e:Array en->Sem en):Prop where
 a:∃fn,P.funcs[f]?=some fn/\(fn.name== "runtime.NumGoroutine")=false/\fn.body.isNone=true/\hJ fn=none/\ih fn=some e
structure cP(g:b2)(f:fb)(vs:Array en):Prop where
 o:∃o az ats,dh g o/\o.op= .call {callee:= .value (.func f),args:=az,argTypes:=ats}/\az.map (bY g).eval=vs
theorem cP.a(h:cP g f vs)(n:iP P f e){a}(q:(e vs).run P w= .ok v w')(p:(e vs).events P w #[⟨.mark (.extern f),false,true⟩]= #[⟨.mark (.extern f),false,true⟩]++a)(r:∀x∈a,x.sync=true/\∀g,x.loc≠ .mark (.extern g)):eg P main g w= .go (aK g v) w' a:=by have⟨o,az,ats,k,l,m⟩:=h.o;have⟨fn,b,c,d,i,j⟩:=n.a;exact k.l l m b c d i j q p r
theorem cP.p{d x}(h:cP g f #[.pointer (some ad),.int k d])(b:iP P f (pv (l7 .add) k true))(a:w.cell? ad=some (.int k x))(c:w.frozen? ad=false):eg P main g w= .go (aK g (.int k (k.wrap (x+d)))) (w.setCell ad (.int k (k.wrap (x+d)))) #[⟨.cell ad,false,true⟩,⟨.cell ad,true,true⟩]:=h.a b (run_add_entry a c) (by grind[events_add_entry]) (sync_rw _)
theorem cP.c{k ad x}(h:cP g f #[.pointer (some ad)])(a:iP P f (pk (.int k)))(b:w.cell? ad=some (.int k x)):eg P main g w= .go (aK g (.int k x)) w #[⟨.cell ad,false,true⟩]:=h.a a (by change Sem.run P (do hh _ (<-kV (.pointer _))) w=_;simp_all[hh,kV]) (by change p1 P (do hh _ (<-kV (.pointer _))) w _=_;simp_all[hh,kV,events_load]) (sync_r _)
theorem ah9(ad):∀x∈(#[⟨.cell ad,true,true⟩]:Array hD),x.sync=true/\∀g,x.loc≠ .mark (.extern g):=by simp
theorem cP.m{k:IntKind}{ad:hP}{y:Int}{u:en}(h:cP g f #[.pointer (some ad),.int k y])(c:iP P f pt)(a:w.cell? ad=some u)(b:w.frozen? ad=false):
 eg P main g w= .go (aK g (.tuple #[])) (w.setCell ad (.int k y)) #[⟨.cell ad,true,true⟩]:=
 h.a c (by
  change Sem.run P (do
   Go.store (<-kV (.pointer _)) (.int k y) _
   pure _) w=_
  simp[kV,a,b,kR P w ad (.int k y) .atomic rfl,pn]) (by
  change p1 P (do
   Go.store (<-kV (.pointer _)) (.int k y) _
   pure _) w _=_
  simp[kV,a,b,mm P w _ ad (.int k y) .atomic rfl]) (ah9 _)
theorem cP.l{x}(h:cP g f #[.pointer (some ad),.int k x,.int k n])(a:iP P f (kk (.int k)))(b:w.cell? ad=some (.int k x))(c:w.frozen? ad=false):eg P main g w= .go (aK g (.bool true)) (w.setCell ad (.int k n)) #[⟨.cell ad,false,true⟩,⟨.cell ad,true,true⟩]:=h.a a (by grind[n2,run_cas_hit_entry]) (by grind[n2,events_cas_hit_entry]) (sync_rw _)
theorem cP.d{x old}(h:cP g f #[.pointer (some ad),.int k old,.int k n])(a:iP P f (kk (.int k)))(b:w.cell? ad=some (.int k x))(d:w.frozen? ad=false)(c:¬x=old):eg P main g w= .go (aK g (.bool false)) w #[⟨.cell ad,false,true⟩]:=h.a a (by grind[n2,run_cas_miss_entry]) (by grind[n2,events_cas_miss_entry]) (sync_r _)
theorem cP.b(mk)(b:∀ad g,mk ad≠ .extern g){ad vs}(h:cP g f vs)(a:iP P f (hM mk))(c:vs[0]?=some (.pointer (some ad))):eg P main g w= .go (aK g (.tuple #[])) w #[⟨.mark (mk ad),false,true⟩]:=h.a a (by simp_all[hM,k6,p5]) (by simp_all[hM,k6]) (by grind)
theorem cP.i(h:cP g f vs)(e:iP P f fx)(c:vs[0]?=some (.pointer (some ad)))(a:w.cell? ad=some (.int .u32 n))(b:n≠0)(d:w.frozen? ad=false):eg P main g w= .go (aK g (.tuple #[])) (w.setCell ad (.int .u32 (n- 1))) (lB ad):=h.a e (by simp[fx,gk,c,a,b,d,k5,kR P w ad (.int .u32 (n- 1)) .atomic rfl]) (by simp[fx,gk,c,a,b,d,lB,mm P w _ ad (.int .u32 (n- 1)) .atomic rfl,kR P w ad (.int .u32 (n- 1)) .atomic rfl]) (pX _)
theorem cP.j(h:cP g f vs)(n:g.status= .running)(m:g.offers=none)(l:iP P f fx)(q:vs[0]?=some (.pointer (some ad)))(p:w.cell? ad=some (.int .u32 0)):eg P main g w= .go {g with status:= .blocked} w #[]:=by have⟨o,az,ats,i,j,k⟩:=h.o;have⟨fn,a,b,c,d,e⟩:=l.a;exact i.j n m j k a b c d e (by simp_all[fx,gk])
theorem cP.h(h:cP g f vs)(d:iP P f hz)(b:vs[0]?=some (.pointer (some ad)))(a:w.cell? ad=some (.int .u32 n))(c:w.frozen? ad=false):eg P main g w= .go (aK g (.tuple #[])) (w.setCell ad (.int .u32 (IntKind.u32.wrap (n+1)))) (lB ad):=h.a d (by simp[hz,gk,b,a,c,k5,l7,kR P w ad (.int .u32 (IntKind.u32.wrap (n+1))) .atomic rfl]) (by simp[hz,gk,b,a,c,lB,l7,mm P w _ ad (.int .u32 (IntKind.u32.wrap (n+1))) .atomic rfl,kR P w ad (.int .u32 (IntKind.u32.wrap (n+1))) .atomic rfl]) (pX _)
def Du(g:b2):ht×Option nv×Bool×Bool×Option Value:=(g.frame,(oy g)[hI g]?,kp (bj g) (yielded (oy g) g.frame.tmps),It g.frame.kind,g.dying.map λ _=>nL)
def Bn(g:b2):ht×Option nv×Bool×Bool×Option Value:=({fn:=g.frame.fn,tmps:=g.frame.tmps,todo:= .inRegion (oy g) (hI g::wJ g)::hK g,defers:=g.frame.defers,mode:= .run,kind:=g.frame.kind},some (bj g),true,true,none)
theorem ao{g}(h:Du g=Bn g):dh g (bj g):= ⟨congrArg (·.1) h,congrArg (·.2.1) h,congrArg (·.2.2.1) h,congrArg (·.2.2.2.1) h,by simp_all[congrArg,Du,Bn]⟩
theorem ac{g f}(h:(Du g,(bj g).op,(Sd (bj g).op).map (bY g).eval)=(Bn g,.call {callee:= .value (.func f),args:=Sd (bj g).op,argTypes:=Ia (bj g).op},vs)):cP g f vs:= ⟨_,_,_,ao (by grind),congrArg (·.2.1) h,by grind⟩
theorem ie{P:ef}{f:fb}(h:(P.funcs[f]?,(P.funcs.getD f default).name== "runtime.NumGoroutine",(P.funcs.getD f default).body.isNone)=(some (P.funcs.getD f default),false,true))
 (h4:hJ (P.funcs.getD f default)=none) (h5:ih (P.funcs.getD f default)=some e):iP P f e:= ⟨_,congrArg (·.1) h,by grind,by grind,h4,h5⟩
end
section
variable[aW][ck][Gl]
theorem Xp{P:ef}{fs:Array Func}{fr:ht}{u:dr}(p:Hd u)(t:fr.mode= .returning)(r:fr.defers= [])(w:fr.roundOf=none):∀{n:Nat}{i:ht}{g:List ht}{k:dr},mn (lp P fs) n (nH fr [gd] u)= .next (nH i g k)->g.length<=1:=by
 intro n i g k h;cases n with
 |zero=>
  grind[mn,Stepped.next.injEq,kt]
 |succ n=>
  obtain⟨fn,d,j,A,C,kind,E⟩:=fr;simp only at t r w;subst t r w;have D:∀(m:Nat)(b:dr),Hd b->∀i g k,mn (lp P fs) m (nH gd [] b)= .next (nH i g k)->g.length<=1:=λ m b z i g k e=>by
   cases m with
   |zero=>
    simp only[mn,Stepped.next.injEq]at e;rw[<-(kt e).2.1];simp
   |succ m=>
    simp only[mn,GM]at e;cases m with
    |zero=>
     simp only[mn,Stepped.next.injEq]at e;rw[<-(kt e).2.1];simp
    |succ m=>
     obtain⟨o,F,y⟩:=H5 (Q:=lp P fs) z;simp only[mn,y]at e;cases e
  have key:(∃o b,step (lp P fs) (nH ⟨fn,d,j,[],.returning,kind,none⟩ [gd] u)= .ended o b)\/∃b,Hd b/\step (lp P fs) (nH ⟨fn,d,j,[],.returning,kind,none⟩ [gd] u)= .next (nH gd [] b):=by
   have ret:∀(v:en)(b:dr),doReturn (lp P fs) true ⟨fn,d,j,[],.returning,kind,none⟩ [gd] none v b= .go (G0 gd []) b:=λ v b=>by
    cases kind<;>rfl
   have c:eg (lp P fs) true (G0 ⟨fn,d,j,[],.returning,kind,none⟩ [gd]) u=unwind (lp P fs) true ⟨fn,d,j,[],.returning,kind,none⟩ [gd] none u:=rfl;simp only[unwind]at c;cases s:(lp P fs).funcs[fn]? with
   |none=>
    rw[s]at c;simp only[ret]at c;exact .inr ⟨u,p,(gG c).2 _ _ _ _ rfl⟩
   |some f=>
    rw[s]at c;simp only at c;have l:=pz (lp P fs) (results f d) u #[];generalize B:(results f d).runT (lp P fs) u #[]=q at c l;obtain⟨q,es⟩:=q;cases q with
    |ok a b=>
     simp only[ret,iA]at c;have:=RO.d (P:=P) (fs:=fs) f d u a b l.symm;subst this;exact .inr ⟨_,p,(gG c).2 _ _ _ _ rfl⟩
    |halt x b=>cases x<;>exact .inl ((gG c).1 _ _ _ rfl)
  grind[mn]
variable{C:dC}{X:cS}{F:Nat->Bool}{R:ht->dr->Prop}
def HZ(Q:ef)(Stop:ht->List ht->dr->Prop)(k:ajL):=∀T,gy k.D k.h T 0->∃n fr cs w,mn Q n (nH k.a k.b (k.v.tp T k.D))= .next (nH fr cs w)/\Stop fr cs w/\2<=cs.length
theorem adO(x:C.a)(e:X.b)(ai:X.a= []/\X.d= [])(ak:∀f,C.b f=false){Stop:ht->List ht->dr->Prop}{k:ajL}(a:tQ C X F R k)(h2:HZ C.Q Stop k):
 ∃k':ajL,tQ C X F R k'/\kY C.Q X R k'.e k.e/\∃T,gy k'.D k'.h T 0/\Stop k'.a k'.b (k'.v.tp T k'.D):=by
 have p:=HV (k:=k.e) e a.a;generalize U:k.e=l at p
 induction p generalizing k with
 |intro l _ V=>
  subst U;by_cases N:∃T,gy k.D k.h T 0/\Stop k.a k.b (k.v.tp T k.D)
  exact⟨k,a,.ni _,N⟩;have o:¬jU X k.a k.b:=by
   rintro⟨s,P⟩;have O:gy k.D k.h k.h 0:=λ j _=>by simp
   obtain⟨n,fr,cs,w,i,D,E⟩:=h2 k.h O;have aj:k.a.roundOf=none:=by
    have:=a.d;generalize k.b=cs0 at this s;generalize k.a=ad at this;generalize k.c=ae at this;generalize k.d=ab at this;cases this with
    |jE g al=>omega
    |up g am hp Q=>
     have af:=Q.c;grind
   rcases P with⟨_,_,h⟩| ⟨h,L⟩
   grind
   rw[e.b]at L;rw[s,e.a]at i;have ag:Hd (k.v.tp k.h k.D):=a.c;grind[Xp]
  obtain⟨d,t,J,A,v2,Z,K,B,w2,ac,v,ao,b,W,Y,ap,aq,r⟩:=ak8 x e true a o;rcases b with b|b
  let k':ajL:= ⟨J,A,v2,Z,K,B,w2,k.D+d,iu k.D k.h t⟩
  have S:tQ C X F R k':= ⟨b,W,Y,r⟩;have u:lM C.Q X R k'.e k.e:= ⟨r,o,d,t,v,rfl,rfl⟩;have M:HZ C.Q Stop k':=by
   intro T hT;obtain⟨y,z⟩:=rP hT;obtain⟨n,fr,cs,w,i,D,E⟩:=h2 T y;obtain⟨es,q⟩:=v T k.D z;have q:=(gG (cs:=k.b) q).2 _ _ _ _ rfl;rcases td i q with⟨aa,c2⟩| ⟨m,c⟩
   cases n with
   |zero=>
    grind[mn,kt]
   |succ n=>
    grind[mn]
   grind
  obtain⟨an,G,H,I⟩:=V k'.e u S M rfl;exact⟨_,G,H.a (.mf u (.ni _)),I⟩;obtain⟨f,_,_,_,_,_,_,_,_,_,_,ah,_⟩:=b
  grind
end
section
variable[aW][ck][Gl]{C:dC}{X:cS}{F:Nat->Bool}{R:ht->dr->Prop}
variable {id:Nat} {c:pc} {i:Nat}
structure At(C:dC)(X:cS)(F:Nat->Bool)(R:ht->dr->Prop)(cs:List ht)(hp:Array Obj)(fr:ht):Prop where
 N:∃k,tQ C X F R k/\k.a=fr/\k.b=cs/\k.v.heap=hp
 x:cs≠X.c
variable{cs:List ht}{hp:Array Obj}{fr gr:ht}
theorem At.n(OK:C.a)(hX:X.b)(hnx:∀f,C.b f=false)(h:At C X F R cs hp fr):
 ∃(w:dr)(gr:ht)(b:List ht)(w2:dr)(es:Array hD),w.heap=hp/\eg C.Q true (G0 fr cs) w= .go (G0 gr b) w2 es/\(b≠X.c->At C X F R b w2.heap gr)/\(gr.mode= .run\/gr.mode= .returning):=by
 obtain⟨⟨k,o,rfl,rfl,rfl⟩,n⟩:=h;obtain⟨d,t,gr,b,v2,H,x,u,w2,v,p,D,a,r,s,E,G,i⟩:=ak8 OK hX true o λ l=>n l.1
 have c:gy (k.D+d) (iu k.D k.h t) (iu k.D k.h t) 0:=λ j _=>by simp
 obtain⟨es,q⟩:=p _ k.D (rP c).2;rcases a with a|a
 refine⟨k.v.tp _ k.D,_,_,_,_,rfl,q,λ m=> ⟨⟨⟨_,_,_,_,_,_,_,_,_⟩,⟨a,r,s,i⟩,rfl,rfl,rfl⟩,m⟩,?_⟩;cases a with
 |jE g A=>rcases g.f.b with⟨e,_⟩| ⟨e,_⟩<;>simp[e]
 |up g B hp y=>rcases g.f.b with⟨e,_⟩| ⟨e,_⟩<;>simp[e]
 obtain⟨f,_,_,_,_,_,_,_,_,_,_,z,_⟩:=a
 grind
variable(OK:C.a)(hX:X.b)(hnx:∀f,C.b f=false)
include OK hX hnx
theorem At.g(h:At C X F R cs hp fr)(k:∀w,eg C.Q true (G0 fr cs) w= .go (G0 gr cs) w):At C X F R cs hp gr:=by have⟨w,g,b,w2,es,i,a,j,_⟩:=h.n OK hX hnx;rw[k]at a;have e:=kq a;have c:gr=g:=congrArg hZ e.1;have d:cs=b:=congrArg k7 e.1;have f:w=w2:=e.2.1;subst c d f;rw[<-i];exact j h.x
variable{b:ht}{a:Act}{k:List Item}
theorem At.f{x y}(h:At C X F R cs hp (b.at a (.code (.seq x y)::k))):At C X F R cs hp (b.at a (.code x:: .code y::k)):=h.g OK hX hnx λ w=>rfl
theorem At.o(h:At C X F R cs hp (b.at a (.code .skip::k))):At C X F R cs hp (b.at a k):=h.g OK hX hnx λ w=>rfl
theorem At.e{ops}(h:At C X F R cs hp (b.at a (.code (.region id ops false)::k))):At C X F R cs hp (b.at a (.inRegion ops (List.range ops.size)::k)):=h.g OK hX hnx λ w=>rfl
theorem At.d{ops}(h:At C X F R cs hp (b.at a (.inRegion ops []::k))):At C X F R cs hp (b.at a k):=h.g OK hX hnx λ w=>rfl
theorem At.s(h:At C X F R cs hp (b.at a (.code (.block id c)::k))):At C X F R cs hp (b.at a (.code c:: .inBlock id::k)):=h.g OK hX hnx λ w=>rfl
theorem At.J(h:At C X F R cs hp (b.at a (.inBlock id::k))):At C X F R cs hp (b.at a k):=h.g OK hX hnx λ w=>rfl
theorem At.z(h:At C X F R cs hp (b.at a (.code (.loop c)::k))):At C X F R cs hp (b.at a (.code c:: .inLoop c::k)):=h.g OK hX hnx λ w=>rfl
theorem At.q(h:At C X F R cs hp (b.at a (.inLoop c::k))):At C X F R cs hp (b.at a (.code c:: .inLoop c::k)):=h.g OK hX hnx λ w=>rfl
theorem At.u{why}(h:At C X F R cs hp (b.at a (.code (.refuse why)::k))):False:=by have⟨w,d,c,w2,es,e,f,_⟩:=h.n OK hX hnx;trivial
theorem At.l{c x y}(h:At C X F R cs hp (b.at a (.code (.cond c x y)::k))):∃t,a.eval c= .bool t/\At C X F R cs hp (b.at a (.code (if t then x else y)::k)):=by
 have i:∀w,eg C.Q true (G0 (b.at a (.code (.cond c x y)::k)) cs) w=(match a.eval c with| .bool t=> .go (G0 (b.at a (.code (if t then x else y)::k)) cs) w|_=> .ended (.stuck "cond: bool expected" ((b.at a (.code (.cond c x y)::k)).pos C.Q)) w):=λ w=>by rfl
 have⟨w,e,d,w2,es,f,g,_⟩:=h.n OK hX hnx;cases j:a.eval c with
 |bool t=>refine⟨t,rfl,h.g OK hX hnx λ w=>?_⟩;grind|_=>grind
theorem At.M{ops:Array nv}{l:List Nat}{o:nv}{Ψ:Next->dr->Prop}(h:At C X F R cs hp (b.at a (.inRegion ops (i::l)::k)))(J:ops[i]?=some o)(O:∀K,kp o (yielded ops K)=true)
 (H:∀w,w.heap=hp->(∃y w2,(jA a.eval o).run C.Q w= .ok y w2/\Ψ y w2)\/∃y u,(jA a.eval o).run C.Q w= .halt y u/\jX y=true):
 ∃y w2,Ψ y w2/\∀x,y= .value x->At C X F R cs w2.heap (b.at (a.put o.dst x) (.inRegion ops l::k)):=by
 obtain⟨w,r,t,w2,es,D,c,E,I⟩:=h.n OK hX hnx;have G:eg C.Q true (G0 (b.at a (.inRegion ops (i::l)::k)) cs) w=stepG.apply C.Q true (b.at a (.inRegion ops (i::l)::k)) cs none (jA a.eval o) w:=by
  have B:(b.at a (.inRegion ops (i::l)::k)).eval=a.eval:=by rfl
  rw[<-B];show lv _ true _ (b.at a (.inRegion _ (i::l)::k)) _ _ w=_
  grind[lv,stepG.oper,Frame.oper?,Frame.at]
 rw[G]at c;have hT:=pz C.Q (jA a.eval o) w #[];simp only[stepG.apply,if_true]at c;generalize N:(jA a.eval o).runT C.Q w #[]=q at c hT;obtain⟨q,M⟩:=q;rcases H w D with⟨y,u,j,n⟩| ⟨y,u,j,n⟩
 rw[j]at hT;simp only at hT;subst hT;refine⟨y,u,n,λ x e=>?_⟩;subst e;simp only[iA]at c;have e:=kq c;have d:(b.at a (.inRegion ops (i::l)::k)).finish x=r:=congrArg hZ e.1;have z:cs=t:=congrArg k7 e.1;have A:u=w2:=e.2.1;subst z A;have:=E h.x;rw[<-d,mx,J]at this;exact this;exfalso;rw[j]at hT;simp only at hT;subst hT;cases y with
 |panic p=>
  simp only[iA]at c;have e:=kq c;have d:(b.at a (.inRegion ops (i::l)::k)).raise [{v:=p,recovered:=false}]=r:=congrArg hZ e.1;obtain⟨L,f⟩:=vN (b.at a (.inRegion ops (i::l)::k)) [{v:=p,recovered:=false}];rw[d]at f;rcases I with s|s<;>rw[s]at f<;>cases f
 |stuck m=>simp only[iA]at c;cases c
 |unsupported u=>
  cases u with
  |initOrder g=>cases n
  |_=>trivial
 |_=>trivial
theorem At.A{id:Nat}{k':List Item}(h:At C X F R cs hp (b.at a (.code (.exit id)::k)))(c:exitTo id k=some k'):At C X F R cs hp (b.at a k'):=
 h.g OK hX hnx λ w=>by grind[eg,lv,Frame.at]
omit OK hX hnx
def An:Obj->Bool| .view .. | .pending .. =>false|_=>true
theorem At.E(h:At C X F R cs hp fr){v:en}(j:fr.tmps[i]?=some v){ad:hP}(f:v= .pointer (some ad)):∃o,hp[ad.block]?=some o/\An o=true:=by
 obtain⟨⟨k,c,rfl,rfl,rfl⟩,q⟩:=h;have hT:AV k.f k.a.tmps k.c.tmps:=by
  have:=c.d;generalize k.b=cs0 at this;generalize k.d=l at this;cases this with
  |jE g r=>exact g.b
  |up g s hp p=>exact g.b
 rcases hT.d i with⟨a,_⟩| ⟨v1,y,a,n,d⟩
 grind
 rw[j]at a;cases a;obtain⟨a',e⟩:∃a',k.f ad.block a':=by
  subst f;cases d with
  |dc h=>
   rename_i a';cases a' with
   |none=>trivial
   |some a'=>exact⟨_,h.1⟩
 obtain⟨o,u,k1,t,b⟩:=c.b.b _ _ e;refine⟨o,k1,?_⟩;revert b;generalize F ad.block=m;intro b;cases b<;>rfl
end
end Go.Rs
