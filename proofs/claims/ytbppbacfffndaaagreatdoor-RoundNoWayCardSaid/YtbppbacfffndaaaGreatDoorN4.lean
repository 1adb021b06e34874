/- Part of a proof that the statement holds. No conditions. -/
import Derived.ProofKit
import Derived.ChangeSlices
import Derived.Test.YtbppbacfffndaaaGreatDoorProg
import Derived.Deep.MidRow
import Derived.Conc.TokenWalk
import Derived.Conc.AppendEvents3
import Derived.Laws.AppendOwn
import Derived.Conc.CompanyDraw
import Derived.Shelf.SlSortCmp.NoneTotal
import Derived.Shelf.SlLaysF0
import Derived.Test.YtbppbacfffndaaaGreatDoorN3
set_option linter.all false
set_option maxRecDepth 100000
open Go renaming Value->b2,undef->df,World->dk,stepG->dr,Goroutine->ea,execOp->ef,sizeOf->en,Program->ew,isAgg->eH,Operand->eV,maxLen->fu,Code->fv,Act->fx,mayWake->gg,Frame->gk,underlying->gu,Addr->gw,Func->ht,storeCells->hD,heap_setCell_other->hF,loadCellsFrom->hN,cell_of_row->hU,wpOpsIn->hZ,TypeId->iA,Oper->j1,storeVar->lv,DataW->lA,Event->lB,heap_setCell_same->mm,events_store->nb,events_load->nz,wpIn_mono->nH,wpIn_seq->n3,TypeDesc->oj,typeInfo->o0,asIntOf->o2,wpOps->pc,run_append_grow->qq,run_append_nil->qW,growslice_fits->q0,run_underlying->q3,frozen_of_row->q7,MemPlace->s7,askRoom->tc
open Go.IntKind renaming wrap->cr
open Nat renaming beq->eb,le_refl->ei,le_trans->gb,zero_le->gf,mod_lt->ih,add_zero->nL,zero_add->nV,le_of_ble_eq_true->pS,lt_of_lt_of_le->qi,zero_mul->s0,blt_eq->tg
open List renaming length->ee,getElem?_eq_getElem->et,replicate->hq,range->hs,getElem?_eq_none->hv,nodup_cons->hz,getElem?_take->hM,mem_append->hS,mem_map->hY,take->jc,length_append->kq,size_toArray->kR,all_eq_true->kV,drop_eq_getElem_cons->l8,mem_of_getElem?->mn,ext_getElem?->mx,append_nil->nv,eq_nil_of_length_eq_zero->pk,getElem?_eq_some_iff->pt,append_left_eq_self->pv,take_of_length_le->pz,mem_cons_of_mem->p5,getElem?_drop->qc,mem_singleton->qF,flatMap_cons->q4,length_cons->q6,length_take->q9,cons_append->re,mem_flatMap->rr,append_inj->r1,find?_cons->r2,map_append->r3,drop_zero->r4,drop_drop->r5,find?_nil->sc,nodup_nil->sf,mem_cons->so
open Bool renaming and_eq_true->eg,false_eq_true->mo,not_eq_true'->mv,or_eq_true->ng
open Option renaming bind_some->ej,isNone_iff_eq_none->eL,isSome_iff_exists->gE,bind_eq_some_iff->l9,map_eq_some_iff->ma,map_some->np,getD_some->rH
open Array renaming getElem?_eq_some_iff->eo,getElem?_eq_getElem->ep,getElem?_toList->hy,replicate->hP,getElem?_mapIdx->kk,getElem_toList->ko,getElem?_map->kp,getElem?_setIfInBounds_ne->l1,size_push->nf,mem_push->nB,getElem?_append_left->pn,mem_iff_getElem->pX,length_toList->p7,isEmpty_iff->qO,mem_append->q8,toList_map->rm,mem_map->sr
open Go.Sort renaming flatK->eQ,putCells->fR,grow->n2,ahead->sy
open Go.Conc renaming served->fb,crowd->lk,Leavers->nc,Past->n1
open Go.DataW renaming trod->fl,TrodAll->mA,agg->s4
open Go.Builtin renaming append_->fz,zeroCells->hG,firstCells->j3,lenOf->k5,holdsCells->pV,mayShare->p6
open Go.Sem renaming events_bind->gl,run_bind->k7,events_pure->mr,run_pure->rV
open Go.Proofs renaming sortWorldK->hg,ltOf->hA
open Go.Instr renaming sureAddr->hh,loadAt->hQ,takeDeferred->kg,storeAt->k3,indexAt->k4
open Go.Value renaming cells->hB,okWide->mZ
open Go.Result renaming evThen_ok->hJ,andThen_ok->p1
open Go.Proofs.Tryz renaming f135->hL,func166->ml,func167->pN,f166->p8,func100->vi,func134->vj,func138->vo,func109->vE,func103->vL,func135->vR,func104->w6,func213->xM,func231->x0,func207->x1,func206->x2,func168->x3,func205->yl,func152->ym,func223->yt,func224->y0,func225->y2,func226->y3,func227->y4,func228->y5,func229->y6,func230->y9,func178->za,func179->zh,func235->zj,func209->zl,func210->zr,func236->zs,func237->zt,func238->z1,func99->AI,func97->A1,func96->A2,f168->B1,f167->B2
open Go.Region renaming ready->hR,schedule->qz,wanted->q5
open Int renaming toNat->jA,natCast_nonneg->qn,ofNat_lt->s5,not_lt->tl
open Go.Extern.Race renaming marked->j2
open Go.Extern renaming findNext->kH,find->lb
open Go.World renaming setCells->kL,cell?->ny,cells?->rL
open Go.Addr renaming add_mid->k6,add->s8
open Go.Operand renaming func->k8,tmp->lf
open Go.ChangeShapes renaming trodAll_cons->l4,trodAll_nil->l7
open Go.Region.linearise renaming go->mb
open Go.Act renaming eval->o1
open Go.World.ownsRow renaming cells->pH
open Go.Next renaming value->sv
open Go.Extern.BytealgIndexByte renaming indexByte->tm
open Go.Extern.BytealgIndex renaming index->tv
open Go.Extern.BytealgCount renaming count->tw
open Go.Extern.Atomic renaming update->u0,loadT->u2,casT->z6
open Go.Target.collected renaming inj->u1
open Go.Proofs.SlLaysF0 renaming n6->BP
open Option.some renaming inj->Cv
open Go.Abs.Map renaming av->cA
open Ne renaming symm->cB
open Go.Abs renaming aS->dd
noncomputable section
namespace Go.Abs
open Go.ChangeShapes Go.Proofs Go.RowKit Go.Sort Go.WideShapes
section
variable[Dr]
variable{P:Program}
variable{α β:Type}{f:α->Option β}
def Ty.k:(t:Ty)->t.b->Prop| .ay k,n=>k.min<=n/\(n:Int)<=k.max| .aO,_=>True| .aJ,l=>ee (α:=UInt8) l<=fu| .aH e,l=>ee l<=fu/\∀x∈(l:List e.b),e.k x| .aF a b,(x,y)=>a.k x/\b.k y| .dP _ _,_=>True| .dX _ _,_=>True| .cO _ _,_=>True| .ec _,_=>True
mutual
def pw(P:ew):Nat->Nat->Ty->Bool
 |0,_,_=>false
 |n+1,T,t=>match P.underlying T,t with
  |some (.int k),.ay k'=>decide (k=k')
  |some .bool,.aO=>true
  |some .string,.aJ=>true
  |some (.slice c),.aH e=>eb (P.cellsOf c) e.a&&Nat.blt 0 e.a&&pw P n c e
  |some (.struct fs),.aF a b=>eb (P.cellsOf T) (Ty.aF a b).a&&rY P n fs.toList 0 (.aF a b)
  |some (.array m c),.aF a b=>eb (P.cellsOf T) (Ty.aF a b).a&&decide (Ty.aF a b=Ty.e a m)&&eb (P.cellsOf c) a.a&&pw P n c a
  |_,_=>false
def rY(P:ew):Nat->List Go.Field->Nat->Ty->Bool
 |0,_,_,_=>false
 |n+1,[f],off,t=>eb f.offset off&&eb (P.cellsOf f.type) t.a&&pw P n f.type t
 |n+1,f::g::r,off,.aF a b=>eb f.offset off&&eb (P.cellsOf f.type) a.a&&pw P n f.type a&&rY P n (g::r) (off+a.a) b
 |_+1,_,_,_=>false
end
theorem ya{α β:Type}{f x}{l:List α}{ys:List β}(h:(x::l).mapM f=some ys):∃y r,f x=some y/\l.mapM f=some r/\ys=y::r:=by rw[List.mapM_cons]at h;cases a:f x with|none=>rw[a]at h;cases h|some y=>cases b:l.mapM f with|none=>grind|some r=>grind
theorem Dm{α β:Type}{f}:{l:List α}->{ys:List β}->l.mapM f=some ys->∀(i:Nat)x,l[i]?=some x->∃y,f x=some y| [],ys,h,i,x,b=>by trivial|a::l,ys,h,i,x,b=>by have⟨y,r,c,d,e⟩:=ya h;cases i with|zero=>simp at b;subst b;exact⟨y,c⟩|succ i=>exact Dm d i x (by grind)
theorem NM:{l:List α}->{ys:List β}->l.mapM f=some ys->ys.length=l.length| [],ys,h=>by grind|a::l,ys,h=>by have⟨y,r,d,b,c⟩:=ya h;subst c;simp[NM b]
theorem KP:{l:List α}->{ys:List β}->l.mapM f=some ys->∀(i:Nat)x y,l[i]?=some x->ys[i]?=some y->f x=some y
 | [],ys,h,i,x,y,c,d=>by trivial|a::l,ys,h,i,x,y,c,d=>by have⟨j,r,e,b,g⟩:=ya h;cases i with|zero=>grind|succ i=>exact KP b i x y (by grind) (by grind)
theorem Yo{n}{Q:Nat->α->Prop}(h:∀i,i<n->∃x,Q i x):∃l:List α,l.length=n/\∀(i:Nat)x,l[i]?=some x->Q i x:=by induction n with|zero=>simp|succ n a=>have⟨l,b,c⟩:=a λ i d=>h i (by omega);have⟨x,e⟩:=h n (by omega);refine⟨l++ [x],by grind,λ i y f=>?_⟩;grind
theorem OI{W ok a}:(m:Nat)->(cs:List b2)->0<m->cs.length=m*a.a->(∀i,i<m->∃y,aw P a W ok ((cs.drop (i*a.a)).take a.a) y/\a.k y)->∃x,aw P (Ty.e a m) W ok cs x/\(Ty.e a m).k x
 |0,cs,h,_,_=>absurd h (Nat.lt_irrefl 0)|1,cs,_,f,h=>by have⟨y,b,c⟩:=h 0 (by omega);rw[s0,r4,pz (by omega)]at b;exact⟨y,b,c⟩|m+2,cs,_,f,h=>by
  have⟨y,b,c⟩:=h 0 (by omega);rw[s0,r4]at b;have e:(m+2)*a.a=(m+1)*a.a+a.a:=by grind
  obtain⟨x,k1,g⟩:=OI (a:=a) (m+1) (cs.drop a.a) (by omega) (by grind) λ i k=>by have⟨z,j,d⟩:=h (i+1) (by omega);refine⟨z,?_,d⟩;rw[r5,show a.a+i*a.a=(i+1)*a.a from by grind];omega
  exact⟨(y,x),⟨b,k1⟩,c,g⟩
section
variable{H:Type}{enc:TypeId×Value->H}{W:World}{held:Bool}
mutual
theorem xi:(n:Nat)->(T:Nat)->(t:Ty)->pw P n T t=true->∀(q:Nat)(cs:List b2)(d:lA H)(ps:List s7),fl enc P W 0 (λ _=>true) held q T cs=some (d,ps)->
 ∃x:t.b,aw P t W (λ b=>b<W.heap.size) cs x/\t.k x
 |0,T,t,h,q,cs,d,ps,c=>by trivial
 |n+1,T,t,h,0,cs,d,ps,c=>by trivial
 |n+1,T,t,h,q+1,cs,d,ps,c=>by
  unfold pw at h;unfold fl at c;split at h
  ·rename_i k k' u;have an:k=k':=of_decide_eq_true h;subst an;rw[u]at c
   match cs,c with
   | [.int _ m],c=>
    simp only at c;split at c
    ·rename_i R;obtain⟨rfl,av⟩:=R;refine⟨m,rfl,?_⟩;simpa[Lit.wf,Ty.k]using av
    trivial
  ·rename_i u;rw[u]at c
   match cs,c with
   | [.bool b],c=>exact⟨b,rfl,trivial⟩
  ·rename_i u;rw[u]at c
   match cs,c with
   | [.string s],c=>
    simp only at c;split at c
    ·rename_i ar;obtain⟨⟨s⟩⟩:=s;exact⟨s,rfl,ar⟩
    trivial
  ·rename_i g e u;simp only[eg]at h;obtain⟨⟨G,I⟩,O⟩:=h;have N:=cU G;have aq:0<e.a:=pS I;rw[u]at c
   match cs,c with
   | [.slice none 0 0],c=>exact⟨([]:List e.b),⟨none,0,rfl,ei _,.inl rfl⟩,⟨gf _,λ _ h=>(by cases h)⟩⟩
   | [.slice (some a) len cap],c=>
    simp only at c;split at c
    ·rename_i R;obtain⟨_,ao,ak⟩:=R;cases B:(hs len).mapM (λ i=>(W.cells? 0 (a.add (i*P.cellsOf g)) (P.cellsOf g)).bind (fl enc P W 0 (λ _=>true) held q g))with
     |none=>rw[B]at c;cases c
     |some aB=>
      rw[B]at c;simp only[ej,if_true]at c;cases ag:(hs (cap- len)).mapM (λ j=>(W.cells? 0 (a.add ((len+j)*P.cellsOf g)) (P.cellsOf g)).bind (fl enc P W 0 (λ _=>true) held q g))with
      |none=>rw[ag]at c;cases c
      |some aC=>
      clear c;have ad:∀i,i<cap->∃p y,W.cells? 0 (a.add (i*e.a)) e.a=some p/\aw P e W (λ b=>b<W.heap.size) p y/\e.k y:=by
       intro i r;obtain⟨z,F⟩:∃z,(W.cells? 0 (a.add (i*P.cellsOf g)) (P.cellsOf g)).bind (fl enc P W 0 (λ _=>true) held q g)=some z:=by
        rcases Nat.lt_or_ge i len with D|D
        ·exact Dm B i i (by simp[D])
        ·have:=Dm ag (i- len) (i- len) (by rw[List.getElem?_range (by omega)]);rwa[show len+(i- len)=i from by omega]at this
       rw[N]at F;cases ab:W.cells? 0 (a.add (i*e.a)) e.a with
       |none=>rw[ab]at F;cases F
       |some p=>
        rw[ab]at F;obtain⟨y,ax,ay⟩:=xi n g e O q p z.1 z.2 F;exact⟨p,y,rfl,ax,ay⟩
      by_cases V:cap=0
      ·have:len=0:=by omega
       subst this;exact⟨([]:List e.b),⟨some a,cap,rfl,gf _,.inl V⟩,⟨gf _,λ _ h=>(by cases h)⟩⟩
      ·
       have aa:∀i,i<cap->∀j,j<e.a->∃v,W.cell? ((a.add (i*e.a)).add j)=some v:=by
        intro i r j K;obtain⟨p,y,w,_⟩:=ad i r;unfold rL at w;rw[if_pos (gf _)]at w;exact Dm w j j (by simp[K])
       obtain⟨b,off,sp⟩:=a;obtain⟨v0,E⟩:=aa 0 (by omega) 0 aq;have ai:(Addr.mk b off sp).add (0*e.a)= ⟨b,off,sp⟩:=by simp[s8]
       rw[ai,show(Addr.mk b off sp).add 0= ⟨b,off,sp⟩from rfl]at E;unfold ny at E;cases J:W.heap[b]? with
       |none=>simp only[J]at E;cases E
       |some o=>
        cases o with
        |cells C U fr=>
         simp only[J]at E;cases sp with
         |some s=>simp at E
         |none=>
          have Z:∀i j,(((Addr.mk b off none).add (i*e.a)).add j)= ⟨b,off+i*e.a+j,none⟩:=by
           intro i j;unfold s8;by_cases G:i*e.a=0<;>by_cases I:j=0<;>simp[G,I]
          have ae:∀i,i<cap->∀j,j<e.a->∃v,C[off+i*e.a+j]?=some v:=by
           intro i r j K;obtain⟨v,L⟩:=aa i r j K;rw[Z]at L;unfold ny at L;simp only[J]at L;exact⟨v,by simpa using L⟩
          have al:∀i,i<cap->∀p,W.cells? 0 ((Addr.mk b off none).add (i*e.a)) e.a=some p->p=aS C.toList (off+i*e.a) e.a:=by
           intro i r p w;unfold rL at w;rw[if_pos (gf _)]at w;have D:=NM w;rw[List.length_range]at D;apply List.ext_getElem?;intro j;by_cases K:j<e.a
           ·obtain⟨v,L⟩:=ae i r j K;have ac:p[j]?=some p[j]:=et (by omega);have M:=KP w j j _ (by simp[K]) ac;rw[Z]at M;unfold ny at M;simp only[J]at M;simp only[Option.isSome_none,mo,if_false]at M;rw[ac,<-M];unfold aS;rw[List.getElem?_take_of_lt K,qc];simp
           ·rw[hv (by omega),hv (by unfold aS;simp;omega)]
          obtain⟨l,S,af⟩:=Yo (n:=len) (Q:=λ i y=>aw P e W (λ b=>b<W.heap.size) (aS C.toList (off+i*e.a) e.a) y/\e.k y) λ i r=>by
           obtain⟨p,y,w,ah,az⟩:=ad i (by omega);rw[al i (by omega) p w]at ah;exact⟨y,ah,az⟩
          refine⟨l,⟨some ⟨b,off,none⟩,cap,by rw[S],by rw[S];exact ao,.inr ⟨b,off,C,U,fr,rfl,(eo.1 J).1,J,?_,.inr ak,λ i x Y=>(af i x Y).1⟩⟩,⟨by rw[S];omega,λ x Y=>?_⟩⟩
          ·obtain⟨v,L⟩:=ae (cap- 1) (by omega) (e.a- 1) (by omega);have:=(eo.1 L).1;have aA:cap*e.a=(cap- 1)*e.a+e.a:=by
            conv=>lhs;rw[show cap=(cap- 1)+1 from by omega]
            rw[Nat.succ_mul]
           omega
          ·obtain⟨i,r,rfl⟩:=List.getElem_of_mem Y;exact(af i l[i] (et r)).2
        |_=>simp only[J]at E;cases E
    ·cases c
  ·rename_i fs x y u;simp only[eg]at h;obtain⟨G,I⟩:=h;have N:=cU G;rw[u]at c;have A:(if cs.length=P.cellsOf T then(fs.toList.mapM λ f=>fl enc P W 0 (λ _=>true) held q f.type ((cs.drop f.offset).take (P.cellsOf f.type))).map λ xs=>((s4 (xs.map (·.1)):lA H),xs.flatMap (·.2))else none)=some (d,ps):=by
    match cs,c with
    | [],c=>exact c
    | [_],c=>exact c
    |_::_::_,c=>exact c
   split at A
   ·rename_i D;cases B:fs.toList.mapM λ f=>fl enc P W 0 (λ _=>true) held q f.type ((cs.drop f.offset).take (P.cellsOf f.type))with
    |none=>rw[B]at A;cases A
    |some xs=>
     have:=MP n fs.toList 0 (.aF x y) I q cs (by rw[D,N];simp) xs B;simpa using this
   ·cases A
  ·rename_i m g x y u;simp only[eg]at h;obtain⟨⟨⟨G,I⟩,O⟩,aj⟩:=h;have N:=cU G;have X:Ty.aF x y=Ty.e x m:=of_decide_eq_true I;have am:=cU O;rw[u]at c;have A:(if cs.length=P.cellsOf T then((hs m).mapM λ i=>fl enc P W 0 (λ _=>true) held q g ((cs.drop (i*P.cellsOf g)).take (P.cellsOf g))).map λ xs=>((s4 (xs.map (·.1)):lA H),xs.flatMap (·.2))else none)=some (d,ps):=by
    match cs,c with
    | [],c=>exact c
    | [_],c=>exact c
    |_::_::_,c=>exact c
   split at A
   ·rename_i D;cases B:(hs m).mapM λ i=>fl enc P W 0 (λ _=>true) held q g ((cs.drop (i*P.cellsOf g)).take (P.cellsOf g))with
    |none=>rw[B]at A;cases A
    |some xs=>
     have ap:=GU X;have au:(Ty.e x m).a=m*x.a:=by
      obtain⟨k,rfl⟩:∃k,m=k+1:= ⟨m- 1,by omega⟩;exact MY x k
     have V:cs.length=m*x.a:=by rw[D,N,X,au]
     rw[X];refine OI m cs ap V λ i r=>?_;obtain⟨z,F⟩:=Dm B i i (by simp[r]);rw[am]at F;exact xi n g x aj q _ z.1 z.2 F
   ·cases A
  ·cases h
theorem MP:(n:Nat)->(l:List Go.Field)->(off:Nat)->(t:Ty)->rY P n l off t=true->∀(c:Nat)(cs:List b2),cs.length=off+t.a->∀xs:List (lA H×List s7),
 (l.mapM λ f=>fl enc P W 0 (λ _=>true) held c f.type ((cs.drop f.offset).take (P.cellsOf f.type)))=some xs->∃x:t.b,aw P t W (λ b=>b<W.heap.size) (cs.drop off) x/\t.k x
 |0,l,off,t,h,c,cs,i,xs,e=>by simp[rY]at h
 |n+1,[],off,t,h,c,cs,i,xs,e=>by cases t<;>simp[rY]at h
 |n+1,[f],off,t,h,c,cs,i,xs,e=>by
  rw[rY]at h;simp only[eg]at h;obtain⟨⟨m,o⟩,p⟩:=h;have j:=cU m;have k:=cU o;obtain⟨y,r,d,_,_⟩:=ya e;rw[j,k,pz (by simp;omega)]at d;exact xi n f.type t p c _ y.1 y.2 d
 |n+1,f::g::r,off,t,h,c,cs,i,xs,e=>by
  cases t with
  |aF a b=>
   rw[rY]at h;simp only[eg]at h;obtain⟨⟨⟨m,o⟩,p⟩,s⟩:=h;have j:=cU m;have k:=cU o;obtain⟨y,r',d,q,_⟩:=ya e;rw[j,k]at d;obtain⟨z,k1,u⟩:=xi n f.type a p c _ y.1 y.2 d;obtain⟨A,v,w⟩:=MP n (g::r) (off+a.a) b s c cs (by rw[i];simp[Ty.a];omega) r' q;refine⟨(z,A),⟨k1,?_⟩,u,w⟩;rw[r5];exact v
  |_=>simp[rY]at h
end
end
end
section
variable{P:Program}[Dr]
def Fh:(a:List Ty)->ax a->Prop| [],_=>True| [t],x=>t.k x|t::u::a,(x,y)=>t.k x/\Fh (u::a) y
def qU(P:ew)(n:Nat):List Nat->List Ty->Bool| [],[]=>true|T::Ts,t::ts=>pw P n T t&&qU P n Ts ts|_,_=>false
theorem SN{n T t}(h:pw P n T t=true){w r e v}(d:mZ P w r e T v):v=t.d v.cells.toList:=by cases n with|zero=>trivial|succ n=>unfold pw at h;split at h;rename_i k k' b;obtain⟨m,rfl⟩:=okWide_int b d;rfl;rename_i b;obtain⟨m,rfl⟩:=okWide_bool b d;rfl;rename_i b;obtain⟨m,rfl⟩:=okWide_string b d;rfl;rename_i b;obtain⟨a,l,c,rfl⟩:=okWide_slice b d;rfl;rename_i b;obtain⟨cs,rfl,_⟩:=okWide_struct b d;rfl;rename_i b;unfold mZ at d;rw[b]at d;obtain⟨cs,rfl,_⟩:=d;rfl;trivial
section
variable{H:Type}{enc:TypeId×Value->H}{W:World}{held:Bool}
theorem L4(n):(Ts:List Nat)->(e:List Ty)->qU P n Ts e=true->∀vs g ps f,(∀(j:Nat)T v,Ts[j]?=some T->vs[j]?=some v->mZ P W .any f T v)->mA enc P W 0 (λ _=>true) held Ts vs g ps->∃x,fe P W (λ b=>b<W.heap.size) e vs x/\Fh e x| [],[],_,vs,g,ps,f,_,h=>by obtain⟨rfl,_⟩:=l7 h;exact⟨(),rfl,trivial⟩| [T],[t],a,vs,g,ps,f,i,h=>by obtain⟨v,s,d,o,p,q,rfl,rfl,rfl,c,l⟩:=l4 h;obtain⟨rfl,_⟩:=l7 l;simp[qU,Bool.and_true]at a;have⟨k,c⟩:=c;have⟨x,k1,m⟩:=xi n T t a k _ d p c;exact⟨x,⟨_,by rw[<-SN a (i 0 T v rfl rfl)],k1⟩,m⟩|T::U::Ts,t::u::e,a,vs,g,ps,f,i,h=>by obtain⟨v,s,d,o,p,q,rfl,rfl,rfl,c,l⟩:=l4 h;rw[qU]at a;simp[eg]at a;have⟨r,z⟩:=a;have⟨k,c⟩:=c;have⟨x,k1,m⟩:=xi n T t r k _ d p c;have⟨y,A,B⟩:=L4 n (U::Ts) (u::e) z s o q f (λ j w v' hT C=>i (j+1) w v' (by trivial) (by trivial)) l;exact⟨(x,y),⟨_,_,by rw[<-SN r (i 0 T v rfl rfl)],k1,A⟩,m,B⟩| [],_::_,a,_,_,_,_,_,_=>by trivial|_::_,[],a,_,_,_,_,_,_=>by trivial| [_],_::_::_,a,_,_,_,_,_,_=>by simp[qU]at a|_::_::_,[_],a,_,_,_,_,_,_=>by simp[qU]at a
theorem Sq{c}(f:laidOutB P=true)(e:Below W.heap.size W c):(Ts:List Nat)->(∀T∈Ts,P.readableRec T=true/\T<P.types.size)->∀vs a ps,mA enc P W 0 (λ _=>true) true Ts vs a ps->(∀x∈ps,x.block<W.heap.size)->mA enc P c 0 (λ b=>decide (b<W.heap.size)) true Ts vs a ps| [],_,vs,a,ps,h,_=>by obtain⟨rfl,rfl,rfl⟩:=l7 h;rfl|T::Ts,hT,vs,a,ps,h,hlt=>by obtain⟨v,m,d,l,p,q,rfl,rfl,rfl,j,k⟩:=l4 h;have⟨g,i⟩:=hT T (List.mem_cons_self ..);exact⟨p,q,Below.trod f g i j e (by grind),Sq f e _ (by grind) _ _ q k (by grind),rfl⟩
end
variable{E:aq}{R:Type}
variable{o:Oper}{f t1 t2 p:Nat}{T:cf}{a:Act}{Q:Exit->Act->World->Prop}{F:List Nat}{X:List (dN×cf)}{K:Act->World->Prop}{H:bT R}{e:Ty}
theorem BZ{r n i ops b w}(f:ops[i]?=some o)(e:o.guard=none)(d:∀c,o.op≠ .defer c)(h:o.wp P a w (hZ (Fr r) n P ops Q b) Q):hZ (Fr r) n P ops Q (i::b) a w:=by grind[q5,Go.yielded,hZ,H7]
theorem QW{w w' v}(b:(ef a.eval o).run P w= .ok (.value v) w')(h:K (a.put o.dst v) w'):o.wp P a w K Q:=by unfold Oper.wp;rw[b];exact h
theorem MW{w w' args}{R:b2->dk->Prop}(d:(ef a.eval o).run P w= .ok (.enter f args) w')(c:Calls P f args w' λ e b=>∃v,e= .returned v/\R v b)(h:∀v b,R v b->K (a.put o.dst v) b):o.wp P a w K Q:=by unfold Oper.wp;rw[d];refine Calls.mono c ?_;grind
theorem Rk(c:lE P f){args b}(d:o.op= .call {callee:= .value (.func f),args,argTypes:=b})(a:fx)(w):(ef a.eval o).run P w= .ok (.enter f (args.map a.eval)) w:=by unfold ef;rw[d];have h:(callFunc f (args.map a.eval++ #[])).run P w=_:=Hk c _;show(callFunc f (#[]++args.map _++ #[])).run P w=_;grind
def QR(P:ew)(e:Ty)(w:dk)(xs:List e.b)(v:b2)(a:dk):=∃(g:Nat)(d:Array b2)(A0:Nat->Prop),v= .func (.func g) #[] d/\lE P g/\w.heap.size<=a.heap.size/\(∀b,b<w.heap.size->a.heap[b]?=w.heap[b]?)/\(a.os=w.os/\a.tape=w.tape/\eW w a)/\(∀b,A0 b->w.heap.size<=b/\b<a.heap.size)/\∀c,c.heap.size=a.heap.size+2->(∀b,b<a.heap.size->c.heap[b]?=a.heap[b]?)->∀ok,(∀b,ok b->b<w.heap.size)->ET P (λ W o f x=>∃vs,f=vs.toArray/\fe P W o [e] vs x) g d A0 c ok xs
def Ej(P:ew)(f:Nat)(e:Ty)(b:List UInt8->List UInt8->Option (List e.b)):=lE P f/\∀w s t xs,b s t=some xs->Calls P f #[.string ⟨⟨s⟩⟩,.string ⟨⟨t⟩⟩] w λ a c=>∃v,a= .returned v/\QR P e w xs v c
def Pr:aU->RM (List UInt8)| .aE u d=> .nS (gN (t:=u) (t':= .aJ) d)|_=> .aa
def CV(i:Nat)(K:Go.Exit->au->Option R):Go.Exit->au->Option R| .exit j,st=>bif eb j i then K .normal st else K (.exit j) st|e,st=>K e st
def Eu(E:aq)(e:Ty)(x:eV)(a:List UInt8->Option (List e.b))(T:cf)(X:List (dN×cf))(body:cR T.b->e.b->(cR T.b->Option R)->iI R X->Option R)(i:Nat):Ev R:=λ st K=>((c9 [] x).aB Pr).jT st λ s=>(a s).bind λ xs=>(ky E T st).bind λ d=>la body (kK (CV i K) X) (λ d=>CV i K .normal (mk T d)) xs d
theorem VU(hE:al P E)(ac:H.c= []){Q}(I:Ej P f e Q){sep x az aA ar au U V Y aq i}
 {A B} {Oa Ob} {body:cR T.b->e.b->(cR T.b->Option R)->iI R X->Option R}
 (D:qp P E [e] [p] A B Oa Ob T F X body) (aF:t1≠t2) (h1:t1<T.N) (h2:t2<T.N) (af:∀d k sl,cA (mk T d).a k=some sl->k≠t1/\k≠t2):
 eS P H false (.seq (.region aq #[⟨some t1,.move x,az,ar,U,none⟩,⟨some t2,.call {callee:= .value (.func f),args:= #[.tmp t1,.const (.string ⟨⟨sep⟩⟩)],argTypes:=Y},aA,au,V,none⟩] false) (.block i (.rangeFunc (.tmp t2) #[p] A B)))
  (Eu E e x (λ s=>Q s sep) T X body i):=by
 intro r J S C K W st a w w0 h l ag;have J:r=none:=by simp_all
 subst J;unfold Eu at h;rw[RM.sH]at h;have⟨s,M,h⟩:=l9.1 h;have⟨xs,ap,h⟩:=l9.1 h;have⟨d,G,h⟩:=l9.1 h;have⟨Z,z⟩:=l;have⟨u,N,n⟩:=RM.aI M;have L:=dQ z (cG _) N;have aC:a.eval x= .string ⟨⟨s⟩⟩:=by
  cases u<;>simp[Pr]at n<;>try(cases n;done)
  obtain⟨rfl,rfl⟩:=kC (RM.Ae n);have⟨vs,ab,t⟩:=L;rw[ab,t];rfl
 have⟨conc,l⟩:=Aa hE ⟨Z,z⟩ G;clear G z M N n L;have⟨am,aE,an⟩:=qw d;have aH:a.tmps.size=T.N:=l.n.trans am
 let m:Act:=a.put (some t1) (.string ⟨⟨s⟩⟩)
 have ao:∀o,o.op= .move x->(ef a.eval o).run P w= .ok (.value (.string ⟨⟨s⟩⟩)) w:=λ o aG=>by
  simp_all[ef]
 refine n3 (wpIn_region ?_);refine BZ rfl rfl (by grind) (QW (v:= .string _) (w':=w) (ao _ rfl) ?_);show hZ _ 7 P _ _ _ m w;refine BZ rfl rfl (by grind) (MW (Rk I.1 rfl _ w) (R:=QR P e w xs) ?_ ?_)
 have aa:(#[Operand.tmp t1,.const (.string ⟨⟨sep⟩⟩)]:Array eV).map m.eval= #[.string ⟨⟨s⟩⟩,.string ⟨⟨sep⟩⟩]:=by
  have:m.eval (.tmp t1)= .string ⟨⟨s⟩⟩:=by
   show(a.tmps.setIfInBounds _ _).getD _ _=_;simp_all
  simp[List.map_toArray,List.map_cons,List.map_nil,this];rfl
 rw[aa];exact I.2 w s _ _ ap
 rintro v aM⟨g,O,A0,rfl,ad,av,aw,ax,ay,aK⟩
 let q:Act:=m.put (some t2) (.func (.func g) #[] O)
 show(Code.block i _).wpIn _ 7 P _ q _;have ae:q.eval (.tmp t2)= .func (.func g) #[] O:=by
  show((a.tmps.setIfInBounds _ _).setIfInBounds _ _).getD _ _=_;simp_all
 have ak:aD P (w0.c conc a w) ⟨conc.m,conc.B,conc.b⟩ (mk T d) q w:=l.y.G conc.B rfl (λ k sl c=> ⟨c,xS d c,by
  have⟨aI,aJ⟩:=af d k sl c;show((a.tmps.setIfInBounds _ _).setIfInBounds _ _)[k]?=_
  grind⟩) (λ _=>rfl) (by grind[Act.put]) rfl (λ k c=>absurd c (by rw[an,D.c];simp)) (ei _) (λ _ _ _=>rfl) (λ b _ y=>y) rfl l.y.u.symm (λ b y=>y) rfl l.y.h
 refine(wpIn_block (nH (M5 hE ac D C (K:=CV i K) h ak (C.d _ _ _ ag l.C) ae ad av aw ax (A0:=A0) ay (by grind)) ?_));rintro ex a' w'⟨⟨aL,aB,st',aj,ah,c⟩,_⟩;cases ex with
 |exit j=>
  grind[CV,gF,decide_true,Go.Exit.inBlock,decide_false]
 |_=>exact⟨_,_,_,aj,ah,c⟩
def CD(k t1 t2 f i p:Nat)(sep:List UInt8):fv->Bool
 | .seq (.region _ ops false) (.block j (.rangeFunc (.tmp u) ps _ _))=>match ops.toList,ps.toList with
  | [⟨some d1,.move (.tmp x),_,_,_,none⟩,⟨some d2,.call {callee:= .value (.func g),args,.. },_,_,_,none⟩],[q]=>match args.toList with| [.tmp y,.const (.string b)]=>eb x k&&eb d1 t1&&eb d2 t2&&eb g f&&eb j i&&eb u t2&&eb q p&&eb y t1&& (b.data.toList==sep)|_=>false
  |_,_=>false
 |_=>false
def D8:fv->fv| .seq _ (.block _ (.rangeFunc _ _ a _))=>a|_=> .skip
def Dt:fv->fv| .seq _ (.block _ (.rangeFunc _ _ _ b))=>b|_=> .skip
theorem Hi{α:Type}{xs:Array α}{l}(h:xs.toList=l):xs= ⟨l⟩:=by grind
theorem Xl{k i sep c}(h:CD k t1 t2 f i p sep c=true):∃m r n a e s o d,c= .seq (.region m #[⟨some t1,.move (.tmp k),r,n,a,none⟩,⟨some t2,.call {callee:= .value (.func f),args:= #[.tmp t1,.const (.string ⟨⟨sep⟩⟩)],argTypes:=e},s,o,d,none⟩] false) (.block i (.rangeFunc (.tmp t2) #[p] (D8 c) (Dt c))):=by
 unfold CD at h;split at h;rename_i m ops j u ps D E;split at h;rename_i d1 x r n a d2 g args e s o d q t v;split at h;rename_i y b w;simp only[eg,gF,decide_eq_true_eq,beq_iff_eq]at h;obtain⟨⟨⟨⟨⟨⟨⟨⟨rfl,rfl⟩,rfl⟩,rfl⟩,rfl⟩,rfl⟩,rfl⟩,rfl⟩,l⟩:=h;have z:=Hi t;have A:=Hi v;have B:=Hi w;obtain⟨⟨C⟩⟩:=b;subst l z A B;exact⟨_,_,_,_,_,_,_,_,rfl⟩;trivial;trivial;trivial
theorem ab1(hE:al P E)(l:P.follows .mixedOrders=true){i j Oa Ob}{body:cR T.b->e.b->(cR T.b->Option R)->iI R X->Option R} (o:T.c= []) (t:p<T.N) (s:p∉F) (r:(X.all λ x=>x.2.c.isEmpty)=true) (m:kO P (bT.b (R:=R)) true (gq i) 0 Oa) (n:kO P (bT.b (R:=R)) true (gq j) 0 Ob) (heq:∀d x again k,dv E bT.b i Oa (yO T F [p] [e] d x) (tH λ st=>dv E bT.b j Ob st (wR E T F X again k))=body d x again k):qp P E [e] [p] i j Oa Ob T F X body where
 c:=o
 g:=λ q u=>by grind
 e:=rfl
 f:=λ x v=>by grind
 a:=ji hE l i Oa (my m)
 b:=ji hE l j Ob (my n)
 h:=heq
def xP(E:aq)(H:bT R)(c:Ev R):Nat->fv->Ev R
 |0,.seq _ b=>λ st K=>c st λ| .normal,st=>dv E H b [] st K|e,st=>K e st
 |k+1,.seq a b=>λ st K=>dv E H a [] st λ| .normal,st=>xP E H c k b st K|e,st=>K e st
 |_,_=>λ _ _=>none
def pE:Nat->fv->fv|0,.seq a _=>a|k+1,.seq _ b=>pE k b|_,c=>c
def Hx:Nat->fv->Bool|0,.seq _ _=>true|k+1,.seq _ b=>Hx k b|_,_=>false
theorem Re(hE:al P E)(l:P.follows .mixedOrders=true){i q}:(k:Nat)->(c:fv)->eS P H i (pE k c) q->Hx k c=true->eS P H i c (xP E H q k c)
 |0,.seq x y,o,p=>λ r j s d K t st a w w0 h n m=>by simp[xP]at h;refine n3 (nH (o r j _ d _ _ _ _ _ _ h n m) ?_);rintro e a' w'⟨w1,u,st',g,f,b⟩;cases e with|normal=>exact ji hE l y [] (my trivial) r j _ d _ _ _ _ _ _ b g f|_=>exact⟨_,_,_,g,f,b⟩
 |k+1,.seq x y,o,p=>λ r j s d K t st a w w0 h n m=>by refine n3 (nH (ji hE l x [] (my trivial) r j _ d _ _ _ _ _ _ h n m) ?_);rintro e a' w'⟨w1,u,st',g,f,b⟩;cases e with|normal=>exact (Re hE l k y o p) r j _ d _ _ _ _ _ _ b g f|_=>exact⟨_,_,_,g,f,b⟩
theorem KF:{l:List (Nat×ki)}->{r:List iK}->{m:List (Nat×fX)}->{r':List iK}->pY l r=some (m,r')->∀p∈m,∃q∈l,q.1=p.1
 | [],r,m,r',h=>by grind[pY,Option.some.injEq,Prod.mk.injEq]| (d,t)::l,r,m,r',h=>by
  simp[pY]at h;split at h;split at h;rename_i m' e a;obtain⟨rfl,_⟩:=h;intro p hp;rcases so.1 hp with rfl|hp
  simp;obtain⟨q,b,c⟩:=KF a p hp
  grind
  trivial;trivial
theorem U7(h:(T.d.all λ q=>!(eb q.1 t1)&&!(eb q.1 t2))=true)(d)(k)(sl)(a:cA (mk T d).a k=some sl):k≠t1/\k≠t2:=by
 unfold mk at a;split at a;rename_i s r b;split at a;obtain⟨q,c,e⟩:=KF b _ (Map.ll a)
 grind[kV,gF,mv,decide_eq_false_iff_not]
 trivial;trivial
theorem ZQ(hE:al P E)(o:P.follows .mixedOrders=true){f:Go.FuncId}{fn}(u:P.funcs[f]?=some fn)(z:(fn.name== "runtime.NumGoroutine")=false)(q:fn.body.isSome=true) {ins a} (w:Nat.ble (ins.length+ ([]:List Ty).length) fn.ntmps=true) {l} {n:List UInt8->List UInt8->Option (List (List UInt8))} (B:Ej P l .aJ n) {k i m} {sep} (j:CD k t1 t2 l i p sep (pE m (bd fn))=true) (h:Hx m (bd fn)=true) {body:cR T.b->List UInt8->(cR T.b->Option (ax a))->iI (ax a) X->Option (ax a)} (A:t1≠t2) (h1:t1<T.N) (h2:t2<T.N) (b:qp P E [.aJ] [p] (D8 (pE m (bd fn))) (Dt (pE m (bd fn))) [] [] T F X body) (v:∀d k sl,cA (mk T d).a k=some sl->k≠t1/\k≠t2) {g} (heq:∀x y,xP E (bT.b (R:=ax a)) (Eu E .aJ (.tmp k) (λ s=>n s sep) T X body i) m (bd fn) (uN fn.ntmps ins [] x y) (xj E false fn.results.toList a)=g x y):jf P f ⟨ins,[],a,g,false⟩:=by
 have⟨c,t⟩:=gE.1 q;have r:bd fn=c:=by grind[bd]
 rw[r]at j h b heq;refine TO hE u z t (Re hE o m c ?_ h) w heq;have⟨H,K,I,C,G,L,J,D,e⟩:=Xl j;rw[e];exact VU hE rfl B b A h1 h2 v
end
end Go.Abs
namespace Go.Rs
open Go.Conc Go.Proofs Go.Sort
abbrev TP:=Tryz.prog
instance Bf:ck:= ⟨λ f=>eb f 147,3⟩
structure Ar where
 a:Nat
 e:Nat
 f:Nat
 l:Nat
 i:Nat
 d:Nat
 b:Nat
 c:Nat
 g:b2
 k:b2
 h:b2
 j:List gk
def aQ(b:Nat):Value:= .pointer (some ⟨b,0,none⟩)
def cX(b:Nat):Value:= .chan (some b)
def rz:Code->Code| .block _ b=>b|c=>c
def zy:Code->Code| .loop b=>b|c=>c
def m1:=bX (bX (bX (Af TP 147)))
def mB:=zy (rz (bX (gY m1)))
def yI:=bX m1
section
variable(A:Ar)
def ye:= [A.g,A.k,A.h,aQ A.f,aQ A.l,aQ A.i,.slice none 0 0,aQ A.a,aQ A.e,aQ A.d,df,df,cX A.b,cX A.c]
def CW:=GG 147 (ye A++hq 16 df) [.code m1] [] A.j
def LH(j:Int)(a b c d:b2):=GG 147 (ye A++ [.int .i64 j,a,b,c,d]++hq 11 df) [.code mB,.inLoop mB,.inBlock 0,.code yI] [] A.j
theorem agR:dR TP true 7 (CW A)=LH A 0 df df df undef:=by rfl
def gA(j:Int)(a b c d:b2):=dR TP true 59 (LH A j a b c d)
def jW(j:Int)(s:Int)(a b c d:b2):=aK (gA A j a b c d) (.int .u64 s)
def gC(a b c d:b2):=dR TP true 52 (jW A 0 4294967296 a b c d)
def gR(a b c d:b2):=aK (gC A a b c d) (.pointer (some ⟨A.a,1,none⟩))
def J2(a b c d:b2):=aK (gR A a b c d) (.tuple #[])
def ub:Value:= .func (.func 162) #[] #[aQ A.a,aQ A.e,aQ A.f,aQ A.i,aQ A.d]
def r6:=bX (rz (gY (bX (bX mB))))
def r7:=bX (bX (bX mB))
def GO(j:Int)(d:b2):=GG 147 (ye A++ [.int .i64 j,.bool true,df,ub A,d]++hq 11 df) [.inRegion (ek r6) [1],.inBlock 1,.code r7,.inLoop mB,.inBlock 0,.code yI] [] A.j
def oK:Goroutine:={frame:={(default:gk)with fn:=TP.funcs.size,defers:= [{target:= .fn (.func 162) #[aQ A.a,aQ A.e,aQ A.f,aQ A.i,aQ A.d],args:= #[]}],mode:= .panicking [goexitEntry]},callers:= [],status:= .running,dying:=none}
end
theorem MD:iP TP 219 (u0 (Op.intArith .add) .u64 true):=ie (by kernel_rfl) (by kernel_rfl) (by kernel_rfl)
theorem Gb:iP TP 220 (u2 (.int .u64)):=ie (by kernel_rfl) (by kernel_rfl) (by kernel_rfl)
theorem ahh:iP TP 221 Extern.Atomic.storeT:=ie (by kernel_rfl) (by kernel_rfl) (by kernel_rfl)
theorem OT:iP TP 222 (z6 (.int .u64)):=ie (by kernel_rfl) (by kernel_rfl) (by kernel_rfl)
theorem aak:iP TP 195 (j2 .read):=ie (by kernel_rfl) (by kernel_rfl) (by kernel_rfl)
theorem ZU:iP TP 203 (j2 .write):=ie (by kernel_rfl) (by kernel_rfl) (by kernel_rfl)
theorem Yr:iP TP 187 (j2 .releaseMerge):=ie (by kernel_rfl) (by kernel_rfl) (by kernel_rfl)
theorem SR:iP TP 200 (j2 .acquire):=ie (by kernel_rfl) (by kernel_rfl) (by kernel_rfl)
theorem agW:iP TP 199 Extern.Sync.semrelease:=ie (by kernel_rfl) (by kernel_rfl) (by kernel_rfl)
theorem Qx:iP TP 204 Extern.Sync.semacquire:=ie (by kernel_rfl) (by kernel_rfl) (by kernel_rfl)
theorem WZ(A)(a b c d):cP (gA A 0 a b c d) 219 #[aQ A.a,.int .u64 4294967296]:=ac (by kernel_rfl)
theorem PZ(A)(a b c d):Ch TP true 59 0 1 (LH A 0 a b c d):=λ w=>by kernel_rfl
theorem Tj(A)(a b c d):Ch TP true 59 0 1 (LH A 1 a b c d):=λ w=>by kernel_rfl
theorem Uj(A)(a b c d):cP (gA A 1 a b c d) 219 #[aQ A.a,.int .u64 4294967296]:=ac (by kernel_rfl)
theorem Oj(A)(a b c d):Ch TP true 59 0 1 (LH A 2 a b c d):=λ w=>by kernel_rfl
theorem acp(A)(a b c d):cP (gA A 2 a b c d) 219 #[aQ A.a,.int .u64 4294967296]:=ac (by kernel_rfl)
theorem mC(A)(a b c d):Ch TP true 52 1 1 (jW A 0 4294967296 a b c d):=λ w=>by kernel_rfl
theorem mR(A)(a b c d):fP TP true 44 1 0 (J2 A a b c d) (GO A 0 d):=λ w=>by kernel_rfl
theorem ZM(A)(a b c d):fP TP true 92 1 0 (jW A 1 8589934592 a b c d) (GO A 1 d):=λ w=>by kernel_rfl
theorem U4(A)(a b c d):fP TP true 92 1 0 (jW A 2 12884901888 a b c d) (GO A 2 d):=λ w=>by kernel_rfl
theorem Ir(A)(j)(d)(w):dr TP true (GO A j d) w= .spawn (aK (GO A j d) df) (oK A) w:=by kernel_rfl
theorem mL0(A)(d):fP TP true 7 0 0 (aK (GO A 0 d) df) (LH A 1 (.bool true) df (ub A) (.int .i64 1)):=λ w=>by kernel_rfl
theorem Ub(A)(d):fP TP true 7 0 0 (aK (GO A 1 d) df) (LH A 2 (.bool true) df (ub A) (.int .i64 2)):=λ w=>by kernel_rfl
def CN:Op->iA| .convert s _ _=>s|_=>0
def Mt:Op->iA| .convert _ s _=>s|_=>0
def Qb:Op->eV| .convert _ _ x=>x|_=> .const df
def ptT:Option oj->iA|some (.pointer t)=>t|_=>0
theorem zk{P main w u g a}(h:(Du g,(bj g).op,(bY g).eval (Qb (bj g).op),P.underlying (CN (bj g).op),P.underlying (Mt (bj g).op),(P.info? (ptT (P.underlying (CN (bj g).op)))).map (λ i=>decide (i.size=0)))=(Bn g,.convert (CN (bj g).op) (Mt (bj g).op) (Qb (bj g).op),.pointer (some a),some (.pointer (ptT (P.underlying (CN (bj g).op)))),some .unsafePointer,some false))(b:w.cell? a=some u):dr P main g w= .go (aK g (.pointer (some a))) w #[]:=dh.p (ao (congrArg (·.1) h)) (congrArg (·.2.1) h) (congrArg (·.2.2.1) h) (congrArg (·.2.2.2.1) h) (congrArg (·.2.2.2.2.1) h) (congrArg (·.2.2.2.2.2) h) b
theorem Wv(A)(a b c d)(w)(st e)(h:ba A.a w st e):dr TP true (gC A a b c d) w= .go (gR A a b c d) w #[]:=zk (by kernel_rfl) (Ap h)
theorem Zn(A)(a b c d):cP (gR A a b c d) 195 #[.pointer (some ⟨A.a,1,none⟩)]:=ac (by kernel_rfl)
def JW(a:Nat)(w:dk):=∃st b,ba a w st b
def ta(A:Ar)(j:Nat)(d:Nat)(g:ea):=d=1/\∃a b c e,g=gA A j a b c e
def rT(A:Ar)(d:Nat)(g:ea):=d=1/\∃a b c e,g=gR A a b c e
def rB(A:Ar)(j:Nat)(d:Nat)(g:ea):=d=0/\∃e,g=GO A j e
theorem aeM{P main J Stop k d d' g g'}(h1:∀w,jo P main k g w=jl P main k g w)(h2:gJ P main k g=true)(h3:tI P main k d g=d')(h4:dR P main k g=g')(a:Stop d' g'):bM P main J d g Stop:= ⟨qI h2,k,by have:=A6 (J:=J) (Stop:=Stop) (k:=k) (n:=0) (d:=d) h1 h2 (by rw[h3,h4];exact a);simpa using this⟩
theorem ai7{P main J Stop k d d' g g'}(h1:∀w,jo P main k g w=jl P main k g w)(h2:gJ P main k g=true)(h3:tI P main k d g=d')(h4:dR P main k g=g')(b:bM P main J d' g' Stop):bM P main J d g Stop:= ⟨qI h2,have⟨_,n,a⟩:=b;⟨k+n,A6 h1 h2 (by rw[h3,h4];exact a)⟩⟩
theorem zn{P main J Stop d g g'}(a:g.status= .running)(h:∀w,J w->dr P main g w= .go g' w #[])(e:bM P main J d g' Stop):bM P main J d g Stop:= ⟨a,have⟨c,n,b⟩:=e;⟨n+1,Uv a h c b⟩⟩
section
variable{P:Program}{main:Bool}{J:World->Prop}{Stop:Nat->Goroutine->Prop}{k d d':Nat}{g g':Goroutine}
theorem Ch.b(h:Ch P main k d d' g)(h4:dR P main k g=g')(a:Stop d' g'):bM P main J d g Stop:=aeM h.t h.m h.c h4 a
theorem Ch.a(h:Ch P main k d d' g)(h4:dR P main k g=g')(a:bM P main J d' g' Stop):bM P main J d g Stop:=ai7 h.t h.m h.c h4 a
theorem fP.b(h:fP P main k d d' g g')(a:Stop d' g'):bM P main J d g Stop:=h.c.b h.e a
theorem fP.a(h:fP P main k d d' g g')(a:bM P main J d' g' Stop):bM P main J d g Stop:=h.c.a h.e a
end
theorem xu{P main}:∀{k:Nat}{g:ea},gJ P main k g=true->gJ P main 0 (dR P main k g)=true|0,g,h=>h|k+1,g,h=>by simp[gJ,eg]at h;exact xu (k:=k) (g:=lO P main g) h.2
structure CE(P:ew)(main:Bool)(k d:Nat)(g:ea):Prop where
 c:Ch P main k d 0 g
 s:∀w,dr P main (dR P main k g) w= .go (lO P main (dR P main k g)) w
 f:(lO P main (dR P main k g)).status= .finished
theorem CE.a{P main J k d g}(h:CE P main k d g):bM P main J d g gM:=by refine⟨qI h.c.m,k+1,A6 h.c.t h.c.m ?_⟩;rw[h.c.c];exact .inr ⟨qI (k:=0) (xu h.c.m),_,#[],λ e a=>by simp at a,λ w _=>h.s w,.inr h.f,h.f,rfl⟩
theorem aeT(A)(a b c d):bM TP true (JW A.a) 0 (LH A 0 a b c d) (ta A 0):=Ch.b (PZ A a b c d) rfl ⟨rfl,a,b,c,d,rfl⟩
theorem aik(A)(a b c d):bM TP true (JW A.a) 0 (LH A 1 a b c d) (ta A 1):=Ch.b (Tj A a b c d) rfl ⟨rfl,a,b,c,d,rfl⟩
theorem aef(A)(a b c d):bM TP true (JW A.a) 0 (LH A 2 a b c d) (ta A 2):=Ch.b (Oj A a b c d) rfl ⟨rfl,a,b,c,d,rfl⟩
theorem ahj(A)(a b c d):bM TP true (JW A.a) 1 (J2 A a b c d) (rB A 0):=fP.b (mR A a b c d) ⟨rfl,d,rfl⟩
theorem aip(A)(a b c d):bM TP true (JW A.a) 1 (jW A 0 4294967296 a b c d) (rT A):=Ch.a (mC A a b c d) rfl (zn (g:=gC A a b c d) (qI (k:=0) (have:=(mC A a b c d).m;xu this)) (λ w⟨st,e,h⟩=>Wv A a b c d w st e h) ⟨rfl,0,rfl,a,b,c,d,rfl⟩)
theorem ZB(A)(a b c d):bM TP true (JW A.a) 1 (jW A 1 8589934592 a b c d) (rB A 1):=fP.b (ZM A a b c d) ⟨rfl,d,rfl⟩
theorem abI(A)(a b c d):bM TP true (JW A.a) 1 (jW A 2 12884901888 a b c d) (rB A 2):=fP.b (U4 A a b c d) ⟨rfl,d,rfl⟩
theorem ajh(A)(d):bM TP true (JW A.a) 0 (aK (GO A 0 d) df) (ta A 1):=fP.a (mL0 A d) (aik A _ _ _ _)
theorem VA(A)(d):bM TP true (JW A.a) 0 (aK (GO A 1 d) df) (ta A 2):=fP.a (Ub A d) (aef A _ _ _ _)
theorem Gq{k g main}(h:gJ TP main k g=true):(dR TP main k g).status= .running:=qI (k:=0) (xu h)
theorem HR(A)(j)(a b c d)(e:cP (gA A j a b c d) 219 #[aQ A.a,.int .u64 4294967296])(x y)(f:IntKind.u64.wrap (x+4294967296)=y)(w)(g)(h:ba A.a w x g):dr TP true (gA A j a b c d) w= .go (jW A j y a b c d) (w.setCell (bg A.a) (.int .u64 y)) (gK (bg A.a)):=by have:=cP.p (P:=TP) (main:=true) (w:=w) (ad:=bg A.a) (x:=x) e MD (ox h) (AG h);rw[f]at this;exact this
theorem ZG(A)(a b c e):(gA A 0 a b c e).status= .running/\(∀w,ba A.a w 0 0->dr TP true (gA A 0 a b c e) w= .go (jW A 0 4294967296 a b c e) (w.setCell (bg A.a) (.int .u64 4294967296)) (gK (bg A.a)))/\bM TP true (JW A.a) 1 (jW A 0 4294967296 a b c e) (rT A):= ⟨Gq (PZ A a b c e).m,λ w h=>HR A 0 a b c e (WZ A a b c e) 0 4294967296 (by decide) w 0 h,aip A a b c e⟩
theorem YW(A)(a b c e):(gA A 1 a b c e).status= .running/\(∀w,ba A.a w 4294967296 0->dr TP true (gA A 1 a b c e) w= .go (jW A 1 8589934592 a b c e) (w.setCell (bg A.a) (.int .u64 8589934592)) (gK (bg A.a)))/\bM TP true (JW A.a) 1 (jW A 1 8589934592 a b c e) (rB A 1):= ⟨Gq (Tj A a b c e).m,λ w h=>HR A 1 a b c e (Uj A a b c e) 4294967296 8589934592 (by decide) w 0 h,ZB A a b c e⟩
theorem Zm(A)(a b c e):(gA A 2 a b c e).status= .running/\(∀w,ba A.a w 8589934592 0->dr TP true (gA A 2 a b c e) w= .go (jW A 2 12884901888 a b c e) (w.setCell (bg A.a) (.int .u64 12884901888)) (gK (bg A.a)))/\bM TP true (JW A.a) 1 (jW A 2 12884901888 a b c e) (rB A 2):= ⟨Gq (Oj A a b c e).m,λ w h=>HR A 2 a b c e (acp A a b c e) 8589934592 12884901888 (by decide) w 0 h,abI A a b c e⟩
theorem XP(A):∀d g,rT A d g->d=1/\g.status= .running/\∃g',(∀w,dr TP true g w= .go g' w (fp (.read (dL A.a))))/\bM TP true (JW A.a) 1 g' (rB A 0):=by rintro d g⟨rfl,a,b,c,e,rfl⟩;exact⟨rfl,rfl,J2 A a b c e,λ w=>cP.b .read (by simp) (Zn A a b c e) aak rfl,ahj A a b c e⟩
section
variable(A:Ar)
def Qg:Value:= .func (.func 164) #[] #[aQ A.l,aQ A.e,aQ A.a,aQ A.d]
def oC:=GG 147 (ye A++ [.int .i64 3,.bool false,df,ub A,.int .i64 3,Qg A]++hq 10 df) [.inRegion (ek (gY yI)) [1],.code (bX yI)] [] A.j
def AD:Goroutine:={frame:={(default:gk)with fn:=TP.funcs.size,defers:= [{target:= .fn (.func 164) #[aQ A.l,aQ A.e,aQ A.a,aQ A.d],args:= #[]}],mode:= .panicking [goexitEntry]},callers:= [],status:= .running,dying:=none}
end
theorem mL2(A)(d):fP TP true 7 0 0 (aK (GO A 2 d) df) (LH A 3 (.bool true) df (ub A) (.int .i64 3)):=λ w=>by kernel_rfl
theorem mX(A):fP TP true 10 0 0 (LH A 3 (.bool true) df (ub A) (.int .i64 3)) (oC A):=λ w=>by kernel_rfl
theorem ag4(A)(w):dr TP true (oC A) w= .spawn (aK (oC A) df) (AD A) w:=by kernel_rfl
def vD(A:Ar)(d:Nat)(g:ea):=d=0/\g=oC A
theorem UU(A)(d):bM TP true (JW A.a) 0 (aK (GO A 2 d) df) (vD A):=fP.a (mL2 A d) (fP.b (mX A) ⟨rfl,rfl⟩)
section
variable(A:Ar)
def m9:=bX yI
def J7:=gY (bX m9)
def lP:=bX (bX m9)
def SC(o v:b2):= [A.g,A.k,A.h,aQ A.f,aQ A.l,aQ A.i,.slice none 0 0,aQ A.a,aQ A.e,aQ A.d,o,v,cX A.b,cX A.c,.int .i64 3,.bool false,df,ub A,.int .i64 3,Qg A]
def GL:=GG 147 (SC A (.slice none 0 0) df++hq 10 df) [.inRegion (ek (gY J7)) [0],.code (bX J7),.code lP] [] A.j
end
theorem adY(A)(w):jo TP true 8 (aK (oC A) df) w=jl TP true 8 (aK (oC A) df) w:=by kernel_rfl
theorem afR(A):gJ TP true 8 (aK (oC A) df)=true:=by kernel_rfl
theorem ab3(A):dR TP true 8 (aK (oC A) df)=GL A:=by kernel_rfl
section
variable(A:Ar)
def U3:=Af TP 162
def w1:=bX U3
def uU:List Deferred:= [{target:= .fn (.func 163) #[],args:= #[aQ A.a]}]
def zc:=(dR TP false 7 (oK A)).callers.headD default
def WL:=dR TP false 7 (oK A)
theorem aeU(w):jo TP false 7 (oK A) w=jl TP false 7 (oK A) w:=by kernel_rfl
theorem Sn:gJ TP false 7 (oK A)=true:=by kernel_rfl
variable(T:Array Value)
def WX:Goroutine:={frame:={fn:=162,tmps:=T,todo:= [],defers:=uU A,mode:= .run,kind:=(WL A).frame.kind},callers:= [zc A],status:= .running,dying:=none}
def WC:=dR TP false 16 (WX A T)
def WR:=aK (WC A T) (.pointer (some ⟨A.a,0,none⟩))
theorem Zi:gJ TP false 16 (WX A T)=true:=by kernel_rfl
theorem Wj(w)(st a)(h:ba A.a w st a):dr TP false (WC A T) w= .go (WR A T) w #[]:=zk (by kernel_rfl) (ox h)
theorem ahN:cP (WR A T) 187 #[.pointer (some ⟨A.a,0,none⟩)]:=ac (by kernel_rfl)
def WA:=dR TP false 38 (aK (WR A T) df)
theorem wA:Ch TP false 38 0 1 (aK (WR A T) df):=λ w=>by kernel_rfl
theorem aiJ:cP (WA A T) 219 #[aQ A.a,.int .u64 18446744069414584320]:=ac (by kernel_rfl)
end
def iM(P:ew)(main:Bool)(g:ea):Goroutine:=match dr P main g lT with| .comm a _ _ _ _ _=>a|_=>g
def zN:Value:= .agg (hP 12 (.int .i64 0))
def zR:Value:= .slice none 0 0
def pZ(r:Nat):Deferred:={target:= .collected r,args:= #[]}
section
variable(A:Ar)(f:Nat->Value)(rs:List Nat)
def wB:=zy (rz (bX w1))
def w2:=bX wB
def uW:=rz (bX w2)
def w3:=gY uW
def w4:=gY (bX uW)
def w5:=gY (bX (bX uW))
def w9:=bX (bX (bX uW))
def wF:= [f 0,aQ A.e,aQ A.f,aQ A.i,aQ A.d,f 5,f 6,f 7,f 8,cX A.b,f 10,f 11,f 12,f 13,f 14,f 15,f 16,f 17,f 18,f 19,f 20,f 21,f 22,f 23,f 24,f 25,f 26,f 27,f 28]
def WG(todo:List Item):Goroutine:={frame:={fn:=162,tmps:= ⟨wF A f⟩,todo,defers:=rs.map pZ++uU A,mode:= .run,kind:=(WL A).frame.kind},callers:= [zc A],status:= .running,dying:=none}
def WH:=WG A f rs [.inRegion (ek (gY wB)) [0,1],.code (bX wB),.inLoop wB,.inBlock 0]
def WS:=WG A f rs [.inRegion (ek w9) [2],.inBlock 1,.inLoop wB,.inBlock 0]
end
theorem abR(A)(f)(rs)(w):dr TP false (WH A f rs) w= .comm (iM TP false (WH A f rs)) #[rcase A.b zN] true (.recv true) w #[]:=by kernel_rfl
theorem ahL(A)(f)(rs):(iM TP false (WH A f rs)).frame=(WH A f rs).frame/\(iM TP false (WH A f rs)).callers=(WH A f rs).callers/\(iM TP false (WH A f rs)).dying=(WH A f rs).dying:= ⟨by kernel_rfl,by kernel_rfl,by kernel_rfl⟩
theorem acP(A)(f)(rs)(h:f 27=cX A.c)(w):dr TP false (WS A f rs) w= .comm (iM TP false (WS A f rs)) #[scase A.c (f 28) (.tuple #[])] true .send w #[]:=by
 have:dr TP false (WS A f rs) w= .comm (iM TP false (WS A f rs)) #[{chan:=f 27,send:=some (f 28),zero:= .tuple #[]}] true .send w #[]:=by kernel_rfl
 rw[this,h];rfl
def WV(A:Ar)(f:Nat->b2)(rs:List Nat)(v:b2):=fb (iM TP false (WH A f rs)) v
def WT(A:Ar)(f:Nat->b2)(rs:List Nat):=fb (iM TP false (WS A f rs)) df
section
variable{k:Nat}{t:TypeId}{v:Value}{a:Addr}
structure oD(g g0:ea):Prop where
 d:g.frame=g0.frame
 b:g.callers=g0.callers
 e:g.dying=g0.dying
 h:g.status= .running
def qD(P:ew)(main:Bool):Nat->ea->Bool|0,_=>true|k+1,g=>(vf P main g).isEmpty&&qD P main k (lO P main g)
theorem ey.l(p)(w):ey p p w w #[]:= ⟨ei _,λ _ _ _=>rfl,λ _ h=> .inl h,λ _ h=> .inl h,λ _ h=>h,λ _ h=>h,by grind,by grind,rfl,rfl,rfl⟩
section
variable{P:Program}{main:Bool}{g g0 g':Goroutine}{p p':ai}{w w':World}{Stop Stop':ai->Goroutine->World->Prop}
theorem oD.c(h:g.status= .running):oD g g:= ⟨rfl,rfl,rfl,h⟩
theorem oD.f(h:oD g g0)(w):dr P main g w=dr P main g0 w:=stepG_same h.d h.b h.e w
theorem qj(e:g.status= .running)(h:∀w1,bO p w w1->∃g' w' es p',dr P main g w1= .go g' w' es/\ey p p' w1 w' es/\bG P main p' g' w' Stop):bG P main p g w Stop:= ⟨e,du.b e λ w1 f=>let⟨g',w',es,_,a,b,c,r,d⟩:=h _ f; ⟨_,_,_,_,r,a,c,b,d⟩⟩
theorem bG.b(h:bG P main p g w Stop)(a:bO p w w'):bG P main p g w' Stop:= ⟨h.1,let⟨r,x⟩:=h.2; ⟨r,x.c a⟩⟩
theorem bG.d(h:bG P main p g w Stop)(k:∀p g w,Stop p g w->bG P main p g w Stop'):bG P main p g w Stop':= ⟨h.1,let⟨_,b⟩:=h.2;b.f (λ p g w a=>(k p g w a).2) λ p g w a=>(k p g w a).1⟩
theorem bG.c(h:bG P main p g w Stop)(k:∀p g w,Stop p g w->Stop' p g w):bG P main p g w Stop':= ⟨h.1,let⟨r,x⟩:=h.2; ⟨r,x.a k⟩⟩
theorem nQ(a:g.status= .running)(h:∀w1,bO p w w1->Stop p g w1):bG P main p g w Stop:= ⟨a,.eM,h⟩
theorem zU:∀{k:Nat}{g g':ea},(∀w,jo P main k g w=jl P main k g w)->gJ P main k g=true->qD P main k g=true->dR P main k g=g'->bG P main p g' w Stop->bG P main p g w Stop
 |0,g,_,_,_,_,b,d=>by have j:g=_:=b;grind|k+1,g,g',i,a,c,b,d=>by
  have e:∀w,dr P main g w= .go (lO P main g) w (vf P main g):=λ w=>by simp_all[jo,jl,List.cons.injEq]
  simp[gJ,qD,eg,qO]at a c;exact qj (AM a.1.1) λ w1 f=> ⟨_,_,_,_,e _,by grind[ey.l],(zU (k:=k) (λ w=>by simp_all[jo,jl,List.cons.injEq]) a.2 c.2 b d).b f⟩
def Cq(P:ew)(main:Bool)(k:Nat)(g g':ea):=∀w,(jo P main k g w,gJ P main k g,qD P main k g,dR P main k g)=(jl P main k g w,true,true,g')
theorem jb(h:Cq P main k g g')(a:bG P main p g' w Stop):bG P main p g w Stop:=zU (λ w=>congrArg (·.1) (h w)) (congrArg (·.2.1) (h lT)) (congrArg (·.2.2.1) (h lT)) (congrArg (·.2.2.2) (h lT)) a
theorem GN(a:g.status= .running)(h:∀w,dr P main g w= .go g' w)(b:bG P main p g' w Stop):bG P main p g w Stop:=qj a λ w1 c=> ⟨_,_,_,_,h _,ey.l p _,b.b c⟩
theorem Yp(c:(eH t).run P w= .ok false w)(b:w.cell? a=some v):(hQ t (.pointer (some a))).run P w= .ok v w:=by simp_all[hQ,hh,loadVar]
theorem Um(d:(eH t).run P w= .ok false w)(c:(eH t).events P w #[]= #[])(b:w.cell? a=some v):(hQ t (.pointer (some a))).events P w #[]= #[⟨.cell a,false,false⟩]:=by simp_all[hQ,hh,loadVar,nz]
theorem rR{o t x b v}(h:dh g o)(s:g.status= .running)(i:o.op= .load t x)(m:(bY g).eval x=aQ b)(k:∀w,(eH t).run P w= .ok false w)(q:∀w,(eH t).events P w #[]= #[])(j:p.a b)(n:∃c ty fr,w.heap[b]?=some (.cells c ty fr)/\c[0]?=some v)(y:bG P main p (aK g v) w Stop):bG P main p g w Stop:=by
 have⟨c,ty,fr,z,A⟩:=n;refine qj s λ w1 l=>?_;have f:w1.cell? ⟨b,0,none⟩=some v:=by have:=l.e b j;grind[World.cell?]
 have u:(ef (bY g).eval o).run P w1= .ok (.value v) w1:=by unfold ef;simp[i,m,aQ];simp[Yp (k w1) f]
 refine⟨_,_,_,p,h.b u,?_,y.b l⟩;refine{(ey.l p w1) with d:=λ x a=>?_}
 haveI:aW:= ⟨0,λ _=>true,λ _ _=>False,λ _ _ _ h=>h.elim⟩;revert x;refine qv (p:=iF p) λ x a=>?_;have r:(ef (bY g).eval o).events P w1 #[]= #[⟨.cell ⟨b,0,none⟩,false,false⟩]:=by unfold ef;simp[i,m,aQ];simp[Um (k w1) (q w1) f]
 rw[r]at a;simp at a;subst a;exact⟨j,λ h=>(by cases h),rfl⟩
end
variable{P:Program}{main:Bool}{g g':Goroutine}{o:Oper}{p p':ai}{w w':World}{Stop:ai->Goroutine->World->Prop}
variable{b:Nat}
theorem dh.f(h:dh g o)(a:(ef (bY g).eval o).run P w= .ok .skip w'):dr P main g w= .go (aK g df) w' (listed P g.frame.fn (bY g) o w):=by rw[h.c,stepG_none h.k h.a (BR h.h) a,h.d]
theorem xp(h:∀e∈(ef (bY g).eval o).events P w #[],iF p e):∀e∈listed P g.frame.fn (bY g) o w,iF p e:=by haveI:aW:= ⟨0,λ _=>true,λ _ _=>False,λ _ _ _ h=>h.elim⟩;exact qv (p:=iF p) h
theorem ago{b k}(h:p.a b):iF p ⟨.cell ⟨b,k,none⟩,false,false⟩:=⟨h,λ h=>(by cases h),rfl⟩
theorem RA{b k}(h:p.a b)(a:p.b b):iF p ⟨.cell ⟨b,k,none⟩,true,false⟩:=⟨h,λ _=>a,rfl⟩
theorem N9(b k):∀n i a es,(∀j,j<n->(w.cell? ⟨b,k+ (i+j),none⟩).isSome=true)->∀e∈(hN ⟨b,k,none⟩ i n a).events P w es,e∈es\/∃j,e= ⟨.cell ⟨b,j,none⟩,false,false⟩|0,_,_,_,_=>λ e h=> .inl (by trivial)|n+1,i,a,es,d=>λ e h=>by have⟨u,c⟩:=gE.1 (d 0 (by omega));simp[nL]at c;simp[hN,gl,k6,nz,c,run_load,hJ]at h;rcases N9 b k n (i+1) (a.push u) _ (λ j f=>by grind) e h with h|h;all_goals grind
theorem Lo(b k):∀vs i w es,(∀j,j<vs.length->(w.cell? ⟨b,k+ (i+j),none⟩).isSome=true/\w.frozen? ⟨b,k+ (i+j),none⟩=false)->(∀v∈vs,v.oneCell'=true)->∀e∈(hD ⟨b,k,none⟩ vs i).events P w es,e∈es\/∃j,e= ⟨.cell ⟨b,j,none⟩,true,false⟩| [],_,_,_,_,_=>λ e h=> .inl (by trivial)|v::rest,i,w,es,hc,h1=>λ e h=>by have a:=h1 v (by simp);have⟨l,g⟩:=hc 0 (by simp);have⟨u,f⟩:=gE.1 l;simp[nL]at f g;have d:=run_store P w ⟨b,k+i,none⟩ v .plain a;have c:=nb P w es ⟨b,k+i,none⟩ v .plain a;simp[f,g,mo,if_false]at d c;simp[hD,gl,k6,d,c,hJ]at h;rcases Lo b k rest (i+1) (w.setCell ⟨b,k+i,none⟩ v) _ (λ j n=>by have:=hc (j+1) (by grind);rw[show i+ (j+1)=i+1+j by omega]at this;refine⟨?_,?_⟩;have m:=World.cell?_setCells_out b [v] (k+i) w ⟨b,k+ (i+1+j),none⟩ (λ _ _=> .inr (by grind));grind[kL];simp_all) (λ v a=>h1 v (by grind)) e h with h|h;all_goals grind
theorem Fo(b):∀vs k(w:dk),(w.setCells b k vs).heap.size=w.heap.size| [],_,_=>rfl|v::r,k,w=>by rw[kL,Fo b r];simp
theorem LF(b):∀vs k(w:dk)a,a≠b->(w.setCells b k vs).heap[a]?=w.heap[a]?| [],_,_,_,_=>rfl|v::r,k,w,a,h=>by rw[kL,LF b r _ _ a h,hF _ _ _ _ h]
theorem Qp(b):∀vs k(w:dk),(w.setCells b k vs).os=w.os/\(w.setCells b k vs).output=w.output/\(w.setCells b k vs).tape=w.tape| [],_,_=> ⟨rfl,rfl,rfl⟩|v::r,k,w=>Qp b r _ _
theorem Mk(b)(ty):∀vs k(w:dk)c,w.heap[b]?=some (.cells c ty (0,0))->k+vs.length<=c.size->∃c',(w.setCells b k vs).heap[b]?=some (.cells c' ty (0,0))/\c'.size=c.size/\(∀j,j<vs.length->c'[k+j]?=vs[j]?)/\∀j,j<k->c'[j]?=c[j]?
 | [],k,w,c,h,_=> ⟨c,h,rfl,λ j d=>by trivial,λ _ _=>rfl⟩|v::r,k,w,c,h,hl=>by simp[q6]at hl;have⟨c',e,f,g,i⟩:=Mk b ty r (k+1) (w.setCell ⟨b,k,none⟩ v) _ (mm w b k c ty v h) (by grind);grind[Array.size_setIfInBounds,kL,Array.getElem?_setIfInBounds_self_of_lt,q6]
structure O7(P:ew)(t:iA)(n:Nat):Prop where
 u:∃d,P.underlying t=some d/\d.isRow=true
 f:(P.info? t).map (·.size)=some n
 e:∀w es,(eH t).events P w es=es
 a:∀w es,(en t).events P w es=es
 h:∀w,(eH t).run P w= .ok true w
 c:∀w,(en t).run P w= .ok n w
theorem ey.q{es}(h:∀e∈es,iF p e)(w):ey p p w w es:={ey.l p w with d:=h}
theorem T5{x}{cs:List b2}(h:dh g o)(u:g.status= .running)(i:o.op= .load t x)(m:(bY g).eval x= .pointer (some ⟨b,k,none⟩))(f:O7 P t cs.length)(A:p.a b)(n:∃c ty fr,w.heap[b]?=some (.cells c ty fr)/\∀j,j<cs.length->c[k+j]?=cs[j]?)(B:bG P main p (aK g (.agg cs.toArray)) w Stop):bG P main p g w Stop:=by
 have⟨c,ty,fr,q,C⟩:=n;have⟨d,r,s⟩:=f.u;refine qj u λ w1 l=>?_;have D:∀j,w1.cell? ⟨b,j,none⟩=c[j]?:=λ j=>hU w1 b j c ty fr (by rw[l.e b A,q]);have z:(ef (bY g).eval o).run P w1= .ok (.value (.agg cs.toArray)) w1:=by unfold ef;simp[i,m];simp[run_loadAt_mid w1 b k t cs d (λ j v F=>by grind) r s f.f]
 refine⟨_,_,_,p,h.b z,ey.q (xp λ e a=>?_) w1,B.b l⟩;unfold ef at a;simp[i,m]at a;simp[gl,hQ,hh,loadVar,loadCells,f.h,f.c,f.e,f.a,rV,k7,mr,hJ,if_true,p1]at a;have a:e∈(hN ⟨b,k,none⟩ 0 cs.length #[]).events P w1 #[]:=by cases y:(hN ⟨b,k,none⟩ 0 cs.length #[]).run P w1<;>simpa[y]using a
 rcases N9 b k cs.length 0 #[] #[] (λ j E=>by grind) e a with h| ⟨j,rfl⟩;all_goals grind[ago]
theorem TU{x y v n}(h:dh g o)(C:g.status= .running)(F:o.op= .store t x y)(L:(bY g).eval x=aQ b)(M:(bY g).eval y=v)(N:∀w,(en t).run P w= .ok n w)(B:∀w es,(en t).events P w es=es)(D:v.cells.size=n)(d:∀u∈v.cells.toList,u.oneCell'=true)(H:p.a b)(K:p.b b)(s:∃c ty,w.heap[b]?=some (.cells c ty (0,0))/\c.size=n)(I:∀w1,bO p w w1->∀w',(∀a,a≠b->w'.heap[a]?=w1.heap[a]?)->(∃ty,w'.heap[b]?=some (.cells v.cells ty (0,0)))->w'.heap.size=w1.heap.size->bG P main p (aK g df) w' Stop):bG P main p g w Stop:=by
 have⟨c,ty,A,U⟩:=s;refine qj C λ w1 q=>?_;have i:w1.heap[b]?=some (.cells c ty (0,0)):=by rw[q.e b H,A]
 have V:∀j,w1.cell? ⟨b,j,none⟩=c[j]?:=λ j=>hU w1 b j c ty _ i;have W:v.cells.toList.length=n:=by omega
 have J:∀j,j<v.cells.toList.length->(w1.cell? ⟨b,0+ (0+j),none⟩).isSome=true/\w1.frozen? ⟨b,0+ (0+j),none⟩=false:=λ j k=>by grind[q7,ep]
 have m:=run_storeCells_cells (P:=P) b 0 v.cells.toList 0 w1 (λ j k=>by grind) (λ j k=>by grind) d;have G:(ef (bY g).eval o).run P w1= .ok .skip (w1.setCells b 0 v.cells.toList):=by simp_all[ef,aQ,k3,hh,lv]
 have⟨c',O,X,Y,_⟩:=Mk b ty v.cells.toList 0 w1 c i (by omega);have z:c'=v.cells:=by grind
 subst z;have l:=LF b v.cells.toList 0 w1;have⟨Q,R,S⟩:=Qp b v.cells.toList 0 w1;refine⟨_,_,_,p,h.f G,⟨by grind[Fo],λ a T E=>l a λ e=>E (e▸K),λ _ h=> .inl h,λ _ h=> .inl h,λ _ h=>h,λ _ h=>h,λ a d r=>absurd r d,xp λ e f=>?_,Q,R,S⟩,I w1 q _ l ⟨ty,O⟩ (Fo _ _ _ _)⟩;unfold ef at f;simp[F,L,M,aQ]at f;simp[gl,k3,hh,lv,N,B,rV,k7,mr,hJ,p1,D,ne_eq,not_true_eq_false,if_false,m]at f;rcases Lo b 0 v.cells.toList 0 w1 #[] J d e f with h| ⟨j,rfl⟩;all_goals grind[RA]
def ai.c(p:ai)(b:Nat):ai:= ⟨λ a=>p.a a\/a=b,λ a=>p.b a\/a=b⟩
theorem JU{c ty}(i:g.status= .running)(k:∀w,dr P main g w= .go (aK g (aQ w.heap.size)) {w with heap:=w.heap.push (.cells c ty (0,0))} #[])(j:∀w1,bO p w w1->bG P main (p.c w1.heap.size) (aK g (aQ w1.heap.size)) {w1 with heap:=w1.heap.push (.cells c ty (0,0))} Stop):bG P main p g w Stop:=by
 refine qj i λ w1 l=> ⟨_,_,_,p.c w1.heap.size,k w1,⟨by simp,λ a b _=>?_,λ a b=>?_,λ a b=>?_,λ a=> .inl,λ a=> .inl,λ a d f=> .inr (f.resolve_left d),λ e m=>by grind,rfl,rfl,rfl⟩,j w1 l⟩;grind
 ·obtain h|rfl:=b;all_goals grind
 ·obtain h|rfl:=b;all_goals grind
end
def sw(f:Nat->b2)(i:Nat)(v:b2):Nat->Value:=λ j=>bif eb j i then v else f j
def pb(x:b2)(b:Bool):Value:= .tuple #[x,.bool b]
section
variable(A:Ar)(f:Nat->Value)(rs:List Nat)(x:Value)
theorem wT:Cq TP false 5 (WT A f rs) (WH A f rs):=λ w=>by kernel_rfl
def wK:List Item:= [.inBlock 1,.inLoop wB,.inBlock 0]
def f3:=sw (sw (sw f 10 (pb x true)) 11 (.bool true)) 12 x
def AZ:=WG A (f3 f x) rs (.inRegion (ek w3) [1,2]:: .code (bX uW)::wK)
theorem wV:Cq TP false 9 (WV A f rs (pb x true)) (AZ A f rs x):=λ w=>by kernel_rfl
def Sy(T:Array b2):Goroutine:={frame:={fn:=162,tmps:=T,todo:= [],defers:=rs.map pZ++uU A,mode:= .run,kind:=(WL A).frame.kind},callers:= [zc A],status:= .running,dying:=none}
def ri(T:Array b2):Goroutine:={frame:={fn:=162,tmps:=T,todo:= [],defers:=rs.map pZ++uU A,mode:= .returning,kind:=(WL A).frame.kind},callers:= [zc A],status:= .running,dying:=none}
theorem af7(T)(w):dr TP false (Sy A rs T) w= .go (ri A rs T) w #[]:=by kernel_rfl
theorem wW:Cq TP false 5 (WV A f rs (pb x false)) (Sy A rs ⟨wF A (sw (sw f 10 (pb x false)) 11 (.bool false))⟩):=λ w=>by kernel_rfl
theorem aa6(w):dr TP false (AZ A f rs x) w= .go (aK (AZ A f rs x) (aQ w.heap.size)) {w with heap:=w.heap.push (.cells (hP 12 (.int .i64 0)) 149 (0,0))} #[]:=by kernel_rfl
variable(b c:Nat)
def WS2:=WG A (sw (f3 f x) 5 (aQ b)) rs (.inRegion (ek w3) [2]:: .code (bX uW)::wK)
theorem af3:aK (AZ A f rs x) (aQ b)=WS2 A f rs x b:=by kernel_rfl
def sk:Op->eV| .store _ x _=>x|_=> .const df
def tr:Op->eV| .store _ _ x=>x|_=> .const df
def iU:Op->eV| .load _ x=>x|_=> .const df
theorem agj:dh (WS2 A f rs x b) (bj (WS2 A f rs x b)):=ao (by kernel_rfl)
theorem ZC:(bj (WS2 A f rs x b)).op= .store 149 (sk (bj (WS2 A f rs x b)).op) (tr (bj (WS2 A f rs x b)).op):=by kernel_rfl
theorem af9:(bY (WS2 A f rs x b)).eval (sk (bj (WS2 A f rs x b)).op)=aQ b:=by kernel_rfl
theorem agh:(bY (WS2 A f rs x b)).eval (tr (bj (WS2 A f rs x b)).op)=x:=by kernel_rfl
def D4:=WG A (sw (f3 f x) 5 (aQ b)) rs (.inRegion (ek w4) [0]:: .code (bX (bX uW))::wK)
theorem Xe:Cq TP false 3 (aK (WS2 A f rs x b) df) (D4 A f rs x b):=λ w=>by kernel_rfl
theorem aeS(w):dr TP false (D4 A f rs x b) w= .go (aK (D4 A f rs x b) (aQ w.heap.size)) {w with heap:=w.heap.push (.cells #[.slice none 0 0] 228 (0,0))} #[]:=by kernel_rfl
def WP:=WG A (sw (sw (f3 f x) 5 (aQ b)) 6 (aQ c)) rs (.code w5:: .code w9::wK)
theorem wP:Cq TP false 2 (aK (D4 A f rs x b) (aQ c)) (WP A f rs x b c):=λ w=>by kernel_rfl
def W9:=WG A f rs (.code w9::wK)
def rS:=WG A f rs (.inRegion (ek w9) [0,1,2]::wK)
def tk:=WG A (sw f 27 (cX A.c)) rs (.inRegion (ek w9) [1,2]::wK)
theorem aez:Cq TP false 1 (W9 A f rs) (rS A f rs):=λ w=>by kernel_rfl
theorem aaT:dh (rS A f rs) (bj (rS A f rs)):=ao (by kernel_rfl)
theorem ZT:(bj (rS A f rs)).op= .load 254 (iU (bj (rS A f rs)).op):=by kernel_rfl
theorem ab2:(bY (rS A f rs)).eval (iU (bj (rS A f rs)).op)=aQ A.d:=by kernel_rfl
theorem aij:aK (rS A f rs) (cX A.c)=tk A f rs:=by kernel_rfl
theorem XW:dh (tk A f rs) (bj (tk A f rs)):=ao (by kernel_rfl)
theorem abd:(bj (tk A f rs)).op= .load 228 (iU (bj (tk A f rs)).op):=by kernel_rfl
theorem aa4:(bY (tk A f rs)).eval (iU (bj (tk A f rs)).op)=f 6:=by kernel_rfl
theorem aeo:aK (tk A f rs) x=WS A (sw (sw f 27 (cX A.c)) 28 x) rs:=by kernel_rfl
variable(T:Array Value)
def WY:=ri A [] T
def By:=lO TP false (WY A T)
theorem VH(w):dr TP false (WY A T) w= .go (By A T) w #[]:=by kernel_rfl
theorem wY:fP TP false 14 0 0 (By A T) (WC A T):=λ w=>by kernel_rfl
end
theorem wj(w):(eH 254).run TP w= .ok false w/\(eH 254).events TP w #[]= #[]:= ⟨by kernel_rfl,by kernel_rfl⟩
theorem vS(w):(eH 253).run TP w= .ok false w/\(eH 253).events TP w #[]= #[]:= ⟨by kernel_rfl,by kernel_rfl⟩
theorem Mi(w):(eH 228).run TP w= .ok false w/\(eH 228).events TP w #[]= #[]:= ⟨by kernel_rfl,by kernel_rfl⟩
def adN:Option oj->oj|some d=>d|none=> .string
theorem tt:O7 TP 149 12:= ⟨⟨adN (TP.underlying 149),by kernel_rfl,by kernel_rfl⟩,by kernel_rfl,λ w es=>by kernel_rfl,λ w es=>by kernel_rfl,λ w=>by kernel_rfl,λ w=>by kernel_rfl⟩
section
variable{rs:List Nat}{x:Value}{a:Nat}{o:Obj}
structure RD where
 A:Ar
 c:List b2
 d:Nat->Prop
 e:dk
 b:b2->List b2
namespace RD
variable(D:RD)
def gn(p:ai):=∀a,D.d a->p.a a/\¬p.b a
def dU(w:dk):=∀a,D.d a->w.heap[a]?=D.e.heap[a]?
def sa(x own:b2)(ob:Option Nat)(w:dk):=(D.b x= []/\own=zR/\ob=none)\/∃b off n c cells ty fr,own= .slice (some ⟨b,off,none⟩) n c/\ob=some b/\w.heap[b]?=some (.cells cells ty fr)/\(D.b x).length=n*27/\(∀j,j<n*27->cells[off+j]?=(D.b x)[j]?)/\¬D.d b
structure gZ(rs:List Nat)(p:ai)(w:dk):Prop where
 d:rs.Nodup
 b:∀r∈rs,p.a r/\p.b r/\w.heap[r]?=some (.deferred (some []))
def GZ(x:b2)(p:ai)(g:ea)(w:dk):=∃f rs c own a,gZ rs p w/\g=W9 D.A f rs/\f 6=aQ c/\p.a c/\(∃cs ty fr,w.heap[c]?=some (.cells cs ty fr)/\cs[0]?=some own)/\D.sa x own a w/\(∀b,a=some b->p.a b/\p.b b)/\D.gn p/\D.dU w
def AS(x:b2)(p:ai)(g:ea)(w:dk):=∃f rs a,oD g (WS D.A f rs)/\f 27=cX D.A.c/\D.sa x (f 28) a w/\(∀b,a=some b->p.a b/\p.b b)/\gZ rs p w/\D.gn p/\D.dU w
structure iO:Prop where
 k:∀a,D.d a->a<D.e.heap.size
 m:∀x∈D.c,∃cs,x= .agg cs/\cs.size=12/\∀u∈cs.toList,u.oneCell'=true
 l:D.d D.A.e/\∃cs ty fr,D.e.heap[D.A.e]?=some (.cells cs ty fr)/\cs[0]?=some (cX D.A.b)
 j:D.d D.A.d/\∃cs ty fr,D.e.heap[D.A.d]?=some (.cells cs ty fr)/\cs[0]?=some (cX D.A.c)
 e:∀x∈D.c,∀f rs b c p w,D.gn p->D.dU w->gZ rs p w->b≠c->p.a b->p.a c->p.b c->(∃ty,w.heap[b]?=some (.cells x.cells ty (0,0)))->w.heap[c]?=some (.cells #[zR] 228 (0,0))->bG TP false p (WP D.A f rs x b c) w (D.GZ x)
end RD
variable{D:RD}{p:ai}{w w':World}{g:Goroutine}
theorem RD.dU.b(h:D.dU w)(c:D.gn p)(d:bO p w w'):D.dU w':=λ a b=>(d.e a (c a b).1).trans (h a b)
theorem RD.iO.d(K:D.iO)(h:D.dU w)(b:D.d a):a<w.heap.size:=by have:=h a b;rw[ep (K.k a b)]at this;grind
theorem RD.iO.h(K:D.iO)(c:D.gn p)(h:D.dU w):D.gn (p.c w.heap.size):=λ a b=> ⟨.inl (c a b).1,λ d=>d.elim (c a b).2 λ e=>by have:=K.d h b;omega⟩
theorem yC(b:a<w.heap.size):(w.heap.push o)[a]?=w.heap[a]?:=by grind
theorem C9:(w.heap.push o)[w.heap.size]?=some o:=by simp
theorem RD.iO.i(K:D.iO)(h:D.dU w)(o):D.dU {w with heap:=w.heap.push o}:=λ a b=>(yC (K.d h b)).trans (h a b)
theorem Ox{own ob}(h:D.sa x own ob w)(g:∀b,ob=some b->w'.heap[b]?=w.heap[b]?):D.sa x own ob w':=by obtain h| ⟨b,off,n,c,cells,ty,fr,a,d,e,f⟩:=h;exact .inl h;exact .inr (by grind)
theorem RD.gZ.c(h:RD.gZ rs p w)(b:bO p w w'):RD.gZ rs p w':= ⟨h.d,λ r a=> ⟨(h.b r a).1,(h.b r a).2.1,(b.e r (h.b r a).1).trans (h.b r a).2.2⟩⟩
theorem RD.gZ.f(h:RD.gZ rs p w)(b):RD.gZ rs (p.c b) w:= ⟨h.d,λ r a=> ⟨.inl (h.b r a).1,.inl (h.b r a).2.1,(h.b r a).2.2⟩⟩
theorem RD.gZ.e(h:RD.gZ rs p w)(o):RD.gZ rs p {w with heap:=w.heap.push o}:= ⟨h.d,λ r a=> ⟨(h.b r a).1,(h.b r a).2.1,(yC (eo.1 (h.b r a).2.2).1).trans (h.b r a).2.2⟩⟩
theorem RD.gZ.h(h:RD.gZ rs p w)(b:∀r∈rs,w'.heap[r]?=w.heap[r]?):RD.gZ rs p w':= ⟨h.d,λ r a=> ⟨(h.b r a).1,(h.b r a).2.1,(b r a).trans (h.b r a).2.2⟩⟩
theorem RD.gZ.i(h:RD.gZ rs p w){r}(a:r∈rs):r<w.heap.size:=(eo.1 (h.b r a).2.2).1
theorem ZP(K:D.iO)(h:D.GZ x p g w):bG TP false p g w (D.AS x):=by obtain⟨f,rs,c,own,t,q,rfl,m,s,o,r,e,a,i⟩:=h;refine jb (aez D.A f rs) ?_;have⟨j,cs,ty,fr,k,l⟩:=K.j;refine rR (v:=cX D.A.c) (aaT D.A f rs) rfl (ZT D.A f rs) (ab2 D.A f rs) (λ w=>(wj w).1) (λ w=>(wj w).2) (a _ j).1 ⟨cs,ty,fr,(i _ j).trans k,l⟩ ?_;rw[aij];refine rR (v:=own) (XW D.A f rs) rfl (abd D.A f rs) ((aa4 D.A f rs).trans m) (λ w=>(Mi w).1) (λ w=>(Mi w).2) s o ?_;rw[aeo];exact nQ rfl λ w1 d=> ⟨_,rs,t,.c rfl,rfl,Ox r λ b n=>d.e b (e b n).1,e,q.c d,a,i.b a d⟩
theorem agE(K:D.iO)(t:x∈D.c)(f)(m:D.gn p)(H:D.dU w)(l:RD.gZ rs p w):bG TP false p (AZ D.A f rs x) w (D.AS x):=by
 obtain⟨cs,rfl,y,u⟩:=K.m x t;refine JU rfl (aa6 D.A f rs _) λ w1 j=>?_;have i:=H.b m j;have d:=K.h m i;rw[af3];refine TU (v:= .agg cs) (n:=12) (agj D.A f rs _ _) rfl (ZC D.A f rs _ _) (af9 D.A f rs _ _) (agh D.A f rs _ _) (λ w=>tt.c w) (λ w es=>tt.a w es) y u (.inr rfl) (.inr rfl) ⟨_,_,C9,by simp⟩ λ w2 s w3 o c L=>?_;have J:D.dU w3:=λ a k=>(o a λ e=>by have:=K.d i k;omega).trans (((K.i i _).b d s) a k);have A:RD.gZ rs (p.c w1.heap.size) w3:=((((l.c j).f w1.heap.size).e _).c s).h λ r G=>o r λ e=>by have:=(l.c j).i G;omega
 have C:w1.heap.size<w3.heap.size:=by grind
 refine jb (Xe D.A f rs _ _) ?_;refine JU rfl (aeS D.A f rs _ _) λ w4 b=>?_;have q:=J.b d b;have E:w1.heap.size<w4.heap.size:=qi C b.b;refine jb (wP D.A f rs _ _ _) ?_;refine bG.d (K.e _ t f rs _ _ _ _ (K.h d q) (K.i q _) (((A.c b).f w4.heap.size).e _) (by omega) (.inl (.inr rfl)) (.inr rfl) (.inr rfl) ?_ C9) λ p g w h=>ZP K h;have⟨ty,c⟩:=c;exact⟨_,(yC E).trans ((b.e _ (.inr rfl)).trans c)⟩
end
section
variable{P:Program}{main:Bool}{g g':Goroutine}{o:Oper}{p p':ai}{w w':World}{v:Value}{Stop:ai->Goroutine->World->Prop}
variable{t e:TypeId}
theorem Kl{b off len cap k z}(d:(gu t).run P w= .ok (.slice e) w)(f:(en e).run P w= .ok z w)(a:k<len):(k4 t (.slice (some ⟨b,off,none⟩) len cap) (.int .i64 k)).run P w= .ok (.pointer (some ⟨b,off+k*z,none⟩)) w:=by have c:(0:Int)<=(k:Int)/\(k:Int)< (len:Int):= ⟨qn k,s5.2 a⟩;simp[k4,o2,d,f,c,k6,a]
theorem ZL{b off len cap k z}(d:(gu t).run P w= .ok (.slice e) w)(f:(gu t).events P w #[]= #[])(g:(en e).run P w= .ok z w)(h:(en e).events P w #[]= #[])(a:k<len):(k4 t (.slice (some ⟨b,off,none⟩) len cap) (.int .i64 k)).events P w #[]= #[]:=by have c:(0:Int)<=(k:Int)/\(k:Int)< (len:Int):= ⟨qn k,s5.2 a⟩;simp[k4,o2,d,f,g,h,c,a]
theorem ag2{x i}{b off len cap k z:Nat}(h:dh g o)(n:g.status= .running)(l:o.op= .indexAddr t x i)(m:(bY g).eval x= .slice (some ⟨b,off,none⟩) len cap)(j:(bY g).eval i= .int .i64 k)(d:∀w,(gu t).run P w= .ok (.slice e) w)(s:∀w,(gu t).events P w #[]= #[])(f:∀w,(en e).run P w= .ok z w)(v:∀w,(en e).events P w #[]= #[])(c:k<len)(r:bG P main p (aK g (.pointer (some ⟨b,off+k*z,none⟩))) w Stop):bG P main p g w Stop:=by
 refine qj n λ w1 u=>?_;have q:(ef (bY g).eval o).run P w1= .ok (.value (.pointer (some ⟨b,off+k*z,none⟩))) w1:=by unfold ef;simp[l,m,j];simp[Kl (d w1) (f w1) c]
 refine⟨_,_,_,p,h.b q,ey.q (xp λ e a=>?_) w1,r.b u⟩;unfold ef at a;simp[l,m,j]at a;simp only[gl,Kl (d w1) (f w1) c,ZL (d w1) (s w1) (f w1) (v w1) c,hJ,mr]at a;simp at a
variable(A:Ar)(f:Nat->Value)(a:Option Addr)(n c k:Nat)
def NN:=Af TP 164
def Jk:=gY NN
def Ve:=gY Jk
def qR:=zy (rz (bX Jk))
def yu:=bX NN
def zD:=gY qR
def LI:=rz (gY (bX (bX qR)))
def fc2:=gY LI
def PF:=bX LI
def Mq:=bX (bX (bX qR))
def Yn:=gY yu
def VL:=bX (bX yu)
def fF:= [aQ A.l,aQ A.e,aQ A.a,aQ A.d,f 4,f 5,f 6,f 7,f 8,f 9,f 10,f 11,f 12,f 13,f 14,f 15,f 16,f 17]
def Ao:=(dR TP false 4 (AD A)).callers.headD default
def FG(todo:List Item):Goroutine:={frame:={fn:=164,tmps:= ⟨fF A f⟩,todo,defers:= [],mode:= .run,kind:= .deferred},callers:= [Ao A],status:= .running,dying:=none}
def uF:Nat->Value:=λ _=>df
def sV:=FG A uF [.inRegion (ek Ve) [0,1,2],.code (bX Jk),.code yu]
theorem fL:Cq TP false 4 (AD A) (sV A):=λ w=>by kernel_rfl
theorem ahP:dh (sV A) (bj (sV A)):=ao (by kernel_rfl)
theorem aih:(bj (sV A)).op= .load 191 (iU (bj (sV A)).op):=by kernel_rfl
theorem agY:(bY (sV A)).eval (iU (bj (sV A)).op)=aQ A.l:=by kernel_rfl
def fK:=sw (sw (sw f 6 (.slice a n c)) 7 (.int .i64 n)) 8 (.int .i64 k)
def uq:List Item:= [.inLoop qR,.inBlock 0,.code yu]
def FC:=FG A (fK f a n c k) (.inRegion (ek zD) [0]:: .code (bX qR)::uq)
theorem fC:Cq TP false 7 (aK (sV A) (.slice a n c)) (FC A uF a n c 0):=λ w=>by kernel_rfl
def FD(b:Bool):=FG A (sw f 9 (.bool b)) (.inRegion (ek zD) []:: .code (bX qR)::uq)
theorem adA(w):dr TP false (FC A f a n c k) w= .go (FD A (fK f a n c k) (decide ((k:Int)< (n:Int)))) w #[]:=by kernel_rfl
def F2(l:List Nat):=FG A f (.inRegion (ek fc2) l:: .code PF:: .inBlock 1:: .code Mq::uq)
theorem fD1:Cq TP false 8 (FD A f true) (F2 A (sw f 9 (.bool true)) [0,1,2,3]):=λ w=>by kernel_rfl
def F5(l:List Nat):=FG A f [.inRegion (ek Yn) l,.code (bX yu)]
theorem fD0:Cq TP false 6 (FD A f false) (F5 A (sw f 9 (.bool false)) [0,1]):=λ w=>by kernel_rfl
def Qj:Op->eV| .indexAddr _ x _=>x|_=> .const df
def Q3:Op->eV| .indexAddr _ _ i=>i|_=> .const df
theorem aeD:dh (F2 A f [0,1,2,3]) (bj (F2 A f [0,1,2,3])):=ao (by kernel_rfl)
theorem ajb:(bj (F2 A f [0,1,2,3])).op= .indexAddr 191 (Qj (bj (F2 A f [0,1,2,3])).op) (Q3 (bj (F2 A f [0,1,2,3])).op):=by kernel_rfl
theorem Wx:(bY (F2 A f [0,1,2,3])).eval (Qj (bj (F2 A f [0,1,2,3])).op)=f 6:=by kernel_rfl
theorem aeG:(bY (F2 A f [0,1,2,3])).eval (Q3 (bj (F2 A f [0,1,2,3])).op)=f 8:=by kernel_rfl
theorem Yt(v):aK (F2 A f [0,1,2,3]) v=F2 A (sw f 10 v) [1,2,3]:=by kernel_rfl
theorem aix:dh (F2 A f [1,2,3]) (bj (F2 A f [1,2,3])):=ao (by kernel_rfl)
theorem agw:(bj (F2 A f [1,2,3])).op= .load 149 (iU (bj (F2 A f [1,2,3])).op):=by kernel_rfl
theorem agB:(bY (F2 A f [1,2,3])).eval (iU (bj (F2 A f [1,2,3])).op)=f 10:=by kernel_rfl
theorem aaL(v):aK (F2 A f [1,2,3]) v=F2 A (sw f 11 v) [2,3]:=by kernel_rfl
theorem Va(w):dr TP false (F2 A f [2,3]) w= .go (aK (F2 A f [2,3]) (aQ w.heap.size)) {w with heap:=w.heap.push (.cells (hP 12 (.int .i64 0)) 149 (0,0))} #[]:=by kernel_rfl
theorem afT(v):aK (F2 A f [2,3]) v=F2 A (sw f 5 v) [3]:=by kernel_rfl
theorem ajl:dh (F2 A f [3]) (bj (F2 A f [3])):=ao (by kernel_rfl)
theorem Vx:(bj (F2 A f [3])).op= .store 149 (sk (bj (F2 A f [3])).op) (tr (bj (F2 A f [3])).op):=by kernel_rfl
theorem YU:(bY (F2 A f [3])).eval (sk (bj (F2 A f [3])).op)=f 5:=by kernel_rfl
theorem acf:(bY (F2 A f [3])).eval (tr (bj (F2 A f [3])).op)=f 11:=by kernel_rfl
def F3(l:List Nat):=FG A f (.inRegion (ek PF) l:: .inBlock 1:: .code Mq::uq)
theorem f24:Cq TP false 2 (aK (F2 A f [3]) df) (F3 A f [0,1,2]):=λ w=>by kernel_rfl
theorem Zj:dh (F3 A f [0,1,2]) (bj (F3 A f [0,1,2])):=ao (by kernel_rfl)
theorem ada:(bj (F3 A f [0,1,2])).op= .load 253 (iU (bj (F3 A f [0,1,2])).op):=by kernel_rfl
theorem Yc:(bY (F3 A f [0,1,2])).eval (iU (bj (F3 A f [0,1,2])).op)=aQ A.e:=by kernel_rfl
theorem abA(v):aK (F3 A f [0,1,2]) v=F3 A (sw f 12 v) [1,2]:=by kernel_rfl
theorem Wh:dh (F3 A f [1,2]) (bj (F3 A f [1,2])):=ao (by kernel_rfl)
theorem XK:(bj (F3 A f [1,2])).op= .load 149 (iU (bj (F3 A f [1,2])).op):=by kernel_rfl
theorem Vv:(bY (F3 A f [1,2])).eval (iU (bj (F3 A f [1,2])).op)=f 5:=by kernel_rfl
theorem ZN(v):aK (F3 A f [1,2]) v=F3 A (sw f 13 v) [2]:=by kernel_rfl
theorem We(w):dr TP false (F3 A f [2]) w= .comm (iM TP false (F3 A f [2])) #[{chan:=f 12,send:=some (f 13),zero:= .tuple #[]}] true .send w #[]:=by kernel_rfl
def FT:=fb (iM TP false (F3 A f [2])) df
def CB:Value:= .int .i64 (IntKind.i64.wrap ((k:Int)+1))
theorem fT:Cq TP false 9 (FT A (fK f a n c k)) (FG A (sw (sw (fK f a n c k) 14 (CB k)) 8 (CB k)) (.inRegion (ek zD) [0]:: .code (bX qR)::uq)):=λ w=>by kernel_rfl
theorem afu:dh (F5 A f [0,1]) (bj (F5 A f [0,1])):=ao (by kernel_rfl)
theorem U0:(bj (F5 A f [0,1])).op= .load 253 (iU (bj (F5 A f [0,1])).op):=by kernel_rfl
theorem afE:(bY (F5 A f [0,1])).eval (iU (bj (F5 A f [0,1])).op)=aQ A.e:=by kernel_rfl
theorem adC(v):aK (F5 A f [0,1]) v=F5 A (sw f 15 v) [1]:=by kernel_rfl
end
theorem L7(w):(eH 191).run TP w= .ok false w/\(eH 191).events TP w #[]= #[]:= ⟨by kernel_rfl,by kernel_rfl⟩
theorem OV(w):(gu 191).run TP w= .ok (.slice 149) w/\(gu 191).events TP w #[]= #[]:= ⟨by kernel_rfl,by kernel_rfl⟩
section
structure ra(D:RD)(a:Option gw)(n c:Nat):Prop where
 d:D.iO
 l:D.d D.A.l/\∃cs ty fr,D.e.heap[D.A.l]?=some (.cells cs ty fr)/\cs[0]?=some (.slice a n c)
 i:D.c.length=n
 e:n<2^62
 h:n=0\/∃b off C ty fr,a=some ⟨b,off,none⟩/\D.d b/\D.e.heap[b]?=some (.cells C ty fr)/\∀k cs,D.c[k]?=some (.agg cs)->∀j,j<12->C[off+k*12+j]?=cs[j]?
structure rM(f:Nat->b2)(a:Option gw)(n c k:Nat):Prop where
 h:f 6= .slice a n c
 i:f 7= .int .i64 n
 e:f 8= .int .i64 k
variable{D:RD}{a:Option Addr}{n c k:Nat}{f:Nat->Value}{p:ai}{w w':World}{g:Goroutine}
theorem yB{i j:Nat}(h:i≠j):eb i j=false:=by cases e:eb i j with|false=>rfl|true=>exact absurd (Nat.eq_of_beq_eq_true e) h
theorem rM.d(h:rM f a n c k):fK f a n c k=f:=by funext j;unfold fK sw;by_cases e:j=8;subst e;exact h.e.symm;by_cases d:j=7;subst d;exact h.i.symm;by_cases b:j=6;subst b;exact h.h.symm;rw[yB e,yB d,yB b];rfl
theorem rM.b(h:rM f a n c k)(j)(v)(h6:j≠6)(h7:j≠7)(h8:j≠8):rM (sw f j v) a n c k:=by
 have e:∀i,i≠j->Go.Rs.sw f j v i=f i:=λ i b=>by unfold Go.Rs.sw;have:eb i j=false:=yB b;rw[this];rfl
 exact⟨(e 6 (cB h6)).trans h.h,(e 7 (cB h7)).trans h.i,(e 8 (cB h8)).trans h.e⟩
theorem V0(f)(a)(n c k):rM (fK f a n c k) a n c k:= ⟨rfl,rfl,rfl⟩
def fHead(D:RD)(a:Option gw)(n c:Nat)(k:Nat)(p:ai)(g:ea)(w:dk):=(∃f,rM f a n c k/\k<n/\f 12=cX D.A.b/\D.c[k]?=some (f 13)/\oD g (F3 D.A f [2]))\/(k=n/\∃f,f 15=cX D.A.b/\oD g (F5 D.A f [1]))
theorem Rj(L:ra D a n c)(hI:rM f a n c k)(an:k<=n)(r:D.gn p)(A:D.dU w):bG TP false p (FG D.A f (.inRegion (ek zD) [0]:: .code (bX qR)::uq)) w (fHead D a n c k):=by
 have Y:FG D.A f (.inRegion (ek zD) [0]:: .code (bX qR)::uq)=FC D.A f a n c k:=by unfold FC;rw[hI.d]
 rw[Y];refine GN rfl (adA D.A f a n c k) ?_;rw[hI.d];have⟨o,F,I,E,G,H⟩:=L.d.l;by_cases i:k<n;have z:decide ((k:Int)< (n:Int))=true:=by simpa using i
 rw[z];refine jb (fD1 D.A f) ?_;have V:k<D.c.length:=by rw[L.i];exact i
 have⟨cs,s,q,Z⟩:=L.d.m (D.c[k]) (List.getElem_mem V);have X:D.c[k]?=some (.agg cs):=by rw[et V,s]
 obtain h0| ⟨b,off,C,ty,fr,rfl,T,aa,ab⟩:=L.h;omega;have m:=hI.b 9 (.bool true) (by decide) (by decide) (by decide);generalize ai:sw f 9 (.bool true)=g at m⊢;refine ag2 (aeD D.A g) rfl (ajb D.A g) ((Wx D.A g).trans m.h) ((aeG D.A g).trans m.e) (λ w=>(OV w).1) (λ w=>(OV w).2) (λ w=>tt.c w) (λ w=>tt.a w #[]) i ?_;rw[Yt];have P:=m.b 10 (.pointer (some ⟨b,off+k*12,none⟩)) (by decide) (by decide) (by decide);have J:sw g 10 (.pointer (some ⟨b,off+k*12,none⟩)) 10= .pointer (some ⟨b,off+k*12,none⟩):=rfl;generalize aj:sw g 10 (.pointer (some ⟨b,off+k*12,none⟩))=h at P J⊢;refine T5 (cs:=cs.toList) (aix D.A h) rfl (agw D.A h) ((agB D.A h).trans J) (by have:=tt;simpa[q]using this) (r b T).1 ⟨C,ty,fr,(A b T).trans aa,λ j U=>?_⟩ ?_;rw[ab k cs X j (by simpa[q]using U)];simp;rw[aaL];have Q:=P.b 11 (.agg cs.toList.toArray) (by decide) (by decide) (by decide);have K:sw h 11 (.agg cs.toList.toArray) 11= .agg cs:=rfl;generalize ak:sw h 11 (.agg cs.toList.toArray)=l at Q K⊢;refine JU rfl (Va D.A l) λ w1 af=>?_;have B:=A.b r af;have W:=L.d.h r B;rw[afT];have R:=Q.b 5 (aQ w1.heap.size) (by decide) (by decide) (by decide);have u:sw l 5 (aQ w1.heap.size) 5=aQ w1.heap.size:=rfl;have M:sw l 5 (aQ w1.heap.size) 11= .agg cs:=K;generalize al:sw l 5 (aQ w1.heap.size)=d at R u M⊢;refine TU (v:= .agg cs) (n:=12) (ajl D.A d) rfl (Vx D.A d) ((YU D.A d).trans u) ((acf D.A d).trans M) (λ w=>tt.c w) (λ w es=>tt.a w es) q Z (.inr rfl) (.inr rfl) ⟨_,_,C9,by simp⟩ λ w2 ag w3 ac y ao=>?_;have ae:D.dU w3:=λ x s=>(ac x λ e=>by have:=L.d.d B s;omega).trans (((L.d.i B _).b W ag) x s);refine jb (f24 D.A d) ?_;refine rR (v:=cX D.A.b) (Zj D.A d) rfl (ada D.A d) (Yc D.A d) (λ w=>(vS w).1) (λ w=>(vS w).2) (W _ o).1 ⟨F,I,E,(ae _ o).trans G,H⟩ ?_;rw[abA];have S:=R.b 12 (cX D.A.b) (by decide) (by decide) (by decide);have O:sw d 12 (cX D.A.b) 5=aQ w1.heap.size:=u;have N:sw d 12 (cX D.A.b) 12=cX D.A.b:=rfl;generalize am:sw d 12 (cX D.A.b)=t at S O N⊢;have⟨ah,y⟩:=y;refine T5 (cs:=cs.toList) (Wh D.A t) rfl (XK D.A t) ((Vv D.A t).trans O) (by have:=tt;simpa[q]using this) (.inr rfl) ⟨cs,ah,_,y,λ j U=>?_⟩ ?_;simp;refine nQ rfl λ w4 _=> .inl ⟨_,S.b 13 _ (by decide) (by decide) (by decide),i,N,?_,.c rfl⟩;rw[X];rfl;have z:decide ((k:Int)< (n:Int))=false:=by simpa using i
 rw[z];refine jb (fD0 D.A f) ?_;refine rR (v:=cX D.A.b) (afu D.A _) rfl (U0 D.A _) (afE D.A _) (λ w=>(vS w).1) (λ w=>(vS w).2) (r _ o).1 ⟨F,I,E,(A _ o).trans G,H⟩ ?_;rw[adC];exact nQ rfl λ w4 _=> .inr ⟨by omega,_,rfl,.c rfl⟩
theorem VM(L:ra D a n c)(d:D.gn p)(e:D.dU w):bG TP false p (AD D.A) w (fHead D a n c 0):=by refine jb (fL D.A) ?_;have⟨b,cs,ty,fr,f,g⟩:=L.l;refine rR (v:= .slice a n c) (ahP D.A) rfl (aih D.A) (agY D.A) (λ w=>(L7 w).1) (λ w=>(L7 w).2) (d _ b).1 ⟨cs,ty,fr,(e _ b).trans f,g⟩ ?_;exact jb (fC D.A a n c) (Rj L (V0 _ _ _ _ _) (Nat.zero_le _) d e)
theorem abK(L:ra D a n c)(hI:rM f a n c k)(b:k<n)(g:D.gn p)(h:D.dU w):bG TP false p (FT D.A f) w (fHead D a n c (k+1)):=by
 have d:FT D.A f=FT D.A (fK f a n c k):=by rw[hI.d]
 rw[d];refine jb (fT D.A f a n c k) ?_;have e:CB k= .int .i64 ((k+1:Nat):Int):=by
  unfold CB
  congr 1;have:IntKind.i64.wrap ((k:Int)+1)=(k:Int)+1:=by have j:k<4611686018427387904:=Nat.lt_trans b L.e;simp[IntKind.wrap,IntKind.bits,IntKind.signed];omega
  rw[this];rfl
 refine Rj L ⟨rfl,rfl,e⟩ b g h
end
section
variable(A:Ar)(f h:Nat->Value)
def ve:=zy (rz (bX (Af TP 165)))
def Db:=(dR TP false 11 (aK (F5 A f [1]) df)).callers.headD default
def yz:=aQ A.a::(hs 83).map λ i=>h (i+1)
def uX:Goroutine:={frame:={fn:=165,tmps:= ⟨yz A h⟩,todo:= [.code ve,.inLoop ve,.inBlock 0],defers:= [],mode:= .run,kind:= .normal},callers:= [Db A f,Ao A],status:= .running,dying:=none}
def h0:Nat->Value:=λ i=>bif eb i 7 then df else df
theorem fW:fP TP false 11 0 1 (aK (F5 A f [1]) df) (uX A f h0):=λ w=>by kernel_rfl
def oU:=dR TP false 16 (uX A f h)
theorem fLd:Ch TP false 16 1 1 (uX A f h):=λ w=>by kernel_rfl
theorem adr:cP (oU A f h) 220 #[aQ A.a]:=ac (by kernel_rfl)
def DC:=dR TP false 35 (aK (oU A f h) (.int .u64 0))
theorem fQ:Ch TP false 35 1 0 (aK (oU A f h) (.int .u64 0)):=λ w=>by kernel_rfl
def zM:=aK (DC A f h) (.pointer (some ⟨A.a,0,none⟩))
theorem Vt(w)(st b)(a:ba A.a w st b):dr TP false (DC A f h) w= .go (zM A f h) w #[]:=zk (by kernel_rfl) (ox a)
theorem agK:cP (zM A f h) 200 #[.pointer (some ⟨A.a,0,none⟩)]:=ac (by kernel_rfl)
end
def YY(c:Nat)(y:Int):=(c=1/\y=4294967296)\/(c=2/\y=8589934592)\/(c=3/\y=12884901888)
section
variable(A:Ar)(f h:Nat->Value)
def oA(y:Int):=dR TP false 48 (aK (oU A f h) (.int .u64 y))
variable(y:Int)
def CH:=dR TP false 19 (aK (oA A f h y) (.bool true))
def vC:=aK (CH A f h y) (.pointer (some ⟨A.a,1,none⟩))
def s9:=dR TP false 23 (aK (vC A f h y) df)
def tB:=dR TP false 16 (aK (s9 A f h y) df)
def Er:=dR TP false 15 (aK (tB A f h y) (.int .u64 0))
def Eh:=aK (Er A f h y) (.pointer (some ⟨A.a,0,none⟩))
def uk:=dR TP false 9 (aK (oA A f h y) (.bool false))
def F7(l:List Nat):=FG A f [.inRegion (ek VL) l]
structure SQ:Prop where
 z:Ch TP false 48 1 1 (aK (oU A f h) (.int .u64 y))
 a:cP (oA A f h y) 222 #[aQ A.a,.int .u64 y,.int .u64 (y+1)]
 k:(oA A f h y).status= .running
 C:Ch TP false 19 1 1 (aK (oA A f h y) (.bool true))
 g:(CH A f h y).status= .running
 p:∀w st D,ba A.a w st D->dr TP false (CH A f h y) w= .go (vC A f h y) w #[]
 j:cP (vC A f h y) 203 #[.pointer (some ⟨A.a,1,none⟩)]
 n:(vC A f h y).status= .running
 D:Ch TP false 23 1 1 (aK (vC A f h y) df)
 i:cP (s9 A f h y) 204 #[.pointer (some ⟨A.a,1,none⟩),.bool false]
 q:(s9 A f h y).status= .running
 r:(s9 A f h y).offers=none
 E:Ch TP false 16 1 1 (aK (s9 A f h y) df)
 c:cP (tB A f h y) 220 #[aQ A.a]
 d:(tB A f h y).status= .running
 B:Ch TP false 15 1 0 (aK (tB A f h y) (.int .u64 0))
 e:(Er A f h y).status= .running
 s:∀w st D,ba A.a w st D->dr TP false (Er A f h y) w= .go (Eh A f h y) w #[]
 m:cP (Eh A f h y) 200 #[.pointer (some ⟨A.a,0,none⟩)]
 o:Cq TP false 12 (aK (Eh A f h y) df) (F7 A (sw f 16 df) [0,1])
 x:Ch TP false 9 1 1 (aK (oA A f h y) (.bool false))
 u:(uk A f h y).frame={fn:=165,tmps:=(uk A f h y).frame.tmps,todo:= [.code ve,.inLoop ve,.inBlock 0],defers:= [],mode:= .run,kind:= .normal}
 t:(uk A f h y).frame.tmps.size=84
 b:(uk A f h y).frame.tmps[0]?=some (aQ A.a)
 l:uk A f h y={frame:=(uk A f h y).frame,callers:= [Db A f,Ao A],status:= .running,dying:=none}
variable{y}
set_option maxHeartbeats 8000000 in
theorem mi{c}(b:YY c y):SQ A f h y:=by rcases b with⟨_,rfl⟩| ⟨_,rfl⟩| ⟨_,rfl⟩<;>
 exact⟨λ w=>by kernel_rfl,ac (by kernel_rfl),by kernel_rfl,λ w=>by kernel_rfl,by kernel_rfl,λ w st d a=>zk (by kernel_rfl) (Ap a),ac (by kernel_rfl),by kernel_rfl,λ w=>by kernel_rfl,ac (by kernel_rfl),by kernel_rfl,by kernel_rfl,λ w=>by kernel_rfl,ac (by kernel_rfl),by kernel_rfl,λ w=>by kernel_rfl,by kernel_rfl,λ w st d a=>zk (by kernel_rfl) (ox a),ac (by kernel_rfl),λ w=>by kernel_rfl,λ w=>by kernel_rfl,by kernel_rfl,by kernel_rfl,by kernel_rfl,by kernel_rfl⟩
end
theorem dh.e{P main g o w x a c s r}(h:dh g o)(d:o.op= .call {callee:= .builtin .close,args:= #[x],argTypes:=a})(f:(bY g).eval x=cX c)(b:w.heap[c]?=some (.chan 0 #[] false s r false))(e:(P.funcs[g.frame.fn]?).any (·.norace)=false):dr P main g w= .go (aK g df) (w.setChan c 0 #[] true s r false) (iS c):=by rw[h.c,stepG_close h.k h.a (BR h.h) d f b e,h.d];rfl
def Cs:Op->eV| .call c=>c.args.getD 0 (.const df)|_=> .const df
section
variable(A:Ar)(f h:Nat->Value)
theorem abF:dh (F5 A f [1]) (bj (F5 A f [1])):=ao (by kernel_rfl)
theorem agc:(bj (F5 A f [1])).op= .call {callee:= .builtin .close,args:= #[Cs (bj (F5 A f [1])).op],argTypes:=Ia (bj (F5 A f [1])).op}:=by kernel_rfl
theorem afH:(bY (F5 A f [1])).eval (Cs (bj (F5 A f [1])).op)=f 15:=by kernel_rfl
theorem aei:(TP.funcs[(F5 A f [1]).frame.fn]?).any (·.norace)=false:=by kernel_rfl
theorem Wc:gg TP (F5 A f [1])=true:=by kernel_rfl
theorem Yk:dh (F7 A f [1]) (bj (F7 A f [1])):=ao (by kernel_rfl)
theorem aiq:(bj (F7 A f [1])).op= .call {callee:= .builtin .close,args:= #[Cs (bj (F7 A f [1])).op],argTypes:=Ia (bj (F7 A f [1])).op}:=by kernel_rfl
theorem acr:(bY (F7 A f [1])).eval (Cs (bj (F7 A f [1])).op)=f 17:=by kernel_rfl
theorem ahX:(TP.funcs[(F7 A f [1]).frame.fn]?).any (·.norace)=false:=by kernel_rfl
theorem aaq:gg TP (F7 A f [1])=true:=by kernel_rfl
theorem agm:dh (F7 A f [0,1]) (bj (F7 A f [0,1])):=ao (by kernel_rfl)
theorem ah3:(bj (F7 A f [0,1])).op= .load 254 (iU (bj (F7 A f [0,1])).op):=by kernel_rfl
theorem Wd:(bY (F7 A f [0,1])).eval (iU (bj (F7 A f [0,1])).op)=aQ A.d:=by kernel_rfl
theorem U9(v):aK (F7 A f [0,1]) v=F7 A (sw f 17 v) [1]:=by kernel_rfl
theorem fE:CE TP false 3 0 (aK (F7 A f [1]) df):= ⟨λ w=>by kernel_rfl,λ w=>by kernel_rfl,by kernel_rfl⟩
theorem XX:Cq TP false 22 (aK (zM A f h) df) (F7 A (sw f 16 df) [0,1]):=λ w=>by kernel_rfl
end
def Tc(e:lB):=∀a,e.loc= .cell a->e.sync=false
def NS{α:Type}(P:ew)(s:Sem α):=∀w es,(∀e∈es,Tc e)->∀e∈s.events P w es,Tc e
section
variable{P:Program}{α β:Type}
theorem NS.c{s}{f:α->Sem β}(h:NS P s)(g:∀x,NS P (f x)):NS P (s>>=f):=λ w es c e b=>by rw[gl]at b;cases d:s.run P w with|ok a w'=>rw[d]at b;exact g a w' _ (h w es c) e b|halt x w'=>rw[d]at b;exact h w es c e b
theorem NS.a(a):NS P (Pure.pure a:Sem α):=λ w es c e b=>c e (by simpa using b)
theorem NS.d(x):NS P (.halt x:Sem α):=λ w es b e a=>b e (by simpa using a)
theorem NS.q{c}[Decidable c]{s t:Sem α}(h1:NS P s)(h2:NS P t):NS P (if c then s else t):=by split<;>assumption
theorem NS.B(a):NS P (Go.load a):=λ w es c e b=>by
 rw[nz]at b;split at b
 ·rcases nB.1 b with h|rfl;exact c e h;intro _ _;rfl
 ·split at b
  ·rcases q8.1 b with h|h;exact c e h;obtain⟨x,_,rfl⟩:=sr.1 h;intro _ _;rfl
  ·exact c e b
theorem NS.b{s:Sem α}(h:∀w es,s.events P w es=es):NS P s:=λ w es b e a=>b e (by rwa [h]at a)
theorem NS.w(a)(v):NS P (Go.store a v):=by
 by_cases g:v.oneCell'=true
 ·intro w es f e d;rw[nb P w es a v .plain g]at d;split at d
  ·split at d;exact f e d
   ·rcases nB.1 d with h|rfl;exact f e h;intro _ _;rfl
  ·split at d
   ·rcases q8.1 d with h|h;exact f e h;obtain⟨x,_,rfl⟩:=sr.1 h;intro _ _;rfl
   ·exact f e d
 ·cases v with|agg c=>exact .b λ w es=>rfl|tuple c=>exact .b λ w es=>rfl|_=>exact absurd rfl g
theorem NS.e(a):∀vs i,NS P (hD a vs i)| [],_=> .a _|v::r,i=> .c (.w _ _) λ _=>NS.e a r (i+1)
theorem NS.f(a):∀n i b,NS P (hN a i n b)|0,_,_=> .a _|n+1,i,b=> .c (.B _) λ _=>NS.f a n (i+1) _
theorem NS.h(size n)(v):NS P (j3 size n v):=by unfold j3;split;exact .f _ _ _ _;exact .a _;exact .a _;exact .d _
theorem NS.o(m):NS P (Go.mark m):=λ w es b e a=>by rw[events_mark]at a;rcases nB.1 a with h|rfl;exact b e h;intro _ h;cases h
theorem NS.l(n):NS P (tc n):=by unfold tc;exact .q (.o _) (.a _)
theorem NS.k(m):NS P (runtimePanic (.error m):Sem α):= .c (.b λ _ _=>rfl) λ _=> .d _
theorem NS.j(a)(n):NS P (pV a n):=by unfold pV;refine .c (.b λ _ _=>rfl) λ _=>?_;split<;>exact .a _
theorem NS.x(v):NS P (asInt v):=by unfold Go.asInt;refine .c ?_ λ _=> .a _;unfold o2;repeat' split;all_goals first|exact .a _|exact .d _|exact .k _
theorem NS.u(t):NS P (gu t):= .b λ w es=>events_underlying P w es t
theorem NS.z(t):NS P (en t):= .b λ w es=>events_sizeOf P w es t
theorem NS.A(t):NS P (o0 t):= .b λ w es=>events_typeInfo P w es t
theorem NS.y(t):NS P (zeroValue t):= .b λ w es=>events_zeroValue P w es t
theorem NS.n(q):NS P (Go.choose q):= .b λ w es=>events_choose P w es q
theorem NS.m(a):NS P (Go.frozen a):= .b λ w es=>rfl
theorem NS.t(v):NS P (k5 v):=by unfold k5;split;exact .a _;exact .a _;exact .d _
theorem NS.p(t)(c):NS P (Go.newRow t c):= .c (.b λ _ _=>rfl) λ _=> .a _
theorem NS.i(a b c)(x)(v):NS P (p6 a b c x v):=by unfold p6;repeat' first|exact NS.a _|exact NS.d _|exact NS.j _ _|exact NS.m _| (refine NS.c ?_ λ _=>?_)|refine NS.q ?_ ?_|split
theorem NS.s(m):NS P (Go.stuck m:Sem α):= .d _
theorem NS.g(m):NS P (Go.unsupported m:Sem α):= .d _
theorem NS.r(a)(ty)(vs):NS P (fz a ty vs):=by unfold fz;repeat' first|with_reducible exact NS.a _|with_reducible exact NS.d _|with_reducible exact NS.s _|with_reducible exact NS.g _|with_reducible exact NS.k _|with_reducible exact NS.u _|with_reducible exact NS.z _|with_reducible exact NS.A _|with_reducible exact NS.y _|with_reducible exact NS.n _|with_reducible exact NS.t _|with_reducible exact NS.p _ _|with_reducible exact NS.i _ _ _ _ _|with_reducible exact NS.h _ _ _|with_reducible exact NS.e _ _ _|with_reducible exact NS.l _|with_reducible exact NS.o _|with_reducible exact NS.x _|with_reducible exact NS.j _ _| (with_reducible refine NS.c ?_ λ _=>?_)| (with_reducible refine NS.q ?_ ?_)|split
variable{main:Bool}{g g':Goroutine}{o:Oper}{p p':ai}{w w':World}{Stop:ai->Goroutine->World->Prop}
variable{n:Nat}{v:Value}
def ai.e(p:ai)(w w':dk):ai:= ⟨λ a=>p.a a\/(w.heap.size<=a/\a<w'.heap.size),λ a=>p.b a\/(w.heap.size<=a/\a<w'.heap.size)⟩
def fI:=(TP.info? 231).getD default
theorem nw:TP.info? 231=some fI:=by kernel_rfl
def fZ:=fI.zero.getD df
theorem fI_z:fI.zero=some fZ:=by kernel_rfl
theorem lW:fI.size=27:=by kernel_rfl
theorem se:fI.bytes=216:=by kernel_rfl
theorem FN:fZ.cells.size=27:=by kernel_rfl
theorem om:TP.underlying 228=some (.slice 231):=by kernel_rfl
theorem IC{base xs}(h:w.ownsRow base 231 27 v n xs)(e:∀k,v.ownBlock=some k->w'.heap[k]?=w.heap[k]?):w'.ownsRow base 231 27 v n xs:=by obtain⟨h0,h| ⟨g,cap,a,rfl,b,c,d⟩⟩:=h;exact⟨h0,.inl h⟩;exact⟨h0,.inr ⟨g,cap,a,rfl,b,(e g rfl).trans c,d⟩⟩
def lh(w:dk)(v:b2)(n:Nat):=∀q m cap,v= .slice (some ⟨q,0,none⟩) m cap->0<n/\∀a ty fr,w.heap[q]?=some (.cells a ty fr)->∀j,n*27<=j->j<a.size->a[j]?=some (.int .i64 0)
theorem lh.a(h:lh w v n)(b:∀k,v.ownBlock=some k->w'.heap[k]?=w.heap[k]?):lh w' v n:=λ q m cap e=> ⟨(h q m cap e).1,λ a ty fr c=>(h q m cap e).2 a ty fr (by rw[<-b q (by rw[e];rfl)];exact c)⟩
theorem lh.b(n):lh w (.slice none 0 0) n:=λ q m cap e=>by cases e
theorem ae0:fZ.cells=hP 27 (.int .i64 0):=by kernel_rfl
theorem Nj{k j:Nat}{x}(h:(hG fZ.cells k)[j]?=some x):x= .int .i64 0:=by unfold hG at h;rw[kp]at h;obtain⟨i,a,rfl⟩:=ma.1 h;rw[ae0,Array.getElem!_eq_getD,Array.getD_eq_getD_getElem?,Array.getElem?_replicate,if_pos (by simp;exact ih _ (by omega))];rfl
theorem LX{b}{u:dk}{k c:Nat}(i:0<n)(o:b.size=n*27):lh (u.alloc (.cells (b++hG fZ.cells k) 231)) (.slice (some ⟨u.heap.size,0,none⟩) n c) n:=by
 intro q m cap e;refine⟨i,λ f ty fr a j l g=>?_⟩;cases e;have a:(u.heap.push (.cells (b++hG fZ.cells k) 231))[u.heap.size]?=some (.cells f ty fr):=a;simp at a;have⟨rfl,_,_⟩:=a;rw[Array.getElem?_append,if_neg (by omega)];rw[Array.size_append]at g;have h:j- b.size< (hG fZ.cells k).size:=by omega
 have d:=ep h;rw[d,Nj d]
theorem abV{x y base m c b off xs i}(h:dh g o)(ar:g.status= .running)(ax:o.op= .call {callee:= .builtin .append,args:= #[x,y],argTypes:= #[228,228]}) (aE:(bY g).eval x=v) (aF:(bY g).eval y= .slice (some ⟨b,off,none⟩) m c) (ay:w.ownsRow base 231 27 v n xs) (D:∀k,v.ownBlock=some k->p.a k/\p.b k) (Z:p.a b) (ao:∃C ty fr,w.heap[b]?=some (.cells C ty fr)/\∀j,j<m*27->C[off+j]?=i[j]?) (d:i.length=m*27) (E:∀u∈i,u.oneCell'=true) (L:(n+m)*216<=140737488355328) (an:base<=w.heap.size) (aB:lh w v n) (aA:∀w1,bO p w w1->∀v' w',w'.ownsRow base 231 27 v' (n+m) (xs++i)->lh w' v' (n+m)->w1.grownBy w' v.ownBlock->(∀k,v'.ownBlock=some k->(p.e w1 w').a k/\(p.e w1 w').b k)->bG TP main (p.e w1 w') (aK g v') w' Stop):bG TP main p g w Stop:=by
 have⟨C,ai,ah,ak,al⟩:=ao;refine qj ar λ w1 K=>?_;have M:=IC (w':=w1) ay λ k l=>K.e k (D k l).1;have z:∀j u,i[j]?=some u->w1.cell? ((⟨b,off,none⟩:gw).add j)=some u:=λ j u aa=>by
  have G:j<m*27:=by rw[<-d];exact(List.getElem?_eq_some_iff.1 aa).1
  rw[k6,hU w1 b (off+j) C ai ah (by rw[K.e b Z,ak]),al j G,aa]
 have W:n+m<=maxLen:=by simp[maxLen];omega
 have⟨v',w',f,ac,F,ab⟩:=run_append_own (P:=TP) w1 base 228 o.type 231 fI fZ 27 216 om nw fI_z lW se FN (by omega) v n xs M ⟨b,off,none⟩ m c i d z E W L (gb an K.b);obtain⟨X,I⟩:∃X,ef (bY g).eval o=builtin .append #[228,228] o.type X (#[x,y].map (bY g).eval):=by refine⟨#[x,y].map λ| .const _=>true|_=>false,?_⟩;unfold ef;simp only[ax];rfl
 have am: #[x,y].map (bY g).eval= #[v,.slice (some ⟨b,off,none⟩) m c]:=by simp[aE,aF]
 rw[am]at I;have I:ef (bY g).eval o=(do pure (sv (<-fz #[228,228] o.type #[v,.slice (some ⟨b,off,none⟩) m c]))):=I;have az:(ef (bY g).eval o).run TP w1= .ok (.value v') w':=by rw[I,k7,f];rfl
 have ap:(ef (bY g).eval o).events TP w1 #[]=(fz #[228,228] o.type #[v,.slice (some ⟨b,off,none⟩) m c]).events TP w1 #[]:=by rw[I,gl,f];rfl
 have av:∀k,v'.ownBlock=some k->(p.e w1 w').a k/\(p.e w1 w').b k:=λ k l=>by have G:∀k,v'.ownBlock=some k->k<w'.heap.size:=λ k l=>(ac.lt k l).2;obtain⟨A,⟨rfl,rfl⟩| ⟨q,cap,t,rfl,N,B,O,Q,J,R⟩⟩:=M;by_cases T:m=0;have:=ab.2 ⟨rfl,T⟩;rw[this]at l;cases l;have r:=qW (P:=TP) w1 228 o.type 231 fI fZ om nw fI_z ⟨b,off,none⟩ m c i (by rw[lW];exact d) z (by omega) (by omega) (by rw[se];omega);rw[r]at f;cases f;cases l;exact⟨.inr ⟨ei _,G _ rfl⟩,.inr ⟨ei _,G _ rfl⟩⟩;by_cases V:n+m<=cap;have⟨w2,r,_⟩:=run_append_fits (P:=TP) w1 base 228 o.type 231 fI 27 om nw lW q n cap xs ⟨A,.inr ⟨q,cap,t,rfl,N,B,O,Q,J,R⟩⟩ ⟨b,off,none⟩ m c i d z E V;rw[r]at f;cases f;cases l;exact⟨.inl (D _ rfl).1,.inl (D _ rfl).2⟩;have U:∀j u,xs[j]?=some u->w1.cell? ((⟨q,0,none⟩:gw).add j)=some u:=pH (g:=q) (n:=n) ⟨A,.inr ⟨q,cap,t,rfl,N,B,O,Q,J,R⟩⟩ rfl;have r:=qq (P:=TP) w1 228 o.type 231 fI fZ om nw fI_z ⟨q,0,none⟩ n cap xs (by rw[lW];exact A) U ⟨b,off,none⟩ m c i (by rw[lW];exact d) z (by omega) (by omega) (q0 (by omega) (by rw[se];exact L));rw[r]at f;cases f;cases l;exact⟨.inr ⟨ei _,G _ rfl⟩,.inr ⟨ei _,G _ rfl⟩⟩
 have aC:lh w' v' (n+m):=by have af:lh w1 v n:=aB.a λ k l=>K.e k (D k l).1;obtain⟨A,⟨rfl,rfl⟩| ⟨q,cap,t,rfl,N,B,O,Q,J,R⟩⟩:=M;by_cases T:m=0;rw[ab.2 ⟨rfl,T⟩];exact lh.b _;have r:=qW (P:=TP) w1 228 o.type 231 fI fZ om nw fI_z ⟨b,off,none⟩ m c i (by rw[lW];exact d) z (by omega) (by omega) (by rw[se];omega);rw[r]at f;cases f;rw[nV];exact LX (u:=w1.drew) (by omega) (by simp[d]);by_cases V:n+m<=cap;have r:=run_append_room (P:=TP) w1 228 o.type 231 fI om nw q n cap t B ⟨b,off,none⟩ m c i (by rw[lW];exact d) z E V (by rw[lW,d,J];omega);rw[r]at f;cases f;intro q' m' aH e;refine⟨by have:=(af q n cap rfl).1;omega,λ aI ty fr ae j aJ ag=>?_⟩;cases e;rw[setRow_heap w1 q t _ 231 _ B]at ae;cases ae;rw[lW]at ag⊢;simp[List.size_toArray,kq,q9,List.length_drop,p7,d]at ag;rw[List.getElem?_toArray,List.getElem?_append_right (by simp[d];omega),List.getElem?_drop];simp only[kq,q9,p7,d];rw[Array.getElem?_toList,show n*27+m*27+ (j- (min (n*27) t.size+m*27))=j from by omega];exact(af q n cap rfl).2 t 231 (0,0) B j (by omega) (by omega);have r:=qq (P:=TP) w1 228 o.type 231 fI fZ om nw fI_z ⟨q,0,none⟩ n cap xs (by rw[lW];exact A) (pH (g:=q) (n:=n) ⟨A,.inr ⟨q,cap,t,rfl,N,B,O,Q,J,R⟩⟩ rfl) ⟨b,off,none⟩ m c i (by rw[lW];exact d) z (by omega) (by omega) (q0 (by omega) (by rw[se];exact L));rw[r]at f;cases f;exact LX (u:=w1.drew) (by omega) (by simp[d,A];omega)
 refine⟨_,_,_,p.e w1 w',h.b az,⟨F.size,λ a H au=>F.block a H λ e=>au (D a e.symm).2,λ a H=>H,λ a H=>H,λ a=> .inl,λ a=> .inl,λ a E aj=> .inr (aj.resolve_left E),xp λ e S=>?_,F.os,F.output,F.tape⟩,aA w1 K v' w' ac aC F av⟩;rw[ap]at S;have hp:=(NS.r (P:=TP) #[228,228] o.type #[v,.slice (some ⟨b,off,none⟩) m c] w1 #[] (by simp)) e S;rcases (events_append_where (P:=TP) w1 base 228 o.type 231 fI fZ 27 216 om nw fI_z lW se v n xs M ⟨b,off,none⟩ m c i d z E W L) e S with⟨ad,Y,s⟩| ⟨mk,rfl,s⟩;have⟨aL,aM,aG⟩:=e;simp at Y s;subst Y;have aD:aG=false:=hp ad rfl;subst aD;obtain⟨rfl,s⟩|s:=s;exact⟨.inl (s▸Z),λ h=>(by cases h),rfl⟩;exact⟨.inl (D _ s.symm).1,λ _=> .inl (D _ s.symm).2,rfl⟩;show mk= .noRoom\/_;exact .inl s
variable{xs:List Value}
theorem F4{ρ o x y u}(d:o.op= .call {callee:= .builtin .append,args:= #[x,y],argTypes:= #[228,228]})(e:ρ x=u)(f:ρ y=v):ef ρ o=(do pure (sv (<-fz #[228,228] o.type #[u,v]))):=by
 obtain⟨a,b⟩:∃a,ef ρ o=builtin .append #[228,228] o.type a (#[x,y].map ρ):=by refine⟨#[x,y].map λ| .const _=>true|_=>false,?_⟩;unfold ef;simp only[d];rfl
 have c: #[x,y].map ρ= #[u,v]:=by simp[e,f]
 rw[c]at b;exact b
theorem Wl{w}{ty base n:Nat}(h:w.ownsRow base 231 27 v n xs):(fz #[228,228] ty #[v,.slice none 0 0]).run TP w= .ok v w/\(fz #[228,228] ty #[v,.slice none 0 0]).events TP w #[]= #[]:=by obtain⟨c,⟨rfl,rfl⟩| ⟨q,cap,b,rfl,d,e,a,f,g,i⟩⟩:=h;constructor<;>simp[fz,q3 om,en,o0,nw,k5,j3];constructor<;>simp[fz,q3 om,en,o0,nw,k5,j3,a,hD]
section
variable{main:Bool}{g g':Goroutine}{o:Oper}{p p':ai}{w w':World}{Stop:ai->Goroutine->World->Prop}
theorem UT{x y base n}(h:dh g o)(j:g.status= .running)(m:o.op= .call {callee:= .builtin .append,args:= #[x,y],argTypes:= #[228,228]})(z:(bY g).eval x=v)(A:(bY g).eval y=zR)(q:w.ownsRow base 231 27 v n xs)(u:∀k,v.ownBlock=some k->p.a k)(t:bG TP main p (aK g v) w Stop):bG TP main p g w Stop:=by
 refine qj j λ w1 d=>?_;have c:=F4 m z A;have⟨a,f⟩:=Wl (ty:=o.type) (IC (w':=w1) q λ k l=>d.e k (u k l));have s:(ef (bY g).eval o).run TP w1= .ok (.value v) w1:=by rw[c,k7];erw[a];rfl
 have i:(ef (bY g).eval o).events TP w1 #[]= #[]:=by rw[c,gl];erw[a,f];rfl
 refine⟨_,_,_,p,h.b s,ey.q (xp λ e b=>?_) w1,t.b d⟩;rw[i]at b;simp at b
end
section
variable(A:Ar)(f:Nat->Value)
def E8:=zy (rz (bX J7))
def afU:=gY E8
def ah8:=rz (bX (bX E8))
def Zq:=bX ah8
def R5:List Item:= [.inLoop E8,.inBlock 2,.code lP]
def mF:= [f 0,f 1,f 2,f 3,f 4,f 5,f 6,f 7,f 8,f 9,f 10,f 11,f 12,f 13,f 14,f 15,f 16,f 17,f 18,f 19,f 20,f 21,f 22,f 23,f 24,f 25,f 26,f 27,f 28,f 29]
def MG(a:List Item):=GG 147 (mF f) a [] A.j
end
section
variable(A:Ar)(f:Nat->Value)(x v:Value)
def kT:=MG A f (.inRegion (ek afU) [0,1]:: .code (bX E8)::R5)
theorem Vl(w):dr TP true (kT A f) w= .comm (iM TP true (kT A f)) #[{chan:=f 20,send:=none,zero:=zR}] true (.recv true) w #[]:=by kernel_rfl
theorem aes:(iM TP true (kT A f)).frame=(kT A f).frame/\(iM TP true (kT A f)).callers=(kT A f).callers/\(iM TP true (kT A f)).dying=(kT A f).dying:= ⟨by kernel_rfl,by kernel_rfl,by kernel_rfl⟩
def MV:=fb (iM TP true (kT A f)) v
def fA:=sw (sw (sw (sw (sw (sw f 21 (pb x true)) 22 (.bool true)) 23 x) 11 x) 24 (f 10)) 25 x
def MA(l:List Nat):=MG A f (.inRegion (ek Zq) l:: .inBlock 3::R5)
theorem mV:Cq TP true 14 (MV A f (pb x true)) (MA A (fA f x) [2,3]):=λ w=>by kernel_rfl
def Nv:Op->eV| .call c=>c.args.getD 0 (.const df)|_=> .const df
def Mr:Op->eV| .call c=>c.args.getD 1 (.const df)|_=> .const df
theorem MX:dh (MA A f [2,3]) (bj (MA A f [2,3])):=ao (by kernel_rfl)
theorem Qe:(bj (MA A f [2,3])).op= .call {callee:= .builtin .append,args:= #[Nv (bj (MA A f [2,3])).op,Mr (bj (MA A f [2,3])).op],argTypes:= #[228,228]}:=by kernel_rfl
theorem Kx:(bY (MA A f [2,3])).eval (Nv (bj (MA A f [2,3])).op)=f 24:=by kernel_rfl
theorem Sw:(bY (MA A f [2,3])).eval (Mr (bj (MA A f [2,3])).op)=f 25:=by kernel_rfl
theorem PO:Cq TP true 6 (aK (MA A f [2,3]) v) (kT A (sw (sw f 26 v) 10 v)):=λ w=>by kernel_rfl
def ME:=MG A f [.code (gY lP),.code (bX lP)]
theorem mE:Cq TP true 6 (MV A f (pb x false)) (ME A (sw (sw f 21 (pb x false)) 22 (.bool false))):=λ w=>by kernel_rfl
def NJ:=λ i=>(SC A zR df++ [cX A.c]++hq 9 df).getD i df
theorem ZV:qD TP true 8 (aK (oC A) df)=true:=by kernel_rfl
theorem aee:dh (GL A) (bj (GL A)):=ao (by kernel_rfl)
theorem aho:(bj (GL A)).op= .load 254 (iU (bj (GL A)).op):=by kernel_rfl
theorem aiZ:(bY (GL A)).eval (iU (bj (GL A)).op)=aQ A.d:=by kernel_rfl
theorem gL:Cq TP true 5 (aK (GL A) (cX A.c)) (kT A (NJ A)):=λ w=>by kernel_rfl
end
structure qN(D:RD)(l:List b2)(v:b2)(p:ai)(w:dk):Prop where
 d:∃n,w.ownsRow D.A.d 231 27 v n (l.flatMap D.b)/\lh w v n
 b:∀k,v.ownBlock=some k->p.a k/\p.b k
 c:D.gn p
 e:D.dU w
def vB(D:RD)(l:List b2)(p:ai)(g:ea)(w:dk):=∃f,oD g (kT D.A f)/\f 20=cX D.A.c/\qN D l (f 10) p w
def Iz(D:RD)(l:List b2)(p:ai)(g:ea)(w:dk):=∃f,g=ME D.A f/\qN D l (f 10) p w
structure uT(D:RD):Prop where
 a:D.iO
 b:(D.c.flatMap D.b).length*8<=140737488355328
 c:∀x∈D.c,∀u∈D.b x,u.oneCell'=true
variable{D:RD}{l:List Value}
theorem qN.a{v}(h:qN D l v p w)(b:bO p w w'):qN D l v p w':= ⟨let⟨n,c,d⟩:=h.d; ⟨n,IC c λ k a=>b.e k (h.b k a).1,d.a λ k a=>b.e k (h.b k a).1⟩,h.b,h.c,h.e.b h.c b⟩
theorem aaB(K:uT D)(a:D.gn p)(b:D.dU w):bG TP true p (aK (oC D.A) df) w (vB D []):=by refine zU (adY D.A) (afR D.A) (ZV D.A) (ab3 D.A) ?_;have⟨d,cs,ty,fr,e,f⟩:=K.a.j;refine rR (v:=cX D.A.c) (aee D.A) rfl (aho D.A) (aiZ D.A) (λ w=>(wj w).1) (λ w=>(wj w).2) (a _ d).1 ⟨cs,ty,fr,(b _ d).trans e,f⟩ ?_;refine jb (gL D.A) ?_;refine nQ rfl λ w1 h=> ⟨NJ D.A,.c rfl,rfl,⟨0,?_⟩,λ k g=>?_,a,b.b a h⟩;exact⟨World.ownsRow_nil _ _ _ _,lh.b _⟩;cases g
theorem acH(K:uT D){f x own ob}(VP:f 20=cX D.A.c)(O:qN D l (f 10) p w)(W:∃r,D.c.Perm (l++x::r))(R:bO p w w')(u:D.dU w')(A:D.sa x own ob w')(t:∀a,p'.a a↔p.a a\/ob=some a)(E:∀a,p'.b a↔p.b a\/ob=some a):bG TP true p' (MV D.A f (pb own true)) w' (vB D (l++ [x])):=by
 have h:=O.a R;have⟨n,o,C⟩:=h.d;have g:D.gn p':=λ a d=> ⟨(t a).2 (.inl (h.c a d).1),λ i=>((E a).1 i).elim (h.c a d).2 λ e=>by
  obtain⟨_,_,s⟩| ⟨b,_,_,_,_,_,_,_,s,_,_,_,G⟩:=A;rw[s]at e;cases e;rw[s]at e;cases e;exact G d⟩;have q:∀k,(f 10).ownBlock=some k->p'.a k/\p'.b k:=λ k j=> ⟨(t k).2 (.inl (h.b k j).1),(E k).2 (.inl (h.b k j).2)⟩;have⟨r,B⟩:=W;refine jb (mV D.A f own) ?_;have z:(l++ [x]).flatMap D.b=l.flatMap D.b++D.b x:=by simp
 obtain⟨F,rfl,rfl⟩| ⟨b,off,m,c,cells,ty,fr,rfl,rfl,I,M,J,aa⟩:=A;refine UT (v:=f 10) (MX D.A _) rfl (Qe D.A _) (Kx D.A _) (Sw D.A _) o (λ k j=>(q k j).1) ?_;refine jb (PO D.A _ _) ?_;refine nQ rfl λ w1 i=> ⟨_,.c rfl,VP,?_⟩;have:qN D (l++ [x]) (f 10) p' w':= ⟨⟨n,by rw[z,F,List.append_nil];exact o,C⟩,q,g,u⟩;exact this.a i
 ·have Z:n+m<=(D.c.flatMap D.b).length/27:=by have Y:(l.flatMap D.b).length=n*27:=o.1;have H:(D.c.flatMap D.b).length=((l++x::r).flatMap D.b).length:=(B.flatMap_right D.b).length_eq;simp only[List.flatMap_append,List.flatMap_cons,kq]at H;omega
  have ab:=K.b;refine abV (v:=f 10) (b:=b) (base:=D.A.d) (MX D.A _) rfl (Qe D.A _) (Kx D.A _) (Sw D.A _) o q ((t b).2 (.inr rfl)) ⟨cells,ty,_,I,J⟩ M (K.c x (B.symm.subset (by simp))) (by omega) (Nat.le_of_lt (K.a.d u K.a.j.1)) C ?_;intro w1 U v' w2 P T L Q;have y:=u.b g U;refine jb (PO D.A _ _) ?_;refine nQ rfl λ w3 V=> ⟨_,.c rfl,VP,?_⟩;have N:D.gn (p'.e w1 w2):=λ a d=> ⟨.inl (g a d).1,λ i=>i.elim (g a d).2 λ e=>by have:=K.a.d y d;omega⟩;have:qN D (l++ [x]) v' (p'.e w1 w2) w2:= ⟨⟨n+m,by rw[z];exact P,T⟩,Q,N,λ a d=>(L.block a (K.a.d y d) λ e=>(g a d).2 (q a e.symm).2).trans (y a d)⟩;exact this.a V
theorem ac2{f}(a:qN D l (f 10) p w)(b:bO p w w'):bG TP true p (MV D.A f (pb zR false)) w' (Iz D l):=by exact jb (mE D.A f zR) (nQ rfl λ w1 c=> ⟨_,rfl,(a.a b).a c⟩)
variable(A:Ar)(T:Array Value)
set_option maxHeartbeats 4000000 in
theorem wE{y}(a:y=0\/y=4294967296\/y=4294967297\/y=8589934592\/y=8589934593):CE TP false 93 1 (aK (WA A T) (.int .u64 y)):=by rcases a with rfl|rfl|rfl|rfl|rfl<;>exact⟨λ w=>by kernel_rfl,λ w=>by kernel_rfl,by kernel_rfl⟩
def pd:=dR TP false 103 (aK (WA A T) (.int .u64 1))
theorem YN:Ch TP false 103 1 1 (aK (WA A T) (.int .u64 1)):=λ w=>by kernel_rfl
theorem afO:cP (pd A T) 220 #[aQ A.a]:=ac (by kernel_rfl)
def pF:=dR TP false 20 (aK (pd A T) (.int .u64 1))
theorem ZH:Ch TP false 20 1 1 (aK (pd A T) (.int .u64 1)):=λ w=>by kernel_rfl
theorem ac4:cP (pF A T) 221 #[aQ A.a,.int .u64 0]:=ac (by kernel_rfl)
def pG:=dR TP false 27 (aK (pF A T) df)
theorem VI:Ch TP false 27 1 1 (aK (pF A T) df):=λ w=>by kernel_rfl
def fWL:=λ i=>([aQ A.a,aQ A.e,aQ A.f,aQ A.i,aQ A.d,df,df,df,df,cX A.b]++hq 19 df).getD i df
theorem Xb:qD TP false 7 (oK A)=true:=by kernel_rfl
theorem VY:dh (WL A) (bj (WL A)):=ao (by kernel_rfl)
theorem afN:(bj (WL A)).op= .load 253 (iU (bj (WL A)).op):=by kernel_rfl
theorem Xn:(bY (WL A)).eval (iU (bj (WL A)).op)=aQ A.e:=by kernel_rfl
theorem wN:Cq TP false 5 (aK (WL A) (cX A.b)) (WH A (fWL A) []):=λ w=>by kernel_rfl
theorem Un:cP (pG A T) 199 #[.pointer (some ⟨A.a,1,none⟩),.bool false,.int .i64 0]:=ac (by kernel_rfl)
theorem aa7:gg TP (pG A T)=true:=by kernel_rfl
theorem wZ:CE TP false 23 1 (aK (pG A T) df):= ⟨λ w=>by kernel_rfl,λ w=>by kernel_rfl,by kernel_rfl⟩
end
section
variable{d:Nat}{g:Goroutine}{A:Ar}{P:Program}{J:World->Prop}{S S':Nat->Goroutine->Prop}
theorem kE.b{main:Bool}(k:∀d g,S d g->S' d g):∀{n d:Nat}{g:ea},kE P main J S n d g->kE P main J S' n d g
 |0,_,_,h=>k _ _ h
 |n+1,_,_,h=>h.imp (k _ _) λ⟨a,g',es,b,c,e,f⟩=> ⟨a,g',es,b,c,e,kE.b k f⟩
theorem bM.b{main:Bool}(h:bM P main J d g S)(k:∀d g,S d g->S' d g):bM P main J d g S':= ⟨h.1,let⟨n,x⟩:=h.2; ⟨n,x.b k⟩⟩
def qy(A:Ar)(j d:Nat)(g:ea):Prop:=d=1/\∃a b c e,(j=0/\g=gA A 0 a b c e)\/(j=1/\g=gA A 1 a b c e)\/(j=2/\g=gA A 2 a b c e)
def qB(A:Ar)(j d:Nat)(g:ea):Prop:=d=0/\∃e,(j=0/\g=GO A 0 e)\/(j=1/\g=GO A 1 e)\/(j=2/\g=GO A 2 e)
def sG(D:RD)(p:ai)(g:ea)(w:dk):Prop:=∃f a,oD g (WH D.A f a)/\RD.gZ a p w/\D.gn p/\D.dU w
theorem Vi(h:ta A 0 d g):qy A 0 d g:=by
 obtain⟨f,a,b,c,e,i⟩:=h;exact⟨f,a,b,c,e,.inl ⟨rfl,i⟩⟩
theorem adt(h:ta A 1 d g):qy A 1 d g:=by
 obtain⟨f,a,b,c,e,i⟩:=h;exact⟨f,a,b,c,e,by grind⟩
theorem aem(h:ta A 2 d g):qy A 2 d g:=by
 obtain⟨f,a,b,c,e,i⟩:=h;exact⟨f,a,b,c,e,by grind⟩
theorem UL(h:rB A 0 d g):qB A 0 d g:=by
 obtain⟨a,e,b⟩:=h;exact⟨a,e,.inl ⟨rfl,b⟩⟩
theorem agt(h:rB A 1 d g):qB A 1 d g:=by
 obtain⟨a,e,b⟩:=h;exact⟨a,e,by grind⟩
theorem acQ(h:rB A 2 d g):qB A 2 d g:=by
 obtain⟨a,e,b⟩:=h;exact⟨a,e,by grind⟩
theorem SV:bR 0 0=0:=by decide
theorem Tr:bR 1 0=4294967296:=by decide
theorem Q5:bR 2 0=8589934592:=by decide
theorem w30:bR 3 0=12884901888:=by decide
def vn(A:Ar)(j:Nat)(g:ea):Prop:=g.status= .running/\∃g',(∀w,ba A.a w (bR j 0) 0->dr TP true g w= .go g' (w.setCell (bg A.a) (.int .u64 (bR (j+1) 0))) (gK (bg A.a)))/\
 bM TP true (JW A.a) 1 g' (if j=0 then rT A else qB A j)
theorem adD(A:Ar)(a b c e:b2):vn A 0 (gA A 0 a b c e):=by
 obtain⟨f,g,h⟩:=ZG A a b c e;refine⟨f,jW A 0 4294967296 a b c e,λ w d=>?_,?_⟩
 ·rw[SV]at d;exact g w d
 ·rw[if_pos rfl];exact h
theorem aiD(A:Ar)(a b c e:b2):vn A 1 (gA A 1 a b c e):=by
 obtain⟨h,i,j⟩:=YW A a b c e;refine⟨h,jW A 1 8589934592 a b c e,λ w f=>?_,?_⟩
 ·rw[Tr]at f;exact i w f
 ·rw[if_neg (by omega)];exact j.b λ d g=>agt
theorem adj(A:Ar)(a b c e:b2):vn A 2 (gA A 2 a b c e):=by
 obtain⟨h,i,j⟩:=Zm A a b c e;refine⟨h,jW A 2 12884901888 a b c e,λ w f=>?_,?_⟩
 ·rw[Q5]at f;exact i w f
 ·rw[if_neg (by omega)];exact j.b λ d g=>acQ
theorem VD(A:Ar):∀j d g,qy A j d g->d=1/\g.status= .running/\∃g',(∀w,ba A.a w (bR j 0) 0->dr TP true g w= .go g' (w.setCell (bg A.a) (.int .u64 (bR (j+1) 0))) (gK (bg A.a)))/\
 bM TP true (JW A.a) 1 g' (if j=0 then rT A else qB A j):=by
 intro j d g h;have key:vn A j g->d=1->d=1/\g.status= .running/\∃g',(∀w,ba A.a w (bR j 0) 0->dr TP true g w= .go g' (w.setCell (bg A.a) (.int .u64 (bR (j+1) 0))) (gK (bg A.a)))/\
  bM TP true (JW A.a) 1 g' (if j=0 then rT A else qB A j):=λ k l=> ⟨l,k⟩
 obtain⟨k,a,b,c,e,l⟩:=h;refine key ?_ k;rcases l with⟨f,i⟩| ⟨f,i⟩| ⟨f,i⟩
 ·rw[f,i];exact adD A a b c e
 ·rw[f,i];exact aiD A a b c e
 ·rw[f,i];exact adj A a b c e
theorem aeK(A:Ar):∀d g,rT A d g->d=1/\g.status= .running/\∃g',(∀w,dr TP true g w= .go g' w (fp (.read (dL A.a))))/\bM TP true (JW A.a) 1 g' (qB A 0):=λ d g h=>by
 obtain⟨a,b,g',c,e⟩:=XP A d g h;exact⟨a,b,g',c,e.b λ d g=>UL⟩
section
variable{D:RD}{a:Option Addr}{n c:Nat}{p:ai}{w:World}
theorem Je(K:D.iO)(a:D.gn p)(b:D.dU w):bG TP false p (oK D.A) w (sG D):=by
 refine zU (aeU D.A) (Sn D.A) (Xb D.A) rfl ?_;obtain⟨d,cs,ty,fr,e,f⟩:=K.l;refine rR (v:=cX D.A.b) (VY D.A) (qI (k:=0) (xu (Sn D.A))) (afN D.A) (Xn D.A) (λ w=>(vS w).1) (λ w=>(vS w).2) (a _ d).1 ⟨cs,ty,fr,(b _ d).trans e,f⟩ ?_;exact jb (wN D.A) (nQ rfl λ w1 h=> ⟨_,[],.c rfl,⟨.nil,λ r g=>nomatch g⟩,a,b.b a h⟩)
def uA(D:RD)(j:Nat)(g:ea):Prop:=g.status= .running/\∃g' child,(∀w,dr TP true g w= .spawn g' child w #[])/\bM TP true (JW D.A.a) 0 g' (if j<2 then qy D.A (j+1)else vD D.A)/\
 ∀p w,D.gn p->D.dU w->bG TP false p child w (sG D)
theorem WO(K:D.iO)(e:b2):uA D 0 (GO D.A 0 e):=by
 unfold uA;refine⟨rfl,aK (GO D.A 0 e) df,oK D.A,λ w=>Ir D.A 0 e w,?_,λ p w a b=>Je K a b⟩;exact(ajh D.A e).b λ d g=>adt
theorem aiv(K:D.iO)(e:b2):uA D 1 (GO D.A 1 e):=by
 unfold uA;refine⟨rfl,aK (GO D.A 1 e) df,oK D.A,λ w=>Ir D.A 1 e w,?_,λ p w a b=>Je K a b⟩;exact(VA D.A e).b λ d g=>aem
theorem abi(K:D.iO)(e:b2):uA D 2 (GO D.A 2 e):=by
 unfold uA;refine⟨rfl,aK (GO D.A 2 e) df,oK D.A,λ w=>Ir D.A 2 e w,?_,λ p w a b=>Je K a b⟩;exact UU D.A e
theorem aeR(K:D.iO):∀j d g,qB D.A j d g->d=0/\g.status= .running/\∃g' child,(∀w,dr TP true g w= .spawn g' child w #[])/\bM TP true (JW D.A.a) 0 g' (if j<2 then qy D.A (j+1)else vD D.A)/\
 ∀p w,D.gn p->D.dU w->bG TP false p child w (sG D):=by
 intro j d g⟨f,e,c⟩;have key:uA D j g->d=0/\g.status= .running/\∃g' child,(∀w,dr TP true g w= .spawn g' child w #[])/\bM TP true (JW D.A.a) 0 g' (if j<2 then qy D.A (j+1)else vD D.A)/\
  ∀p w,D.gn p->D.dU w->bG TP false p child w (sG D):=λ c=> ⟨f,c⟩
 refine key ?_;rcases c with⟨a,b⟩| ⟨a,b⟩| ⟨a,b⟩
 ·rw[a,b];exact WO K e
 ·rw[a,b];exact aiv K e
 ·rw[a,b];exact abi K e
end
end
section
variable(A:Ar)
def Bl(d:Nat)(g:ea):Prop:=d=0/\∃T,g=WR A T
def FA(d:Nat)(g:ea):Prop:=d=1/\∃T,g=WA A T
def AA(d:Nat)(g:ea):Prop:=d=1/\∃T,g=pd A T
def Bv(d:Nat)(g:ea):Prop:=d=1/\∃T,g=pF A T
def Br(d:Nat)(g:ea):Prop:=d=1/\∃T,g=pG A T
theorem afz(T:Array b2):(WA A T).status= .running:=by kernel_rfl
theorem aec(T:Array b2):(pd A T).status= .running:=by kernel_rfl
theorem abe(T:Array b2):(pF A T).status= .running:=by kernel_rfl
theorem aco(T:Array b2):(pG A T).status= .running:=by kernel_rfl
def Dj(p:ai)(g:ea)(w:dk):Prop:=∃T,g=WY A T
theorem aim(T:Array b2):bM TP false (JW A.a) 0 (By A T) (Bl A):=
 fP.a (wY A T) (zn (g:=WC A T) (qI (k:=0) (xu (Zi A T))) (λ w⟨st,a,h⟩=>Wj A T w st a h) ⟨rfl,0,⟨rfl,_,rfl⟩⟩)
theorem Wn:∀p g w,Dj A p g w->g.status= .running/\∃g',(∀w',dr TP false g w'= .go g' w')/\bM TP false (JW A.a) 0 g' (Bl A):=by
 rintro p g w⟨T,rfl⟩;exact⟨rfl,By A T,VH A T,aim A T⟩
theorem WB(r:Nat)(a:List Nat)(T:Array b2)(w:dk)(h:w.heap[r]?=some (.deferred (some []))):
 ∃es,dr TP false (ri A (r::a) T) w= .go (ri A a T) {w with heap:=w.heap.setIfInBounds r (.deferred none)} es/\∀p:ai,p.a r->p.b r->∀e∈es,iF p e:=by
 have f:dr TP false (ri A (r::a) T) w=GStep.after (seen TP 162 ((kg r).runT TP w #[]).2) (match((kg r).runT TP w #[]).1 with
  | .ok d w=> .go {(ri A a T)with frame:={(ri A a T).frame with defers:=d++ (a.map pZ++uU A)}} w
  | .halt _ w=> .ended (.stuck "the deferred calls of a range-over-func loop have been taken" ((ri A (r::a) T).frame.pos TP)) w):=by kernel_rfl
 have i:(kg r).runT TP w #[]=(.ok [] {w with heap:=w.heap.setIfInBounds r (.deferred none)},#[⟨.obj r,false,false⟩,⟨.obj r,true,false⟩]):=by
  unfold kg;change(Sem.getObj r _).runT TP w #[]=_;simp only[Sem.runT,h];change(Sem.setObj r _ _).runT TP w _=_;simp only[Sem.runT,h];rfl
 rw[f,i];refine⟨seen TP 162 #[⟨.obj r,false,false⟩,⟨.obj r,true,false⟩],rfl,λ p c g=>?_⟩
 haveI:aW:= ⟨0,λ _=>true,λ _ _=>False,λ _ _ _ h=>h.elim⟩
 refine qv (p:=iF p) λ e b=>?_;simp at b;rcases b with rfl|rfl
 ·show p.a r/\(false=true->p.b r)/\false=false;exact⟨c,λ h=>(by cases h),rfl⟩
 ·show p.a r/\(true=true->p.b r)/\false=false;exact⟨c,λ _=>g,rfl⟩
theorem O8{p}:∀c T w,RD.gZ c p w->bG TP false p (ri A c T) w (Dj A)| [],T,w,_=>nQ rfl λ w1 _=> ⟨T,rfl⟩|r::c,T,w,h=>qj rfl λ w1 n=>by have b:=h.c n;have⟨k1,g,t⟩:=b.b r (by simp);have⟨es,i,j⟩:=WB A r c T w1 t;have d:∀a,a≠r->(w1.heap.setIfInBounds r (.deferred none))[a]?=w1.heap[a]?:=λ a l=>l1 (cB l);refine⟨_,_,es,p,i,⟨by simp,λ a _ m=>d a λ e=>m (e▸g),λ _ h=> .inl h,λ _ h=> .inl h,λ _ h=>h,λ _ h=>h,λ a b k=>absurd k b,j p k1 g,rfl,rfl,rfl⟩,O8 c T _ ⟨(hz.1 b.d).2,λ x f=>?_⟩⟩;have⟨o,q,s⟩:=b.b x (List.mem_cons_of_mem _ f);exact⟨o,q,(d x λ e=>(hz.1 b.d).1 (e▸f)).trans s⟩
theorem afm:∀d g,Bl A d g->d=0/\g.status= .running/\∃g',(∀w,dr TP false g w= .go g' w (fp (.releaseMerge (bg A.a))))/\bM TP false (JW A.a) 0 g' (FA A):=by
 rintro d g⟨rfl,T,rfl⟩;exact⟨rfl,rfl,_,λ w=>cP.b .releaseMerge (by simp) (ahN A T) Yr rfl,Ch.b (wA A T) rfl ⟨rfl,T,rfl⟩⟩
theorem abZ(T:Array b2)(x y:Int)(a:IntKind.u64.wrap (x+18446744069414584320)=y)(w:dk)(b:Int)(h:ba A.a w x b):
 dr TP false (WA A T) w= .go (aK (WA A T) (.int .u64 y)) (w.setCell (bg A.a) (.int .u64 y)) (gK (bg A.a)):=by
 have:=cP.p (P:=TP) (main:=false) (w:=w) (ad:=bg A.a) (x:=x) (aiJ A T) MD (ox h) (AG h);rw[a]at this;exact this
def H0(T:Array b2)(c b:Nat):Prop:=∃g',(∀w a,ba A.a w (bR c b) a->dr TP false (WA A T) w= .go g' (w.setCell (bg A.a) (.int .u64 (bR (c- 1) b))) (gK (bg A.a)))/\
 bM TP false (if c=1/\b=1 then JW A.a else JT) 1 g' (if c=1/\b=1 then AA A else gM)
theorem vF{T:Array b2}{c b:Nat}{x y:Int}(d:IntKind.u64.wrap (x+18446744069414584320)=y)(e1:bR c b=x)(e2:bR (c- 1) b=y)(a:bM TP false (if c=1/\b=1 then JW A.a else JT) 1 (aK (WA A T) (.int .u64 y)) (if c=1/\b=1 then AA A else gM)):H0 A T c b:=by
 unfold H0;refine⟨aK (WA A T) (.int .u64 y),λ w e h=>?_,a⟩;rw[e1]at h;rw[e2];exact abZ A T x y d w e h
theorem Ul(T):∀c b,0<c->c<=3->b<=1->H0 A T c b:=by
 intro c b h0 f e;have d:b=0\/b=1:=by omega
 have a:c=1\/c=2\/c=3:=by omega
 rcases a with a|a|a<;>rcases d with d|d<;>rw[a,d];exact vF A (x:=4294967296) (y:=0) rfl rfl rfl (by rw[if_neg (by omega),if_neg (by omega)];exact(wE A T (by simp)).a);exact vF A (x:=4294967297) (y:=1) rfl rfl rfl (by rw[if_pos ⟨rfl,rfl⟩,if_pos ⟨rfl,rfl⟩];exact Ch.b (g':=pd A T) (YN A T) rfl ⟨rfl,T,rfl⟩);exact vF A (x:=8589934592) (y:=4294967296) rfl rfl rfl (by rw[if_neg (by omega),if_neg (by omega)];exact(wE A T (by simp)).a);exact vF A (x:=8589934593) (y:=4294967297) rfl rfl rfl (by rw[if_neg (by omega),if_neg (by omega)];exact(wE A T (by simp)).a);exact vF A (x:=12884901888) (y:=8589934592) rfl rfl rfl (by rw[if_neg (by omega),if_neg (by omega)];exact(wE A T (by simp)).a);exact vF A (x:=12884901889) (y:=8589934593) rfl rfl rfl (by rw[if_neg (by omega),if_neg (by omega)];exact(wE A T (by simp)).a)
theorem Vj:∀d g,FA A d g->d=1/\g.status= .running/\∀c b,0<c->c<=3->b<=1->∃g',(∀w f,ba A.a w (bR c b) f->dr TP false g w= .go g' (w.setCell (bg A.a) (.int .u64 (bR (c- 1) b))) (gK (bg A.a)))/\
 bM TP false (if c=1/\b=1 then JW A.a else JT) 1 g' (if c=1/\b=1 then AA A else gM):=by
 intro d g⟨a,T,e⟩;rw[e];exact⟨a,afz A T,Ul A T⟩
theorem ZI:bR 0 1=1:=by decide
theorem VW(T:Array b2)(w:dk)(a:Int)(h:ba A.a w (bR 0 1) a):dr TP false (pd A T) w= .go (aK (pd A T) (.int .u64 1)) w (jK (bg A.a)):=by
 rw[ZI]at h;exact cP.c (ad:=bg A.a) (afO A T) Gb (ox h)
theorem adI(T:Array b2):bM TP false (JW A.a) 1 (aK (pd A T) (.int .u64 1)) (Bv A):=Ch.b (g':=pF A T) (ZH A T) rfl ⟨rfl,T,rfl⟩
theorem agx:∀d g,AA A d g->d=1/\g.status= .running/\∃g',(∀w c,ba A.a w (bR 0 1) c->dr TP false g w= .go g' w (jK (bg A.a)))/\bM TP false (JW A.a) 1 g' (Bv A):=by
 intro d g⟨a,T,b⟩;rw[b];exact⟨a,aec A T,aK (pd A T) (.int .u64 1),VW A T,adI A T⟩
theorem abH(T:Array b2)(w:dk)(a:Int)(h:ba A.a w (bR 0 1) a):dr TP false (pF A T) w= .go (aK (pF A T) df) (w.setCell (bg A.a) (.int .u64 0)) (qP (bg A.a)):=
 cP.m (ad:=bg A.a) (ac4 A T) ahh (ox h) (AG h)
theorem ag0(T:Array b2):bM TP false (JW A.a) 1 (aK (pF A T) df) (Br A):=Ch.b (g':=pG A T) (VI A T) rfl ⟨rfl,T,rfl⟩
theorem ael:∀d g,Bv A d g->d=1/\g.status= .running/\∃g',(∀w c,ba A.a w (bR 0 1) c->dr TP false g w= .go g' (w.setCell (bg A.a) (.int .u64 0)) (qP (bg A.a)))/\bM TP false (JW A.a) 1 g' (Br A):=by
 intro d g⟨a,T,b⟩;rw[b];exact⟨a,abe A T,aK (pF A T) df,abH A T,ag0 A T⟩
theorem UB(T:Array b2)(w:dk)(h:ba A.a w 0 0):dr TP false (pG A T) w= .go (aK (pG A T) df) (w.setCell (dL A.a) (.int .u32 1)) (lu (dL A.a)):=
 cP.h (ad:=dL A.a) (Un A T) agW rfl (Ap h) (Md h)
theorem abo(T:Array b2):bM TP false JT 1 (aK (pG A T) df) gM:=(wZ A T).a
theorem abQ:∀d g,Br A d g->d=1/\g.status= .running/\gg TP g=true/\∃g',(∀w,ba A.a w 0 0->dr TP false g w= .go g' (w.setCell (dL A.a) (.int .u32 1)) (lu (dL A.a)))/\bM TP false JT 1 g' gM:=by
 intro d g⟨a,T,b⟩;rw[b];exact⟨a,aco A T,aa7 A T,aK (pG A T) df,UB A T,abo A T⟩
variable{y:Int}{c:Nat}
def wC(d:Nat)(g:ea):Prop:=d=1/\∃f h,g=oU A f h
def Dz(c d:Nat)(g:ea):Prop:=d=1/\∃f h y,YY c y/\g=oA A f h y
def GQ(d:Nat)(g:ea):Prop:=d=1/\∃f h c y,YY c y/\g=vC A f h y
def Jb(d:Nat)(g:ea):Prop:=d=1/\∃f h c y,YY c y/\g=s9 A f h y
def BM(d:Nat)(g:ea):Prop:=d=1/\∃f h c y,YY c y/\g=tB A f h y
def Ax(d:Nat)(g:ea):Prop:=d=0/\((∃f h,g=zM A f h)\/∃f h c y,YY c y/\g=Eh A f h y)
def ED(p:ai)(g:ea)(w:dk):Prop:=∃f,oD g (F7 A f [1])/\f 17=cX A.c
theorem RP(h:YY c y):bR c 0=y/\bR c 1=y+1:=by
 rcases h with⟨rfl,rfl⟩| ⟨rfl,rfl⟩| ⟨rfl,rfl⟩<;>decide
theorem Sg(f h:Nat->b2):bM TP false (JW A.a) 1 (uX A f h) (wC A):=Ch.b (fLd A f h) rfl ⟨rfl,f,h,rfl⟩
theorem ahR(f h:Nat->b2):(oU A f h).status= .running:=by kernel_rfl
theorem afF(f h:Nat->b2):(DC A f h).status= .running:=by kernel_rfl
def JQ(f h:Nat->b2)(c:Nat):Prop:=∃g',(∀w a,ba A.a w (bR c 0) a->dr TP false (oU A f h) w= .go g' w (jK (bg A.a)))/\bM TP false (JW A.a) 1 g' (if c=0 then Ax A else Dz A c)
theorem Ol(f h:Nat->b2)(c:Nat)(y:Int)(e:bR c 0=y)(w:dk)(b:Int)(a:ba A.a w (bR c 0) b):dr TP false (oU A f h) w= .go (aK (oU A f h) (.int .u64 y)) w (jK (bg A.a)):=by
 rw[e]at a;exact cP.c (ad:=bg A.a) (adr A f h) Gb (ox a)
theorem adZ(f h:Nat->b2):JQ A f h 0:=by
 exact⟨aK (oU A f h) (.int .u64 0),Ol A f h 0 0 SV,Ch.a (g':=DC A f h) (fQ A f h) rfl (zn (afF A f h) (λ w⟨st,b,a⟩=>Vt A f h w st b a) ⟨rfl,0,⟨rfl,.inl ⟨f,h,rfl⟩⟩⟩)⟩
theorem yy1:YY 1 4294967296:= .inl ⟨rfl,rfl⟩
theorem yy2:YY 2 8589934592:= .inr (by omega)
theorem yy3:YY 3 12884901888:= .inr (by omega)
theorem YI(f h:Nat->b2)(a:YY c y):JQ A f h c:=by
 refine⟨_,Ol A f h c y (RP a).1,?_⟩;rw[if_neg (by rcases a with⟨e,_⟩| ⟨e,_⟩| ⟨e,_⟩<;>omega)];exact Ch.b (g':=oA A f h y) (mi A f h a).z rfl ⟨rfl,f,h,y,a,rfl⟩
theorem ahC(f h:Nat->b2):∀c,c<=3->JQ A f h c:=by
 intro c a;have:c=0\/c=1\/c=2\/c=3:=by omega
 grind[adZ,YI,yy1,yy2,yy3]
theorem ac9:∀d g,wC A d g->d=1/\g.status= .running/\∀c,c<=3->∃g',(∀w e,ba A.a w (bR c 0) e->dr TP false g w= .go g' w (jK (bg A.a)))/\bM TP false (JW A.a) 1 g' (if c=0 then Ax A else Dz A c):=by intro d g⟨a,f,h,b⟩;rw[b];exact⟨a,ahR A f h,ahC A f h⟩
theorem aiS(l:List b2)(a:l.length=84)(h0:l[0]?=some (aQ A.a)):l=yz A (λ i=>l.getD i df):=by
 apply List.ext_getElem
 all_goals grind[yz,et,Option.some.injEq]
theorem Zw(f:Nat->b2)(g:ea)(c:g.frame={fn:=165,tmps:=g.frame.tmps,todo:= [.code ve,.inLoop ve,.inBlock 0],defers:= [],mode:= .run,kind:= .normal})(d:g.frame.tmps.size=84)(h0:g.frame.tmps[0]?=some (aQ A.a))
 (b:g={frame:=g.frame,callers:= [Db A f,Ao A],status:= .running,dying:=none}):∃h,g=uX A f h:=by
 refine⟨λ i=>g.frame.tmps.toList.getD i df,?_⟩;have a:g.frame.tmps= ⟨yz A (λ i=>g.frame.tmps.toList.getD i df)⟩:=Array.ext' (aiS A g.frame.tmps.toList (by omega) (by grind))
 grind[uX,yz,df,ve,Db,Ao]
theorem ahI(f h:Nat->b2)(H:SQ A f h y):bM TP false (JW A.a) 1 (aK (oA A f h y) (.bool false)) (wC A):=by
 obtain⟨a,e⟩:=Zw A f (uk A f h y) H.u H.t H.b H.l;exact H.x.a e (Sg A f a)
def acI(c:Nat)(g:ea):Prop:=g.status= .running/\0<c/\c<=3/\(∃g',(∀w a,ba A.a w (bR c 0) a->dr TP false g w= .go g' (w.setCell (bg A.a) (.int .u64 (bR c 1))) (gK (bg A.a)))/\bM TP false (JW A.a) 1 g' (GQ A))/\
 ∃g',(∀w c' a,c'<c->ba A.a w (bR c' 0) a->dr TP false g w= .go g' w (jK (bg A.a)))/\bM TP false (JW A.a) 1 g' (wC A)
theorem Xi:∀c d g,Dz A c d g->d=1/\acI A c g:=by
 intro c d g⟨m,f,h,y,b,n⟩;have H:=mi A f h b;have⟨k,l⟩:=RP b;have j:0<c/\c<=3:=by rcases b with⟨e,_⟩| ⟨e,_⟩| ⟨e,_⟩<;>rw[e]<;>omega
 rw[n];refine⟨m,H.k,j.1,j.2,⟨aK (oA A f h y) (.bool true),λ w i a=>?_,H.C.a (g':=CH A f h y) rfl (zn H.g (λ w⟨st,i,a⟩=>H.p w st i a) ⟨H.n,0,rfl,f,h,c,y,b,rfl⟩)⟩,aK (oA A f h y) (.bool false),λ w c' i o a=>?_,ahI A f h H⟩;rw[k]at a;rw[l];exact cP.l (ad:=bg A.a) H.a OT (ox a) (AG a);refine cP.d (ad:=bg A.a) H.a OT (ox a) (AG a) ?_;grind[bR]
def ae1(g:ea):Prop:=g.status= .running/\∃g',(∀w,dr TP false g w= .go g' w (fp (.write (dL A.a))))/\bM TP false (JW A.a) 1 g' (Jb A)
def Ga(g:ea):Prop:=g.status= .running/\g.offers=none/\(∀w st,ba A.a w st 0->dr TP false g w= .go {g with status:= .blocked} w #[])/\
 ∃g',(∀w st,ba A.a w st 1->dr TP false g w= .go g' (w.setCell (dL A.a) (.int .u32 0)) (lu (dL A.a)))/\bM TP false (JW A.a) 1 g' (BM A)
def Ot(g:ea):Prop:=g.status= .running/\∃g',(∀w a,ba A.a w 0 a->dr TP false g w= .go g' w (jK (bg A.a)))/\bM TP false (JW A.a) 1 g' (Ax A)
theorem Xy(g:ea)(b:cP g 204 #[.pointer (some ⟨A.a,1,none⟩),.bool false])(h1:g.status= .running)(h2:g.offers=none)(c:bM TP false (JW A.a) 1 (aK g df) (BM A)):Ga A g:=
 ⟨h1,h2,λ w st a=>cP.j b h1 h2 Qx rfl (Ap a),_,λ w st a=>cP.i (n:=1) b Qx rfl (Ap a) (by decide) (Md a),c⟩
theorem acb:∀d g,GQ A d g->d=1/\ae1 A g:=by
 rintro d g⟨b,f,h,c,y,a,rfl⟩;have H:=mi A f h a;exact⟨b,rfl,_,λ w=>cP.b _ (by simp) H.j ZU rfl,H.D.b (g':=s9 A f h y) rfl ⟨rfl,f,h,c,y,a,rfl⟩⟩
theorem WN(f h:Nat->b2){c:Nat}(a:YY c y):Ga A (s9 A f h y):=
 Xy A _ (mi A f h a).i (mi A f h a).q (mi A f h a).r (Ch.b (g':=tB A f h y) (mi A f h a).E rfl ⟨rfl,f,h,c,y,a,rfl⟩)
theorem abC(f h:Nat->b2){c:Nat}(a:YY c y):Ot A (tB A f h y):=
 ⟨(
  mi A f h a).d,_,λ w d b=>cP.c (ad:=bg _) (mi A f h a).c Gb (ox b),
  Ch.a (g':=Er A f h y) (mi A f h a).B rfl (zn (mi A f h a).e (λ w⟨_,d,b⟩=>(mi A f h a).s w _ _ b) ⟨rfl,0,⟨rfl,by grind⟩⟩)⟩
theorem Wp:∀d g,Jb A d g->d=1/\Ga A g:=by intro d g⟨a,f,h,c,y,e,b⟩;grind[WN]
theorem Uz:∀d g,BM A d g->d=1/\Ot A g:=by intro d g⟨a,f,h,c,y,e,b⟩;grind[abC]
variable{D:RD}{a:Option Addr}{n:Nat}{p:ai}{w:World}
theorem Lu(K:D.iO)(f:Nat->b2)(e:D.gn p)(g:D.dU w):bG TP false p (F7 D.A f [0,1]) w (ED D.A):=by
 obtain⟨a,cs,ty,fr,b,d⟩:=K.j;refine rR (v:=cX D.A.c) (agm D.A f) rfl (ah3 D.A f) (Wd D.A f) (λ w=>(wj w).1) (λ w=>(wj w).2) (e _ a).1 ⟨cs,ty,fr,(g _ a).trans b,d⟩ ?_;rw[U9];exact nQ rfl λ w1 _=> ⟨_,.c rfl,rfl⟩
def TM(D:RD)(g:ea):Prop:=g.status= .running/\∃g',(∀w,dr TP false g w= .go g' w (fp (.acquire (bg D.A.a))))/\∀p w,D.gn p->D.dU w->bG TP false p g' w (ED D.A)
theorem afo(K:D.iO)(f h:Nat->b2):TM D (zM D.A f h):=
 ⟨rfl,_,λ w=>cP.b _ (by simp) (agK _ f h) SR rfl,λ p w a b=>jb (XX _ f h) (Lu K _ a b)⟩
theorem WK(K:D.iO):∀d g,Ax D.A d g->d=0/\TM D g:=by
 rintro d g⟨a,⟨f,h,rfl⟩| ⟨f,h,c,y,i,rfl⟩⟩
 ·grind[afo]
 ·have H:=mi D.A f h i;exact⟨a,rfl,_,λ w=>cP.b _ (by simp) H.m SR rfl,λ p w b e=>jb H.o (Lu K _ b e)⟩
theorem Ml{P:ew}{g g0:ea}(h:oD g g0):gg P g=gg P g0:=by
 unfold gg;rw[h.d]
theorem aeF:∀p g w,ED D.A p g w->g.status= .running/\gg TP g=true/\∃g',(∀w s r,w.heap[D.A.c]?=some (.chan 0 #[] false s r false)->dr TP false g w= .go g' (w.setChan D.A.c 0 #[] true s r false) (iS D.A.c))/\bM TP false JT 0 g' gM:=by intro p g w⟨f,a,b⟩;refine⟨a.h,(Ml a).trans (aaq D.A f),aK (F7 D.A f [1]) df,λ w s r c=>?_,(fE D.A f).a⟩;rw[a.f];exact dh.e (Yk D.A f) (aiq D.A f) ((acr D.A f).trans b) c (ahX D.A f)
theorem Zy(L:ra D a n c):∀k p g w,fHead D a n c k p g w->D.c[k]?=none->g.status= .running/\gg TP g=true/\∃g',(∀w s r,w.heap[D.A.b]?=some (.chan 0 #[] false s r false)->dr TP false g w= .go g' (w.setChan D.A.b 0 #[] true s r false) (iS D.A.b))/\bM TP false (JW D.A.a) 0 g' (wC D.A):=by intro k p g w h0 i;obtain⟨f,_,_,_,d,_⟩| ⟨_,f,e,b⟩:=h0;rw[i]at d;cases d;refine⟨b.h,(Ml b).trans (Wc D.A f),aK (F5 D.A f [1]) df,λ w s r h=>?_,fP.a (g':=uX D.A f h0) (fW D.A f) (Sg D.A f h0)⟩;rw[b.f];exact dh.e (abF D.A f) (agc D.A f) ((afH D.A f).trans e) h (aei D.A f)
theorem aji(A:Ar)(f:Nat->b2)(h:f 12=cX A.b)(w:dk):dr TP false (F3 A f [2]) w= .comm (iM TP false (F3 A f [2])) #[scase A.b (f 13) (.tuple #[])] true .send w #[]:=by
 rw[We,h];rfl
theorem abp(L:ra D a n c):∀k x p g w,fHead D a n c k p g w->D.c[k]?=some x->g.status= .running/\∃d,(∀w',bO p w w'->dr TP false g w'= .comm d #[scase D.A.b x (.tuple #[])] true .send w' #[])/\∀p' w',D.gn p'->D.dU w'->bG TP false p' (fb d df) w' (fHead D a n c (k+1)):=by intro k x p g w h0 b;obtain⟨f,l,m,j,h,i⟩| ⟨e,_⟩:=h0;rw[b]at h;cases h;refine⟨i.h,iM TP false (F3 D.A f [2]),λ w' _=>?_,λ p' w' o q=>abK L l m o q⟩;rw[i.f];exact aji D.A f j w';rw[e,<-L.i]at b;rw[List.getElem?_eq_none (ei _)]at b;cases b
theorem abB(K:D.iO):∀p g w,sG D p g w->g.status= .running/\∃b,(∀w',dr TP false g w'= .comm b #[rcase D.A.b zN] true (.recv true) w' #[])/\(b.frame=g.frame/\b.callers=g.callers/\b.dying=g.dying)/\(∀x w',x∈D.c->bO p w w'->D.dU w'->bG TP false p (fb b (.tuple #[x,.bool true])) w' (D.AS x))/\∀w',bO p w w'->D.dU w'->bG TP false p (fb b (.tuple #[zN,.bool false])) w' (Dj D.A):=by intro p g w⟨f,a,c,e,i,n⟩;have⟨k,l,m⟩:=ahL D.A f a;refine⟨c.h,iM TP false (WH D.A f a),λ w'=>(c.f w').trans (abR D.A f a w'),⟨k.trans c.d.symm,l.trans c.b.symm,m.trans c.e.symm⟩,λ x w' j d h=>?_,λ w' d h=>?_⟩;exact jb (wV D.A f a x) (agE K j f i h (e.c d));exact jb (wW D.A f a zN) (GN rfl (af7 D.A a _) (O8 D.A a _ w' (e.c d)))
theorem XY(K:D.iO):∀x p g w,D.AS x p g w->g.status= .running/\∃own d l,(∀w',bO p w w'->dr TP false g w'= .comm l #[scase D.A.c own (.tuple #[])] true .send w' #[])/\D.sa x own d w/\(∀b,d=some b->p.b b)/\∀p' w',(∀a,p'.a a↔p.a a/\d≠some a)->(∀a,p'.b a↔p.b a/\d≠some a)->bO p' w w'->D.dU w'->bG TP false p' (fb l df) w' (sG D):=by
 intro x p g w⟨f,i,d,n,v,t,A,s,o,I⟩;refine⟨n.h,f 28,d,iM TP false (WS D.A f i),λ w' _=>(n.f w').trans (acP D.A f i v w'),t,λ b m=>(A b m).2,λ p' w' B E k C=>?_⟩;have y:∀b,d=some b->(¬D.d b)/\∃cs ty fr,w.heap[b]?=some (.cells cs ty fr):=λ b m=>by obtain⟨_,_,e⟩| ⟨F,_,_,_,cs,_,_,_,e,H,_,_,G⟩:=t;all_goals grind
 have q:D.gn p':=λ a j=> ⟨(B a).2 ⟨(o a j).1,λ e=>(y a e).1 j⟩,λ h=>(o a j).2 ((E a).1 h).1⟩;have z:RD.gZ i p' w:= ⟨s.d,λ r k=>by have⟨J,L,M⟩:=s.b r k;grind⟩;exact jb (wT D.A f i) (nQ rfl λ w1 u=> ⟨f,i,.c rfl,(z.c k).c u,q,C.b q u⟩)
theorem abm(A:Ar)(f:Nat->b2)(h:f 20=cX A.c)(w:dk):dr TP true (kT A f) w= .comm (iM TP true (kT A f)) #[rcase A.c zR] true (.recv true) w #[]:=by
 rw[Vl,h];rfl
theorem ahG(K:uT D):∀l p g w,vB D l p g w->g.status= .running/\∃b,(∀w',dr TP true g w'= .comm b #[rcase D.A.c zR] true (.recv true) w' #[])/\(b.frame=g.frame/\b.callers=g.callers/\b.dying=g.dying)/\(∀x own d p' w',(∃r,D.c.Perm (l++x::r))->bO p w w'->D.dU w'->D.sa x own d w'->(∀a,p'.a a↔p.a a\/d=some a)->(∀a,p'.b a↔p.b a\/d=some a)->bG TP true p' (fb b (.tuple #[own,.bool true])) w' (vB D (l++ [x])))/\∀w',bO p w w'->D.dU w'->bG TP true p (fb b (.tuple #[zR,.bool false])) w' (Iz D l):=by intro l p g w⟨f,c,h,i⟩;have⟨q,s,t⟩:=aes D.A f;exact⟨c.h,iM TP true (kT D.A f),λ w'=>(c.f w').trans (abm D.A f h w'),⟨q.trans c.d.symm,s.trans c.b.symm,t.trans c.e.symm⟩,λ x own d p' w' o e j k m n=>acH K h i o e j k m n,λ w' e j=>ac2 i e⟩
theorem adP(K:uT D)(L:ra D a n c):∀d g,vD D.A d g->d=0/\g.status= .running/\∃g' child,(∀w,dr TP true g w= .spawn g' child w #[])/\(∀p w,D.gn p->D.dU w->bG TP true p g' w (vB D []))/\∀p w,D.gn p->D.dU w->bG TP false p child w (fHead D a n c 0):=by intro d g⟨f,h⟩;rw[h];exact⟨f,rfl,aK (oC D.A) df,AD D.A,λ w=>ag4 D.A w,λ p w b e=>aaB K b e,λ p w b e=>VM L b e⟩
def Ft(D:RD)(a:Option gw)(n c:Nat):dY TP where
 a:=D.A.a
 c:=D.A.b
 b:=D.A.c
 y:=zN
 o:=zR
 d:=D.c
 z:=D.d
 K:=D.e
 j:=D.sa
 n:=qy D.A
 t:=rT D.A
 B:=qB D.A
 w:=vD D.A
 e:=vB D
 l:=Iz D
 f:=sG D
 k:=D.AS
 D:=Dj D.A
 F:=Bl D.A
 G:=FA D.A
 x:=AA D.A
 u:=Bv D.A
 E:=Br D.A
 i:=fHead D a n c
 q:=wC D.A
 H:=Dz D.A
 C:=GQ D.A
 m:=Jb D.A
 r:=BM D.A
 A:=Ax D.A
 s:=ED D.A
theorem XN(K:uT D)(L:ra D a n c):(Ft D a n c).g where
 F:=by
  intro x own b w h Z;rcases h with⟨_,_,e⟩| ⟨Y,_,_,_,_,_,_,_,e,_,_,_,j⟩
  ·cases e
  ·cases e;trivial
 e:=λ x own aa w w' h W=>Ox h W
 M:=VD D.A
 A:=aeK D.A
 Q:=aeR K.a
 K:=adP K L
 h:=ahG K
 f:=λ l p g w w' h r=>by
  obtain⟨f,d,s,U⟩:=h;exact⟨f,d,s,U.a r⟩
 o:=λ l p g w g' h v j J P=>by
  obtain⟨f,d,s,U⟩:=h;exact⟨f,⟨j.trans d.d,J.trans d.b,P.trans d.e,v⟩,s,U⟩
 m:=λ p g w w' h r=>by
  obtain⟨f,X,d,T,k,V⟩:=h;exact⟨f,_,d,T.c r,k,V.b k r⟩
 n:=λ p g w g' h v j J P=>by
  obtain⟨f,X,d,T,k,V⟩:=h;exact⟨f,_,⟨j.trans d.d,J.trans d.b,P.trans d.e,v⟩,T,k,V⟩
 S:=λ l p g w h=>by
  obtain⟨f,e,_⟩:=h;rw[e];rfl
 i:=abB K.a
 D:=XY K.a
 R:=Wn D.A
 L:=afm D.A
 H:=Vj D.A
 B:=agx D.A
 t:=ael D.A
 y:=abQ D.A
 C:=abp L
 O:=Zy L
 E:=ac9 D.A
 N:=Xi D.A
 z:=acb D.A
 u:=Wp D.A
 q:=Uz D.A
 I:=WK K.a
 G:=aeF
end
section
open Go.ConcN (sumTo upd sumTo_upd upd_ne upd_same)
def lG(P:ew)(main:Bool)(Stop:ai->ea->dk->Prop):dI->ai->ea->dk->Prop
 | .eM,p,g,w=>∀d,Stop p g (w.at d)
 | .mk f,p,g,w=>(∀d,Stop p g (w.at d))\/
  (g.status= .running/\∀d,∃g' w' es p',dr P main g (w.at d)= .go g' w' es/\g'.status= .running/\ey p p' (w.at d) w' es/\lG P main Stop (f (w.at d)) p' g' w')
section
variable{P:Program}{S:Nat->Prop}{Stop:ai->Goroutine->World->Prop}
theorem UY{B0}:∀r M p c a w sl t q,Go.ConcN.sumTo c.size q<=M->c[0]?=some a->nc P t c q->n1 (eG S) w.heap.size t->gI B0 p t->(∀b,S b->b<w.heap.size/\¬p.a b)->(∀b,p.a b->b<w.heap.size)->lG P true Stop r p a w->∃N h a' w' o t' q' p',Go.runNT P N (lk c w sl) t=(.next (lk h w' o),t')/\h.size=c.size/\h[0]?=some a'/\Stop p' a' w'/\nc P t' h q'/\n1 (eG S) w'.heap.size t'/\gI B0 p' t'/\(∀b,p.a b->p'.a b)/\(∀b,S b->b<w'.heap.size/\¬p'.a b)/\(∀b,p'.a b->b<w'.heap.size)/\iG p w p' w':=by
 intro r
 induction r using dI.b.induction with|_ r R=>
  intro M
  induction M with
  |zero=>intro p c a w sl t q L h0 m u s v z J;cases r with|eM=>exact⟨0,_,a,w,_,t,q,p,rfl,rfl,h0,J _,m,u,s,λ _ x=>x,v,z,.b _ _⟩|mk f=>obtain aj| ⟨E,I⟩:=J;exact⟨0,_,a,w,_,t,q,p,rfl,rfl,h0,aj _,m,u,s,λ _ x=>x,v,z,.b _ _⟩;exact Kg (M:=0) R (by omega) L h0 m u s v z E I
  |succ M au=>intro p c a w sl t q L h0 m u s v z J;cases r with|eM=>exact⟨0,_,a,w,_,t,q,p,rfl,rfl,h0,J _,m,u,s,λ _ x=>x,v,z,.b _ _⟩|mk f=>
    obtain aj| ⟨E,I⟩:=J;exact⟨0,_,a,w,_,t,q,p,rfl,rfl,h0,aj _,m,u,s,λ _ x=>x,v,z,.b _ _⟩;exact Kg (M:=M+1) R (λ k aJ=>by
     obtain rfl:k=M:=by omega
     omega) L h0 m u s v z E I
where
 Kg {f:World->dI} {M:Nat}
  (R:∀y,dI.a y (.mk f)->∀(M:Nat)(p:ai)(c:Array Goroutine)(a:Goroutine)(w:World)(sl:Option (Nat×Nat))(t:Trace)(q:Nat->Nat),sumTo c.size q<=M->c[0]?=some a->Leavers P t c q->Past (eG S) w.heap.size t->gI B0 p t->
   (∀b,S b->b<w.heap.size/\¬p.a b)->(∀b,p.a b->b<w.heap.size)->lG P true Stop y p a w->
   ∃(N:Nat)(h:Array Goroutine)(a':Goroutine)(w':World)(o:Option (Nat×Nat))(t':Trace)(q':Nat->Nat)(p':ai),
    runNT P N (crowd c w sl) t=(.next (crowd h w' o),t')/\h.size=c.size/\h[0]?=some a'/\Stop p' a' w'/\Leavers P t' h q'/\Past (eG S) w'.heap.size t'/\gI B0 p' t'/\(∀b,p.a b->p'.a b)/\(∀b,S b->b<w'.heap.size/\¬p'.a b)/\(∀b,p'.a b->b<w'.heap.size)/\iG p w p' w')
  (au:∀k,k+1=M->∀(p:ai)(c:Array Goroutine)(a:Goroutine)(w:World)(sl:Option (Nat×Nat))(t:Trace)(q:Nat->Nat),sumTo c.size q<=k->c[0]?=some a->Leavers P t c q->Past (eG S) w.heap.size t->gI B0 p t->
   (∀b,S b->b<w.heap.size/\¬p.a b)->(∀b,p.a b->b<w.heap.size)->lG P true Stop (.mk f) p a w->
   ∃(N:Nat)(h:Array Goroutine)(a':Goroutine)(w':World)(o:Option (Nat×Nat))(t':Trace)(q':Nat->Nat)(p':ai),
    runNT P N (crowd c w sl) t=(.next (crowd h w' o),t')/\h.size=c.size/\h[0]?=some a'/\Stop p' a' w'/\Leavers P t' h q'/\Past (eG S) w'.heap.size t'/\gI B0 p' t'/\(∀b,p.a b->p'.a b)/\(∀b,S b->b<w'.heap.size/\¬p'.a b)/\(∀b,p'.a b->b<w'.heap.size)/\iG p w p' w')
  {p:ai} {c:Array Goroutine} {a:Goroutine} {w:World} {sl:Option (Nat×Nat)} {t:Trace} {q:Nat->Nat} (L:sumTo c.size q<=M) (h0:c[0]?=some a) (m:Leavers P t c q) (u:Past (eG S) w.heap.size t) (s:gI B0 p t)
  (v:∀b,S b->b<w.heap.size/\¬p.a b) (z:∀b,p.a b->b<w.heap.size) (E:a.status= .running)
  (I:∀d,∃g' w' es p',stepG P true a (w.at d)= .go g' w' es/\g'.status= .running/\ey p p' (w.at d) w' es/\lG P true Stop (f (w.at d)) p' g' w'):
  ∃(N:Nat)(h:Array Goroutine)(a':Goroutine)(w':World)(o:Option (Nat×Nat))(t':Trace)(q':Nat->Nat)(p':ai),
   runNT P N (crowd c w sl) t=(.next (crowd h w' o),t')/\h.size=c.size/\h[0]?=some a'/\Stop p' a' w'/\Leavers P t' h q'/\Past (eG S) w'.heap.size t'/\gI B0 p' t'/\(∀b,p.a b->p'.a b)/\(∀b,S b->b<w'.heap.size/\¬p'.a b)/\(∀b,p'.a b->b<w'.heap.size)/\iG p w p' w':=by
  have ay:∀g∈c,awake g:=by
   intro g F;obtain⟨i,K,rfl⟩:=Array.mem_iff_getElem.1 F;rcases Nat.eq_zero_or_pos i with rfl|ae
   ·grind[Array.getElem?_eq_getElem,awake_of]
   ·exact awake_of ((m.old i _ ae (by grind)).status.elim .inl λ x=> .inr (.inr x))
  obtain⟨i,g,d,o,K,F,aD⟩:=crowd_pick (P:=P) (w:=w) (sl:=sl) ay ⟨0,a,h0,E⟩;rcases Nat.eq_zero_or_pos i with rfl|ae
  ·
   obtain rfl:g=a:=by grind
   obtain⟨a',w',es,p',aA,_,B,ax⟩:=I d;have aq:=runT_crowd_go (P:=P) (sl:=o) (i:=0) K (show stepG P (0==0) g (w.at d)=_ from aA);have Q:((c.map (woken P g a' w')).setIfInBounds 0 a').size=c.size:=by simp
   have ab:0<c.size:=(Array.getElem?_eq_some_iff.1 h0).1;have ar:w.heap.size<=w'.heap.size:=B.b;have ao:∀b,S b->b<w'.heap.size/\¬p'.a b:=λ b C=>by
    obtain⟨aF,aL⟩:=v b C;refine⟨Nat.lt_of_lt_of_le aF ar,λ H=>?_⟩;rcases B.i b H with y| ⟨y,_⟩
    ·trivial
    ·have y:w.heap.size<=b:=y;omega
   have an:∀b,p'.a b->b<w'.heap.size:=λ b H=>by
    rcases B.i b H with y| ⟨_,y⟩
    all_goals grind
   obtain⟨N,h,am,aw,al,t',q',av,H,ah,T,Z,V,X,W,ag,Y,U,aa⟩:=R (f (w.at d)) (.mk f _) (sumTo c.size q) p' ((c.map (woken P g a' w')).setIfInBounds 0 a') a' w' o (t++MemOp.ofEvents 0 g.frame.fn g.frame.place es) q (by simp) (by grind)
    ⟨λ j x D n=>by
     have ad:0≠j:=by omega
     rw[Array.getElem?_setIfInBounds_ne ad,Array.getElem?_map]at n;obtain⟨y,ak,rfl⟩:=Option.map_eq_some_iff.1 n;have G:=m.old j y D ak;rw[woken_quitsD G,Deaf_other t (by omega) _ (λ op l=>gz l)];omega,λ j D=>by
     rw[Deaf_other t (g':=0) (by omega) _ (λ op l=>gz l)];exact m.above j (by omega)⟩
    ((
     u.mono ar).own λ e A=>AB (λ b C=>(ao b C).2) an (B.d e A)) (s.g B.j (λ op l x n b C=>by
     obtain⟨e,A,rfl⟩:=Go.Conc.mem_ofEvents l;obtain⟨aG,aH,aI,_⟩:=D9 (B.d e A) n
     grind) λ op l a=>by
     obtain⟨e,A,rfl⟩:=Go.Conc.mem_ofEvents l;exact Jq (B.d e A) a) ao an ax
   exact⟨N+1,_,_,_,al,_,_,_,by grind[runNT],ah.trans Q,T,Z,V,X,W,λ b C=>ag b (B.j b C),Y,U,((iG.j w d).c B.g).c aa⟩
  ·
   have G:=m.old i g ae K;have aB:(i==0)=false:=by simp;omega
   have ab:i<c.size:=(Array.getElem?_eq_some_iff.1 K).1;cases af:q i with
   |zero=>rw[af]at G;rw[G.1]at F;cases F
   |succ k=>
    rw[af]at G;rcases G with⟨az,_⟩| ⟨_,g',es,ac,aE,aC⟩
    ·rw[az]at F;cases F
    have aq:=runT_crowd_go (P:=P) (sl:=o) (i:=i) K (by rw[aB];exact aE (w.at d));have Q:((c.map (woken P g g' (w.at d))).setIfInBounds i g').size=c.size:=by simp
    have aK:sumTo c.size (upd q i k)+ (k+1)=sumTo c.size q+k:=by
     have:=sumTo_upd q k id ab;simpa[af]using this
    cases M with
    |zero=>omega
    |succ M=>
     obtain⟨N,h,am,aw,al,t',q',av,H,ah,T,Z,V,X,W,ag,Y,U,aa⟩:=au M rfl p ((c.map (woken P g g' (w.at d))).setIfInBounds i g') a (w.at d) o (t++MemOp.ofEvents i g.frame.fn g.frame.place es) (upd q i k) (by rw[Q];omega)
      (by
       have ad:i≠0:=by omega
       rw[Array.getElem?_setIfInBounds_ne ad,Array.getElem?_map,h0];simp[woken_run E])
      ⟨λ j x D n=>by
       by_cases O:i=j
       ·subst O;rw[Array.getElem?_setIfInBounds_self_of_lt (by simpa using ab)]at n;obtain rfl:=Option.some.inj n;rw[upd_same,Deaf_own];exact aC
       ·rw[Array.getElem?_setIfInBounds_ne O,Array.getElem?_map]at n;obtain⟨y,ak,rfl⟩:=Option.map_eq_some_iff.1 n;have ap:=m.old j y D ak;rw[woken_quitsD ap,upd_ne q k (cB O),Deaf_other t O _ (λ op l=>gz l)];exact ap,λ j D=>by
       rw[Deaf_other t (g':=i) (by simp at D;omega) _ (λ op l=>gz l)];exact m.above j (by simpa using D)⟩
      (u.mute (by omega) ac) (s.g (λ _ y=>y) (λ op l x n b C=>by
       obtain⟨e,A,rfl⟩:=Go.Conc.mem_ofEvents l;rw[touch_mute (ac e A)]at n;cases n) λ op l a=>by
       obtain⟨e,A,rfl⟩:=Go.Conc.mem_ofEvents l;exact xd (ac e A) a) v z (.inr ⟨E,I⟩)
     exact⟨N+1,h,am,aw,al,t',q',av,by simp only[runNT,aD,aq];exact H,ah.trans Q,T,Z,V,X,W,ag,Y,U,(iG.j w d).c aa⟩
end
end
section
variable{o:Obj}{v:Nat->Value}
def yX(ops:Array j1):Nat->Array Bool->List (List Nat)|0,_=> [[]]|a+1,listed=>match hR .any ops listed with| []=> [[]]|r::rs=>(r::rs).flatMap λ i=>(yX ops a (listed.setIfInBounds i true)).map (i:: ·)
theorem Mz(ops:Array j1):∀(a t:Nat)(listed:Array Bool),mb .any ops a t listed []∈yX ops a listed
 |0,t,listed=>by grind[mb,yX]
 |a+1,t,listed=>by
  change(match(hR _ _ _)[t% (hR _ _ _).length]? with
   |some i=>mb _ _ _ (t/ (hR _ _ _).length) _ _
   |none=> [].reverse)∈_
  unfold yX;cases c:hR _ _ _ with
  |nil=>simp
  |cons x xs=>
   rw[et (ih _ (by simp))];simp only[];rw[linearise_go_acc,List.reverse_singleton,List.singleton_append];exact List.mem_flatMap.2 ⟨_,by grind,List.mem_map.2 ⟨_,Mz _ _ _ _,rfl⟩⟩
def ga(P:ew)(main:Bool)(p:ai)(g:ea)(w:dk)(Stop:ai->ea->dk->Prop):Prop:=g.status= .running/\∃r,lG P main Stop r p g w
section
variable{P:Program}{main:Bool}{g g':Goroutine}{p p':ai}{w w':World}{Stop:ai->Goroutine->World->Prop}
theorem lG.b{r:dI}(h:lG P main Stop r p g w)(d:Nat):lG P main Stop r p g (w.at d):=by
 cases r with
 |eM=>trivial
 |mk f=>trivial
theorem ga.a(h:ga P main p g w Stop)(d:Nat):ga P main p g (w.at d) Stop:= ⟨h.1,let⟨r,x⟩:=h.2; ⟨r,x.b d⟩⟩
theorem aeC(a:g.status= .running)(h:∀d,Stop p g (w.at d)):ga P main p g w Stop:= ⟨a,.eM,h⟩
theorem xk(e:g.status= .running)(h:∀d,∃g' w' es p',dr P main g (w.at d)= .go g' w' es/\ey p p' (w.at d) w' es/\ga P main p' g' w' Stop):ga P main p g w Stop:=by
 classical
 have i:∀d,∃r g' w' es p',dr P main g (w.at d)= .go g' w' es/\g'.status= .running/\ey p p' (w.at d) w' es/\lG P main Stop r p' g' w':=λ d=>
  let⟨g',w',es,p',a,b,c,r,x⟩:=h d
  ⟨r,g',w',es,p',a,c,b,x⟩
 let f:dk->dI:=λ w1=>if j:∃r g' w' es p',dr P main g w1= .go g' w' es/\g'.status= .running/\ey p p' w1 w' es/\lG P main Stop r p' g' w' then j.choose else .eM
 refine⟨e,.mk f,.inr ⟨e,λ d=>?_⟩⟩;have:=(i d).choose_spec
 grind
theorem Tx:∀{k:Nat}{g g':ea},(∀w,jo P main k g w=jl P main k g w)->gJ P main k g=true->qD P main k g=true->dR P main k g=g'->ga P main p g' w Stop->ga P main p g w Stop
 |0,g,_,_,_,_,b,e=>by
  have j:g=_:=b
  grind
 |k+1,g,g',i,a,c,b,e=>by
  have f:∀w,dr P main g w= .go (lO P main g) w (vf P main g):=λ w=>by
   simp_all[jo,jl,List.cons.injEq]
  simp only[gJ,qD,eg,qO]at a c;have h:=Tx (k:=k) (λ w=>by
   simp_all[jo,jl,List.cons.injEq]) a.2 c.2 b e
  exact xk (AM a.1.1) λ d=> ⟨_,_,_,_,f _,by grind[ey.l],h.a d⟩
theorem Es{k:Nat}{g':ea}(h:Cq P main k g g')(a:ga P main p g' w Stop):ga P main p g w Stop:=
 Tx (λ w=>congrArg (·.1) (h w)) (congrArg (·.2.1) (h lT)) (congrArg (·.2.2.1) (h lT)) (congrArg (·.2.2.2) (h lT)) a
theorem yc(i:g.status= .running)(k:∀w,dr P main g w= .go (aK g (v w.heap.size)) {w with heap:=w.heap.push o} #[])
 (j:ga P main (p.c w.heap.size) (aK g (v w.heap.size)) {w with heap:=w.heap.push o} Stop):ga P main p g w Stop:=by
 refine xk i λ d=> ⟨_,_,_,p.c w.heap.size,k _,⟨by simp,λ a b _=>?_,λ a b=>?_,λ a b=>?_,λ a=> .inl,λ a=> .inl,λ a c f=> .inr (f.resolve_left c),λ e l=>by grind,rfl,rfl,rfl⟩,j.a d⟩
 ·grind
 ·rcases b with h|rfl
  ·grind
  ·exact .inr ⟨ei _,by show w.heap.size< (w.heap.push o).size;simp⟩
 ·rcases b with h|rfl
  ·grind
  ·exact .inr ⟨ei _,by show w.heap.size< (w.heap.push o).size;simp⟩
theorem II(h:g.status= .running)(j:∀w,dr P main g w= .go (aK g (v w.heap.size)) {w with heap:=w.heap.push o} #[])
 (i:ga P main p (aK g (v w.heap.size)) {w with heap:=w.heap.push o} Stop):ga P main p g w Stop:=by
 refine xk h λ d=> ⟨_,_,_,p,j _,⟨by simp,λ a b _=>?_,λ a b=> .inl b,λ a b=> .inl b,λ a=>id,λ a=>id,λ a c f=>absurd f c,λ e k=>by grind,rfl,rfl,rfl⟩,i.a d⟩
 grind
theorem Xz(a:g.status= .running){f:List Nat->ea}{ok:List Nat->Prop}(h:∀w,∃l,ok l/\dr P main g w= .go (f l) {w with drawn:=w.drawn+1} #[])(c:∀l,ok l->ga P main p (f l) w Stop):ga P main p g w Stop:=
 xk a λ d=>by
  obtain⟨l,b,e⟩:=h (w.at d);exact⟨_,_,_,p,e,{ey.l p _ with},(c l b).a _⟩
end
variable(A:Ar)(f:Nat->Value)(b:Nat)(l:List Nat)
def xU:=Af TP 147
def pc0:=gY xU
def pc1:=gY (bX xU)
def og:=gY (bX (bX xU))
def Hn:=λ i=> [A.g,A.k,A.h].getD i df
def PE:=MG A (Hn A) [.code xU]
def P0:=MG A f [.inRegion (ek pc0) l,.code (bX xU)]
theorem pe:Cq TP true 2 (PE A) (P0 A (Hn A) [0,1,2,3]):=λ w=>by kernel_rfl
theorem p00(w:dk):dr TP true (P0 A f [0,1,2,3]) w= .go (aK (P0 A f [0,1,2,3]) (aQ w.heap.size)) {w with heap:=w.heap.push (.cells (f 0).cells 138 (0,0))} #[]:=by kernel_rfl
theorem Yg(v:b2):aK (P0 A f [0,1,2,3]) v=P0 A (sw f 3 v) [1,2,3]:=by kernel_rfl
theorem Yz(w:dk):dr TP true (P0 A f [1,2,3]) w= .go (aK (P0 A f [1,2,3]) (aQ w.heap.size)) {w with heap:=w.heap.push (.cells (f 1).cells 191 (0,0))} #[]:=by kernel_rfl
theorem T8(v:b2):aK (P0 A f [1,2,3]) v=P0 A (sw f 4 v) [2,3]:=by kernel_rfl
theorem p02(w:dk):dr TP true (P0 A f [2,3]) w= .go (aK (P0 A f [2,3]) (aQ w.heap.size)) {w with heap:=w.heap.push (.cells (f 2).cells 3 (0,0))} #[]:=by kernel_rfl
theorem XZ(v:b2):aK (P0 A f [2,3]) v=P0 A (sw f 5 v) [3]:=by kernel_rfl
def P1:=MG A f [.inRegion (ek pc1) [0],.code (bX (bX xU))]
theorem p03:Cq TP true 4 (P0 A f [3]) (P1 A (sw f 6 (.slice none 0 0))):=λ w=>by kernel_rfl
theorem Ye(w:dk):dr TP true (P1 A f) w= .go (aK (P1 A f) (aQ w.heap.size)) {w with heap:=w.heap.push (.cells #[.int .u64 0,.int .u32 0] 252 (0,0))} #[]:=by kernel_rfl
def P2:=MG A f [.code og,.code m1]
theorem p11(v:b2):Cq TP true 2 (aK (P1 A f) v) (P2 A (sw f 7 v)):=λ w=>by kernel_rfl
def PG:=MG A f [.inRegion (ek og) l,.code m1]
def A7(L:List Nat):Bool:=(L.take 5).isPerm [0,1,2,3,4]&& (L.drop 5== [5])&&Nat.blt (L.idxOf 0) (L.idxOf 4)&&Nat.blt (L.idxOf 2) (L.idxOf 4)
theorem Xr:(yX (ek og) (ek og).size (hP (ek og).size false)).all A7=true:=by kernel_rfl
def Ji:Code->Nat| .region i _ _=>i|_=>0
theorem ZK:TP.follows .mixedOrders=true:=by kernel_rfl
theorem ahi(w:dk):∃L,A7 L=true/\dr TP true (P2 A f) w= .go (PG A f L) {w with drawn:=w.drawn+1} #[]:=by
 refine⟨qz (TP.follows .mixedOrders) (ek og) (w.tape w.drawn (.order 147 (Ji og))),?_,?_⟩
 ·grind[Xr,kV,ZK,qz,Region.linearise,Mz]
 ·have e:P2 A f=Conc.G (({fn:=147,tmps:= #[],todo:= [],defers:= [],mode:= .run,kind:= .normal}:gk).at ⟨⟨mF f⟩,[]⟩ (.code (.region (Ji og) (ek og) true):: [.code m1])) A.j:=by
   rfl
  rfl
theorem g0(w:dk):dr TP true (PG A f (0::l)) w= .go (aK (PG A f (0::l)) (cX w.heap.size)) {w with heap:=w.heap.push (.chan 0 #[] false 0 0 false)} #[]:=by kernel_rfl
theorem Xf(v:b2):aK (PG A f (0::l)) v=PG A (sw f 12 v) l:=by kernel_rfl
theorem g1(w:dk):dr TP true (PG A f (1::l)) w= .go (aK (PG A f (1::l)) (cX w.heap.size)) {w with heap:=w.heap.push (.chan 0 #[] false 0 0 false)} #[]:=by kernel_rfl
theorem Ys(v:b2):aK (PG A f (1::l)) v=PG A (sw f 13 v) l:=by kernel_rfl
theorem g2(w:dk):dr TP true (PG A f (2::l)) w= .go (aK (PG A f (2::l)) (aQ w.heap.size)) {w with heap:=w.heap.push (.cells #[.chan none] 253 (0,0))} #[]:=by kernel_rfl
theorem UG(v:b2):aK (PG A f (2::l)) v=PG A (sw f 8 v) l:=by kernel_rfl
theorem g3(w:dk):dr TP true (PG A f (3::l)) w= .go (aK (PG A f (3::l)) (aQ w.heap.size)) {w with heap:=w.heap.push (.cells #[.chan none] 254 (0,0))} #[]:=by kernel_rfl
theorem ai6:dh (PG A f (4::l)) (bj (PG A f (4::l))):=ao (by kernel_rfl)
theorem ahs:(bY (PG A f (4::l))).eval (sk (bj (PG A f (4::l))).op)=f 8:=by kernel_rfl
theorem aav:dh (PG A f [5]) (bj (PG A f [5])):=ao (by kernel_rfl)
theorem Xw:(bY (PG A f [5])).eval (sk (bj (PG A f [5])).op)=f 9:=by kernel_rfl
end
section
variable{P:Program}{main:Bool}{g g':Goroutine}{o:Oper}{p p':ai}{w w':World}{Stop:ai->Goroutine->World->Prop}
variable{i:Nat}{v:Value}
theorem Ld{t ty:iA}{x y:eV}{b:Nat}{u:b2}(h:dh g o)(z:g.status= .running)(C:o.op= .store t x y)(G:(bY g).eval x=aQ b)(H:(bY g).eval y=v)(I:∀w,(en t).run P w= .ok 1 w)(r:∀w es,(en t).events P w es=es)
 (A:v.cells= #[v]) (c:v.oneCell'=true) (K:p.a b) (F:p.b b) (n:w.heap[b]?=some (.cells #[u] ty (0,0)))
 (E:ga P main p (aK g df) (w.setCell ⟨b,0,none⟩ v) Stop):ga P main p g w Stop:=by
 refine xk z λ d=>?_;have i:(w.at d).heap[b]?=some (.cells #[u] ty (0,0)):=n;have k:=run_store P (w.at d) ⟨b,0,none⟩ v .plain c;have j:=nb P (w.at d) #[] ⟨b,0,none⟩ v .plain c;simp only[hU (w.at d) b 0 _ ty _ i,q7 (w.at d) b 0 _ ty i,mo,if_false]at k j;have m:(⟨b,0,none⟩:gw).add 0= ⟨b,0,none⟩:=by rfl
 have D:(ef (bY g).eval o).run P (w.at d)= .ok .skip ((w.at d).setCell ⟨b,0,none⟩ v):=by
  simp_all[ef,aQ,k3,hh,lv,hD]
 refine⟨_,_,_,p,h.f D,⟨by simp,λ a J B=>hF _ _ _ _ λ e=>B (e▸F),λ _ h=> .inl h,λ _ h=> .inl h,λ _ h=>h,λ _ h=>h,λ a c l=>absurd l c,xp λ e f=>?_,rfl,rfl,rfl⟩,E.a d⟩;unfold ef at f;simp only[C,G,H,aQ]at f;simp[k3,hh,lv,I,r,A,hD,m,k,j]at f
 grind[RA]
end
def sl(i:Nat):=if i=0 then 12 else if i=1 then 13 else if i=2 then 8 else 9
def vl(i b:Nat):Value:=if i<2 then cX b else aQ b
def ob(s:Bool)(c:b2)(i:Nat):Obj:=if i<2 then .chan 0 #[] false 0 0 false else if i=2 then .cells #[if s then c else .chan none] 253 (0,0)else .cells #[.chan none] 254 (0,0)
structure PI(n0:Nat)(w0:dk)(ps:ai)(f0 f:Nat->b2)(w:dk)(p:ai)(dn:Nat->Bool)(b:Nat->Nat):Prop where
 d:∀i,i<4->dn i=true->f (sl i)=vl i (b i)
 c:∀i,i<4->dn i=true->w.heap[b i]?=some (ob (dn 4) (f 12) i)
 u:∀i,i<4->dn i=true->n0<=b i
 n:∀i j,i<4->j<4->dn i=true->dn j=true->b i=b j->i=j
 t:∀a,p.a a↔ps.a a\/∃i,2<=i/\i<4/\dn i=true/\a=b i
 r:∀a,p.b a↔ps.b a\/∃i,2<=i/\i<4/\dn i=true/\a=b i
 s:∀a,a<n0->w.heap[a]?=w0.heap[a]?
 k:n0<=w.heap.size
 e:w.os=w0.os/\w.output=w0.output/\w.tape=w0.tape
 m:∀j,j≠12->j≠13->j≠8->j≠9->f j=f0 j
 l:dn 4=true->dn 0=true/\dn 2=true
def iv(dn:Nat->Bool)(i:Nat):Nat->Bool:=λ j=>if j=i then true else dn j
def vI(b:Nat->Nat)(i n:Nat):Nat->Nat:=λ j=>if j=i then n else b j
section
variable{n0:Nat}{w0:World}{ps:ai}{f0 f:Nat->Value}{w:World}{p:ai}{dn:Nat->Bool}{b:Nat->Nat}
theorem PI.y(h:PI n0 w0 ps f0 f w p dn b){i:Nat}(c:i<4)(a:dn i=true):b i<w.heap.size:=(eo.1 (h.c i c a)).1
theorem acE{i j:Nat}(a:i<4)(b:j<4)(h:i≠j):sl i≠sl j:=by
 have:(i=0\/i=1\/i=2\/i=3)/\(j=0\/j=1\/j=2\/j=3):=by omega
 obtain⟨rfl|rfl|rfl|rfl,rfl|rfl|rfl|rfl⟩:=this<;>first|exact absurd rfl h|decide
theorem He{f:Nat->b2}{i j:Nat}{v:b2}(h:i≠j):sw f j v i=f i:=by
 grind[sw,yB]
theorem aeI{f:Nat->b2}{i:Nat}{v:b2}:sw f i v i=v:=by
 grind[sw,Nat.beq_refl]
theorem R6{s:Bool}{c c':b2}{i:Nat}(h:s=true->c=c'):ob s c i=ob s c' i:=by
 cases s with
 |true=>grind
 |false=>rfl
theorem PI.h(h:PI n0 w0 ps f0 f w p dn b){i:Nat}(F:i<4)(A:dn i=false):
 PI n0 w0 ps f0 (sw f (sl i) (vl i w.heap.size)) {w with heap:=w.heap.push (ob (dn 4) (f 12) i)} (if i<2 then p else p.c w.heap.size) (iv dn i) (vI b i w.heap.size):=by
 have u:iv dn i 4=dn 4:=by unfold iv;rw[if_neg (by omega)]
 have q:∀j,j<4->j≠i->iv dn i j=dn j/\vI b i w.heap.size j=b j:=λ j d c=>by unfold iv vI;rw[if_neg c,if_neg c];exact⟨rfl,rfl⟩
 have t:vI b i w.heap.size i=w.heap.size:=by unfold vI;rw[if_pos rfl]
 have K:iv dn i i=true:=by unfold iv;rw[if_pos rfl]
 have D:dn 4=true->sw f (sl i) (vl i w.heap.size) 12=f 12:=λ J=>He λ e=>by
  have:i=0:=by
   have:i=0\/i=1\/i=2\/i=3:=by omega
   rcases this with rfl|rfl|rfl|rfl<;>first|rfl| (exfalso;revert e;decide)
  rw[this,(h.l J).1]at A;cases A
 have G:∀a,(∃j,2<=j/\j<4/\iv dn i j=true/\a=vI b i w.heap.size j)↔(∃j,2<=j/\j<4/\dn j=true/\a=b j)\/(2<=i/\a=w.heap.size):=λ a=>by
  constructor
  ·rintro⟨j,m,r,n,s⟩;by_cases c:j=i
   ·subst c;rw[t]at s;exact .inr ⟨m,s⟩
   ·obtain⟨g,l⟩:=q j r c;rw[g]at n;rw[l]at s;exact .inl ⟨j,m,r,n,s⟩
  ·rintro(⟨j,m,r,n,s⟩| ⟨m,s⟩)
   ·have c:j≠i:=λ e=>by rw[e,A]at n;cases n
    obtain⟨g,l⟩:=q j r c;exact⟨j,m,r,g.trans n,s.trans l.symm⟩
   ·exact⟨i,m,F,K,s.trans t.symm⟩
 refine⟨λ j d o=>?_,λ j d o=>?_,λ j d o=>?_,λ j k d v o E e=>?_,λ a=>?_,λ a=>?_,λ a C=>?_,?_,h.e,λ j B m r n=>?_,λ n=>?_⟩
 ·by_cases c:j=i
  ·subst c;rw[aeI,t]
  ·obtain⟨g,l⟩:=q j d c;rw[He (acE d F c),l];exact h.d j d (g▸o)
 ·rw[u];by_cases c:j=i
  ·subst c;rw[t];rw[C9,R6 λ u=>(D u).symm]
  ·obtain⟨g,l⟩:=q j d c;rw[g]at o;rw[l];rw[yC (h.y d o),h.c j d o,R6 λ u=>(D u).symm]
 ·by_cases c:j=i
  ·subst c;rw[t];exact h.k
  ·obtain⟨g,l⟩:=q j d c;rw[l];exact h.u j d (g▸o)
 ·by_cases c:j=i<;>by_cases z:k=i
  ·rw[c,z]
  ·obtain⟨g,l⟩:=q k v z;rw[c,t,l]at e;have:=h.y v (g▸E);omega
  ·obtain⟨g,l⟩:=q j d c;rw[z,t,l]at e;have:=h.y d (g▸o);omega
  ·obtain⟨g,l⟩:=q j d c;obtain⟨H,I⟩:=q k v z;rw[l,I]at e;exact h.n j k d v (g▸o) (H▸E) e
 ·rw[G];by_cases m:i<2
  ·rw[if_pos m,h.t a];have:¬2<=i:=by omega
   simp[this]
  ·rw[if_neg m];show p.a a\/a=w.heap.size↔_;rw[h.t a];have:2<=i:=by omega
   simp[this,or_assoc]
 ·rw[G];by_cases m:i<2
  ·rw[if_pos m,h.r a];have:¬2<=i:=by omega
   simp[this]
  ·rw[if_neg m];show p.b a\/a=w.heap.size↔_;rw[h.r a];have:2<=i:=by omega
   simp[this,or_assoc]
 ·exact(yC (qi C h.k)).trans (h.s a C)
 ·show n0<=(w.heap.push _).size;have:=h.k;simp;omega
 ·rw[He λ e=>?_,h.m j B m r n];have:i=0\/i=1\/i=2\/i=3:=by omega
  rcases this with rfl|rfl|rfl|rfl
  ·exact B e
  ·exact m e
  ·exact r e
  ·exact n e
 ·rw[u]at n;obtain⟨x,y⟩:=h.l n;unfold iv;exact⟨by split<;>first|rfl|exact x,by split<;>first|rfl|exact y⟩
theorem PI.x(h:PI n0 w0 ps f0 f w p dn b)(h0:dn 0=true)(h2:dn 2=true)(h4:dn 4=false):PI n0 w0 ps f0 f (w.setCell ⟨b 2,0,none⟩ (f 12)) p (iv dn 4) b:=by
 have r:iv dn 4 4=true:=by rfl
 have d:∀j,j<4->iv dn 4 j=dn j:=λ j c=>by grind[iv]
 have i:=h.c 2 (by omega) h2;have q:ob (dn 4) (f 12) 2= .cells #[.chan none] 253 (0,0):=by rw[h4];rfl
 rw[q]at i;have v:(w.setCell ⟨b 2,0,none⟩ (f 12)).heap[b 2]?=some (.cells #[f 12] 253 (0,0)):=by
  rw[mm w _ 0 _ _ _ i];rfl
 have o:∀a,(∃j,2<=j/\j<4/\iv dn 4 j=true/\a=b j)↔∃j,2<=j/\j<4/\dn j=true/\a=b j:=λ a=>
  ⟨λ⟨j,x,y,z,u⟩=> ⟨j,x,y,(d j y)▸z,u⟩,λ⟨j,x,y,z,u⟩=> ⟨j,x,y,(d j y).trans z,u⟩⟩
 refine⟨λ j c g=>h.d j c ((d j c)▸g),λ j c g=>?_,λ j c g=>h.u j c ((d j c)▸g),λ j k c n g t e=>h.n j k c n ((d j c)▸g) ((d k n)▸t) e,λ a=>by rw[o];exact h.t a,λ a=>by rw[o];exact h.r a,λ a s=>?_,by simpa using h.k,h.e,h.m,λ _=> ⟨(d 0 (by omega)).trans h0,(d 2 (by omega)).trans h2⟩⟩
 ·rw[r];have l:=(d j c)▸g;by_cases m:j=2
  ·subst m;trivial
  ·rw[hF _ _ _ _ λ e=>m (h.n j 2 c (by omega) l h2 e),h.c j c l]
   grind[ob]
 ·have:=h.u 2 (by omega) h2;rw[hF _ _ _ _ (by grind)];exact h.s a s
theorem cv:∀b:Nat,(cX b).cells= #[cX b]/\(cX b).oneCell'=true:=λ b=> ⟨rfl,rfl⟩
theorem aeZ(w:dk):(en 253).run TP w= .ok 1 w:=by kernel_rfl
theorem ahf(w:dk):(en 254).run TP w= .ok 1 w:=by kernel_rfl
theorem YK(w:dk)(es:Array lB):(en 253).events TP w es=es:=by kernel_rfl
theorem ahq(w:dk)(es:Array lB):(en 254).events TP w es=es:=by kernel_rfl
theorem PI.q(h:PI n0 w0 ps f0 f w p dn b){i:Nat}(h2:2<=i)(h3:i<4)(a:dn i=true):p.a (b i)/\p.b (b i):= ⟨(h.t _).2 (by grind),(h.r _).2 (by grind)⟩
theorem MT{x a:Nat}{l:List Nat}(h:x≠a):(x::l).idxOf a=l.idxOf a+1:=by
 grind
theorem QN(A){Stop r}:∀l{f:Nat->b2}{w:dk}{p:ai}{dn:Nat->Bool}{b:Nat->Nat},PI n0 w0 ps f0 f w p dn b->(∀i∈l,i<5)->l.Nodup->(∀i,i<5->(i∈l↔dn i=false))->(∀k,l.idxOf 4=k->k<l.length->(dn 0=true\/l.idxOf 0<k)/\(dn 2=true\/l.idxOf 2<k))->(∀f w p dn b,PI n0 w0 ps f0 f w p dn b->(∀i,i<5->dn i=true)->ga TP true p (PG A f r) w Stop)->ga TP true p (PG A f (l++r)) w Stop
 | [],f,w,p,dn,b,h,_,_,j,_,n=>n f w p dn b h λ i d=>by cases m:dn i with
  |true=>rfl|false=>exact absurd ((j i d).2 m) (by simp)
 |x::l,f,w,p,dn,b,h,hlt,hnd,j,hord,n=>by
  have L:=hlt x (by simp);have a:dn x=false:=(j x L).1 (by simp);have B:x∉l:=(hz.1 hnd).1;have I:∀i,i<5->(i∈l↔iv dn x i=false):=λ i d=>by unfold iv;by_cases c:i=x;subst c;simp[B];rw[if_neg c,<-j i d];simp[c]
  have K:∀k,l.idxOf 4=k->k<l.length->(iv dn x 0=true\/l.idxOf 0<k)/\(iv dn x 2=true\/l.idxOf 2<k):=λ k u z=>by
   have H:4∈l:=by rw[<-u]at z;exact List.idxOf_lt_length_iff.1 z
   have N:x≠4:=λ e=>B (e▸H);have E:(x::l).idxOf 4=k+1:=by rw[MT N,u]
   have⟨o,q⟩:=hord (k+1) E (by simp;omega);have one:∀i,(dn i=true\/(x::l).idxOf i<k+1)->(iv dn x i=true\/l.idxOf i<k):=λ i y=>by by_cases c:i=x;left;unfold iv;rw[if_pos c];obtain y|y:=y;left;unfold iv;rw[if_neg c];exact y;right;rw[MT (cB c)]at y;omega
   exact⟨one 0 o,one 2 q⟩
  have g:∀{f w p b},PI n0 w0 ps f0 f w p (iv dn x) b->ga TP true p (PG A f (l++r)) w Stop:=λ F=>QN A l F (λ i d=>hlt i (by simp[d])) ((hz.1 hnd).2) I K n;rw[List.cons_append];have M:x=0\/x=1\/x=2\/x=3\/x=4:=by omega
  obtain e|e|e|e|e:=M;subst e;refine II (v:=cX) rfl (g0 A f (l++r)) ?_;exact g (h.h (by omega) a);subst e;refine II (v:=cX) rfl (g1 A f (l++r)) ?_;exact g (h.h (by omega) a);subst e;refine yc (v:=aQ) rfl (g2 A f (l++r)) ?_;rw[UG];have G:dn 4=false:=by cases m:dn 4 with|false=>rfl|true=>rw[(h.l m).2]at a;cases a
  have:=h.h (i:=2) (by omega) a;rw[G]at this;exact g this;subst e;refine yc (v:=aQ) rfl (g3 A f _) ?_;exact g (h.h (by omega) a);subst e;have⟨o,q⟩:=hord 0 (by simp) (by simp);have s:dn 0=true:=o.resolve_right (by omega);have d2:dn 2=true:=q.resolve_right (by omega);have C:=h.d 0 (by omega) s;have t:=h.c 2 (by omega) d2;have D:ob (dn 4) (f 12) 2= .cells #[.chan none] 253 (0,0):=by rw[a];rfl
  rw[D]at t;have⟨O,P⟩:=h.q (i:=2) (by omega) (by omega) d2;exact Ld (v:=f _) (ai6 A f _) rfl rfl ((ahs A f _).trans (h.d 2 (by omega) d2)) rfl aeZ YK (by rw[show f 12=cX _ from C];rfl) (by rw[show f 12=cX _ from C];rfl) O P t (g (h.x s d2 a))
end
structure uo(A:Ar)(n:Nat)(w0:dk)(ps:ai)(p:ai)(w:dk):Prop where
 c:A.f=n/\A.l=n+1/\A.i=n+2/\A.a=n+3
 r:n+4<=A.e/\n+4<=A.d/\n+4<=A.b/\n+4<=A.c
 q:w.heap[A.f]?=some (.cells A.g.cells 138 (0,0))
 l:w.heap[A.l]?=some (.cells A.k.cells 191 (0,0))
 t:w.heap[A.i]?=some (.cells A.h.cells 3 (0,0))
 u:ba A.a w 0 0
 k:w.heap[A.e]?=some (.cells #[cX A.b] 253 (0,0))
 s:w.heap[A.d]?=some (.cells #[cX A.c] 254 (0,0))
 i:w.heap[A.b]?=some (.chan 0 #[] false 0 0 false)
 h:w.heap[A.c]?=some (.chan 0 #[] false 0 0 false)
 m:A.b≠A.c/\A.e≠A.d/\A.e≠A.b/\A.e≠A.c/\A.d≠A.b/\A.d≠A.c
 g:∀a,a<n->w.heap[a]?=w0.heap[a]?
 d:w.os=w0.os/\w.output=w0.output/\w.tape=w0.tape
 e:n<=w.heap.size
 b:∀a,p.a a↔ps.a a\/a=A.f\/a=A.l\/a=A.i\/a=A.e\/a=A.d
 j:∀a,p.b a↔ps.b a\/a=A.f\/a=A.l\/a=A.i\/a=A.e\/a=A.d
def Np(A:Ar)(n:Nat)(w0:dk)(ps:ai)(p:ai)(g:ea)(w:dk):Prop:=
 ∃A':Ar,A'.g=A.g/\A'.k=A.k/\A'.h=A.h/\A'.j=A.j/\g=CW A'/\uo A' n w0 ps p w
theorem uo.o{A:Ar}{n:Nat}{w0:dk}{ps p:ai}{w:dk}(h:uo A n w0 ps p w)(d:Nat):uo A n w0 ps p (w.at d):= ⟨h.c,h.r,h.q,h.l,h.t,h.u,h.k,h.s,h.i,h.h,h.m,h.g,h.d,h.e,h.b,h.j⟩
section
variable(A:Ar)(f:Nat->Value)
theorem pg:Cq TP true 1 (PG A f []) (MG A f [.code m1]):=λ w=>by kernel_rfl
def yN(n:Nat):=sw (sw (sw (sw (sw (Hn A) 3 (aQ n)) 4 (aQ (n+1))) 5 (aQ (n+2))) 6 (.slice none 0 0)) 7 (aQ (n+3))
end
theorem Yd(A:Ar)(w0:dk)(ps:ai)(au:∀a,ps.a a->a<w0.heap.size)(av:∀a,ps.b a->ps.a a):ga TP true ps (PE A) w0 (Np A w0.heap.size w0 ps):=by
 refine Es (pe A) ?_;generalize u:w0.heap.size=n;refine yc (v:=aQ) rfl (p00 A _) ?_;rw[Yg,u];refine yc (v:=aQ) rfl (Yz A _) ?_;rw[T8];refine yc (v:=aQ) rfl (p02 A _) ?_;rw[XZ];refine Es (p03 A _) ?_;refine II (v:=aQ) rfl (Ye A _) ?_;simp only[nf,u];refine Es (p11 A _ _) ?_;show ga _ _ (((ps.c n).c _).c (n+2)) (P2 A (yN A n)) {w0 with heap:=(((w0.heap.push (.cells A.g.cells _ _)).push (.cells A.k.cells _ _)).push (.cells A.h.cells 3 _)).push _} _;generalize ax:({w0 with heap:=(((w0.heap.push (.cells A.g.cells 138 (0,0))).push (.cells A.k.cells 191 (0,0))).push (.cells A.h.cells 3 (0,0))).push (.cells #[.int .u64 0,.int .u32 0] 252 (0,0))}:dk)=w1;generalize M:(((ps.c n).c (n+1)).c (n+2))=D;have aw:w1.heap.size=n+4:=by grind
 have ag:∀a,a<n->w1.heap[a]?=w0.heap[a]?:=λ a q=>by
  grind
 have Y:w1.heap[n]?=some (.cells A.g.cells 138 (0,0)):=by
  grind
 have Z:w1.heap[n+1]?=some (.cells A.k.cells 191 (0,0)):=by
  grind
 have aa:w1.heap[n+2]?=some (.cells A.h.cells 3 (0,0)):=by
  grind
 have ab:w1.heap[n+3]?=some (.cells #[.int .u64 0,.int .u32 0] 252 (0,0)):=by
  grind
 have I:w1.os=w0.os/\w1.output=w0.output/\w1.tape=w0.tape:=by grind
 have ak:∀a,D.a a↔ps.a a\/a=n\/a=n+1\/a=n+2:=λ a=>by rw[<-M];simp[ai.c,or_assoc]
 have al:∀a,D.b a↔ps.b a\/a=n\/a=n+1\/a=n+2:=λ a=>by rw[<-M];simp[ai.c,or_assoc]
 have R:PI (n+4) w1 D (yN A n) (yN A n) w1 D (λ _=>false) (λ _=>0):=
  ⟨λ _ _ h=>(by cases h),λ _ _ h=>(by cases h),λ _ _ h=>(by cases h),λ _ _ _ _ h=>(by cases h),λ a=> ⟨.inl,λ h=>h.elim id λ⟨_,_,_,h,_⟩=>(by cases h)⟩,λ a=> ⟨.inl,λ h=>h.elim id λ⟨_,_,_,h,_⟩=>(by cases h)⟩,λ _ _=>rfl,by omega,⟨rfl,rfl,rfl⟩,λ _ _ _ _ _=>rfl,λ h=>(by cases h)⟩
 refine Xz (ok:=λ L=>A7 L=true) (f:=PG A (yN A n)) rfl (ahi A _) λ L H=>?_;unfold A7 at H;simp only[eg,beq_iff_eq]at H;obtain⟨⟨⟨ac,ar⟩,ad⟩,ae⟩:=H;have C:(L.take 5).Perm [0,1,2,3,4]:=List.isPerm_iff.1 ac;have af:L=L.take 5++ [5]:=by grind[List.take_append_drop]
 have t:∀i,i<5->L.idxOf i=(L.take 5).idxOf i:=λ i o=>by
  grind
 have F:L.idxOf 0<L.idxOf 4:=tg▸ad;have G:L.idxOf 2<L.idxOf 4:=tg▸ae;rw[t 0 (by omega),t 4 (by omega)]at F;rw[t 2 (by omega),t 4 (by omega)]at G;rw[af];generalize L.take 5=l at C F G;refine QN A l R (λ i o=>?_) (C.nodup_iff.2 (by decide)) (λ i o=> ⟨λ _=>rfl,λ _=>C.mem_iff.2 (by
  grind)⟩) (λ k K _=> ⟨.inr (K▸F),.inr (K▸G)⟩) λ f w p J b h g=>?_
 ·have:=C.mem_iff.1 o;simp at this;omega
 ·have P:f 12=cX (b 0):=h.d 0 (by omega) (g 0 (by omega));have E:f 13=cX (b 1):=h.d 1 (by omega) (g 1 (by omega));have aq:f 8=aQ (b 2):=h.d 2 (by omega) (g 2 (by omega));have Q:f 9=aQ (b 3):=h.d 3 (by omega) (g 3 (by omega));have ao:w.heap[b 2]?=some (.cells #[cX (b 0)] 253 (0,0)):=by
   have:=h.c 2 (by omega) (g 2 (by omega));rw[g 4 (by omega),P]at this;trivial
  have O:w.heap[b 3]?=some (.cells #[.chan none] 254 (0,0)):=h.c 3 (by omega) (g 3 (by omega));have m:∀i j,i<4/\j<4/\i≠j->b i≠b j:=λ i j⟨o,aj,ah⟩ e=>ah (h.n i j o aj (g i (by omega)) (g j (by omega)) e);have r:∀i,i<4->n+4<=b i:=λ i o=>h.u i o (g i (by omega));obtain⟨ap,w3⟩:=h.q (i:=3) (by omega) (by omega) (g 3 (by omega));refine Ld (v:=f _) (aav A f) rfl rfl ((Xw A f).trans Q) rfl ahf ahq (by rw[E];rfl) (by rw[E];rfl) ap w3 O ?_;refine Es (pg A f) ?_;have B:∀a,a≠b 3->(w.setCell ⟨b 3,0,none⟩ (f 13)).heap[a]?=w.heap[a]?:=λ a q=>hF _ _ _ _ q;have s:∀a,a<n+4->(w.setCell ⟨b 3,0,none⟩ (f 13)).heap[a]?=w1.heap[a]?:=λ a q=>by
   have:=r 3 (by omega);rw[B a (by omega)];exact h.s a q
  have N:∀a,(∃i,2<=i/\i<4/\J i=true/\a=b i)↔a=b 2\/a=b 3:=λ a=>by
   constructor
   ·rintro⟨i,x,y,_,z⟩;have:i=2\/i=3:=by omega
    rcases this with rfl|rfl
    all_goals omega
   grind
  have key:Np A n w0 ps p (MG A f [.code m1]) (w.setCell ⟨b 3,0,none⟩ (f 13)):=by
   refine⟨{A with a:=n+3,e:=b 2,f:=n,l:=n+1,i:=n+2,d:=b 3,b:=b 0,c:=b 1},rfl,rfl,rfl,rfl,?_,⟨⟨rfl,rfl,rfl,rfl⟩,⟨r 2 (by omega),r 3 (by omega),r 0 (by omega),r 1 (by omega)⟩,(s _ (by simp)).trans Y,(s _ (by simp)).trans Z,(s _ (by simp)).trans aa,⟨252,(s _ (by simp)).trans ab⟩,(B _ (m 2 3 (by omega))).trans ao,?_,(B _ (m 0 3 (by omega))).trans (h.c 0 (by omega) (g 0 (by omega))),(B _ (m 1 3 (by omega))).trans (h.c 1 (by omega) (g 1 (by omega))),
    ⟨m 0 1 (by omega),m 2 3 (by omega),m 2 0 (by omega),m 2 1 (by omega),m 3 0 (by omega),m 3 1 (by omega)⟩,λ a q=>(s a (by omega)).trans (ag a q),⟨h.e.1.trans I.1,h.e.2.1.trans I.2.1,h.e.2.2.trans I.2.2⟩,?_,λ a=>?_,λ a=>?_⟩⟩
   ·have k:∀j,j≠12/\j≠13/\j≠8/\j≠9->f j=yN A n j:=λ j⟨a,b,c,d⟩=>h.m j a b c d;show GG _ _ _ _ _=GG _ _ _ _ A.j
    congr 1
    unfold mF ye;rw[k 0 (by decide),k 1 (by decide),k 2 (by decide),k 3 (by decide),k 4 (by decide),k 5 (by decide),k 6 (by decide),k 7 (by decide),k 10 (by decide),k 11 (by decide),
     k 14 (by decide),k 15 (by decide),k 16 (by decide),k 17 (by decide),k 18 (by decide),k 19 (by decide),k 20 (by decide),k 21 (by decide),k 22 (by decide),k 23 (by decide),
     k 24 (by decide),k 25 (by decide),k 26 (by decide),k 27 (by decide),k 28 (by decide),k 29 (by decide),P,E,aq,Q]
    rfl
   ·rw[mm w _ 0 _ _ _ O,E];rfl
   ·grind
   ·rw[h.t a,N,ak]
    grind
   ·rw[h.r a,N,al]
    grind
  exact aeC rfl λ d=>let⟨A',S,T,U,V,W,X⟩:=key; ⟨A',S,T,U,V,W,X.o d⟩
section
variable(A:Ar)
theorem gm:Ch TP true 7 0 0 (CW A):=λ w=>by kernel_rfl
theorem Yq:bM TP true (JW A.a) 0 (CW A) (qy A 0):=Ch.a (gm A) (agR A) ((aeT A _ _ _ _).b λ d g=>Vi)
end
def sq(A:Ar)(xs:List b2)(fnd:b2->List b2)(p:ai)(w:dk):RD:={A:=A,c:=xs,d:=p.a,e:=w,b:=fnd}
theorem afP{A xs fnd a n c S ps E w t q}(sl) (h0:E[0]?=some (PE A)) (ah:nc TP t E q) (V:n1 (eG S) w.heap.size t) (aj:∀b,S b->b<w.heap.size/\¬ps.a b) (H:∀b,ps.a b->b<w.heap.size) (I:∀b,ps.b b->ps.a b) (ag:∀A' p w1,A'.g=A.g->A'.k=A.k->A'.h=A.h->A'.j=A.j->uo A' w.heap.size w ps p w1->(∀b,p.a b->b<w1.heap.size)->uT (sq A' xs fnd p w1)/\ra (sq A' xs fnd p w1) a n c):∃N F w' M t' q' p' l g A' B w1,Go.runNT TP N (lk E w sl) t=(.next (lk F w' M),t')/\A'.g=A.g/\A'.k=A.k/\A'.h=A.h/\A'.j=A.j/\uo A' w.heap.size w ps B w1/\Jd (Ft (sq A' xs fnd B w1) a n c) (λ b=>S b\/b=A'.a) w p' F q' t' w' l g:=by
 have⟨ay,r,am⟩:=Yd A w ps H I;obtain⟨N,ad,au,w1,ao,ap,an,B,aa,av,e3,⟨A',Q,R,T,U,rfl,v⟩,W,Z,X,aq,P,O,ar⟩:=UY (B0:=w.heap.size) (S:=S) r _ ps E _ w sl t q (ei _) h0 ah V (gI.c V.seen _) aj H am;have⟨K,L⟩:=ag A' B w1 Q R T U v O;have J:∀x,w.heap.size+3<=x->x≠A'.e->x≠A'.d->¬B.a x:=λ x G ae af ak=>by rcases(v.b x).1 ak with y|y|y|y|y|y;have:=H x y;omega;have:=v.c.1;omega;have:=v.c.2.1;omega;have:=v.c.2.2.1;omega;exact ae y;exact af y
 have aw:=v.r;have ax:=v.c;have D:=v.m;have C:Cx (Ft (sq A' xs fnd B w1) a n c) S w B ad an ap w1:={
   y:= ⟨_,e3,Yq A'⟩
   r:=W
   h:=Z
   f:=X
   p:=λ b C=>by rcases(v.j b).1 C with y|y;exact(v.b b).2 (.inl (I b y));exact(v.b b).2 (.inr y)
   m:=λ b C=> ⟨O b C,λ al=>(P b al).2 C⟩
   l:=λ b C=>(P b C).1
   d:= ⟨by show w.heap.size<=A'.a;omega,by show w.heap.size<=A'.b;omega,by show w.heap.size<=A'.c;omega⟩
   c:= ⟨J A'.a (by omega) (by omega) (by omega),J A'.b (by omega) (cB D.2.2.1) (cB D.2.2.2.2.1),J A'.c (by omega) (cB D.2.2.2.1) (cB D.2.2.2.2.2)⟩
   i:= ⟨D.1,by show A'.a≠A'.b;omega,by show A'.a≠A'.c;omega⟩
   s:=λ x G=>G
   z:=λ x G=> .inl (by show B.a x;rcases(v.j x).1 G with y|y;exact(v.b x).2 (.inl (I x y));exact(v.b x).2 (.inr y))
   u:=v.u
   k:=v.i
   j:=v.h
   o:=λ x _=>rfl
   e:= ⟨v.e,v.g,v.d.1,v.d.2.1,v.d.2.2⟩};have⟨Y,F,w',M,t',q',p',l,g,ab,ac⟩:=dY.I (XN K L) C ao
 haveI:aW:= ⟨0,λ _=>true,λ _ _=>False,λ _ _ _ h=>h.elim⟩;exact⟨N+Y,F,w',M,t',q',p',l,g,A',B,w1,zA aa ab,Q,R,T,U,v,ac⟩
section
variable{fs:Array Func}{f:FuncId}{fn:Func}{P:Program}
def uK:Func:={name:= "x",origin:= "",params:= #[],resultTypes:= #[],nfree:=0,ntmps:=0,results:= #[],body:=none,norace:=false,tmpNames:= #[]}
theorem Zt:(kH uK).isNone=true:=by kernel_rfl
theorem Xx:(lb uK).isNone=true:=by kernel_rfl
theorem IP:(uK.name== "runtime.NumGoroutine")=false:=by decide
theorem Ha(h:fs[f]?=some uK)(args:Array b2)(v:dk):∃x v2,(callFunc f args).run (lp P fs) v= .halt x v2/\BH v v2 x:=by
 refine⟨.unsupported (.extern "x"),v,?_,rfl,id⟩;show(match fs[f]? with|none=>_|some fn=>_:Sem Next).run (lp P fs) v=_;rw[h];simp only[IP,eL.1 Zt,eL.1 Xx];rfl
def BE(fn:ht):Bool:=(fn.name== "internal/bytealg.IndexByteString" ||fn.name== "internal/bytealg.CountString")&&fn.origin== ""
theorem aaU:(Extern.allNextRows.lookup "internal/bytealg.IndexByteString").isNone=true:=by kernel_rfl
theorem afq:(Extern.allNextRows.lookup "internal/bytealg.CountString").isNone=true:=by kernel_rfl
theorem GX:(Extern.allNextRows.lookup "").isNone=true:=by kernel_rfl
theorem Vp:(Extern.allGenericRows.lookup "internal/bytealg.IndexByteString").isNone=true:=by kernel_rfl
theorem ZS:(Extern.allGenericRows.lookup "internal/bytealg.CountString").isNone=true:=by kernel_rfl
theorem Xj:(Extern.allTypedRows.lookup "internal/bytealg.IndexByteString").isNone=true:=by kernel_rfl
theorem ag3:(Extern.allTypedRows.lookup "internal/bytealg.CountString").isNone=true:=by kernel_rfl
theorem acG:Extern.allRows.lookup "internal/bytealg.IndexByteString" =some Extern.BytealgIndexByte.indexByte:=by kernel_rfl
theorem aiC:Extern.allRows.lookup "internal/bytealg.CountString" =some Extern.BytealgCount.count:=by kernel_rfl
def BF(fn:ht):Bool:=fn.name== "internal/bytealg.IndexString" &&fn.origin== ""
theorem YT:(Extern.allNextRows.lookup "internal/bytealg.IndexString").isNone=true:=by kernel_rfl
theorem aa9:(Extern.allGenericRows.lookup "internal/bytealg.IndexString").isNone=true:=by kernel_rfl
theorem Vy:(Extern.allTypedRows.lookup "internal/bytealg.IndexString").isNone=true:=by kernel_rfl
theorem aaF:Extern.allRows.lookup "internal/bytealg.IndexString" =some Extern.BytealgIndex.index:=by kernel_rfl
theorem Vf[aW][Gl](j:∀g,g<P.globals.size->Gl.a g=true)(h:fs[f]?=some fn)(i:P.funcs[f]?=some fn)(k:fn.body.isNone=true)(b:BF fn=true):(fn.name== "runtime.NumGoroutine")=false/\wa P fs f:=by
 unfold BF at b;simp only[eg,beq_iff_eq]at b;obtain⟨a,c⟩:=b;have d:(fn.name== "runtime.NumGoroutine")=false:=by rw[a];decide
 refine⟨d,IQ (e:=tv) h i d k ?_ ?_ λ _ _ _ _ l=>aby j l⟩
 ·simp only[kH,a,c,eL.1 YT,eL.1 GX];rfl
 ·simp only[lb,a,c,eL.1 aa9,eL.1 Vy,aaF];rfl
theorem afv[aW][Gl](h:fs[f]?=some fn)(i:P.funcs[f]?=some fn)(j:fn.body.isNone=true)(d:BE fn=true):(fn.name== "runtime.NumGoroutine")=false/\wa P fs f:=by
 unfold BE at d;simp only[eg,ng,beq_iff_eq]at d;obtain⟨a|a,c⟩:=d
 ·have b:(fn.name== "runtime.NumGoroutine")=false:=by rw[a];decide
  refine⟨b,IQ (e:=tm) h i b j ?_ ?_ λ _ _ _ _ g=>aan g⟩
  ·simp only[kH,a,c,eL.1 aaU,eL.1 GX];rfl
  ·simp only[lb,a,c,eL.1 Vp,eL.1 Xj,acG];rfl
 ·have b:(fn.name== "runtime.NumGoroutine")=false:=by rw[a];decide
  refine⟨b,IQ (e:=tw) h i b j ?_ ?_ λ _ _ _ _ g=>YV g⟩
  ·simp only[kH,a,c,eL.1 afq,eL.1 GX];rfl
  ·simp only[lb,a,c,eL.1 ZS,eL.1 ag3,aiC];rfl
def kx(G:Gl)(fn:ht):=match fn.body with|some c=> @cK _ G TP TP 30 c&&!(fn.name== "runtime.NumGoroutine")|none=>BE fn|| (BF fn&& (hs TP.globals.size).all G.a)
theorem R7[aW][G:Gl](e:P.globals=TP.globals)(h:fs[f]?=some fn)(b:P.funcs[f]?=some fn)(c:fn.body.isNone=true)(a:(BE fn|| (BF fn&& (hs TP.globals.size).all G.a))=true):
 (fn.name== "runtime.NumGoroutine")=false/\wa P fs f:=by
 rw[ng,eg,kV]at a;rcases a with a| ⟨a,d⟩
 ·exact afv h b c a
 ·exact Vf (λ g i=>d g (List.mem_range.2 (by rw[<-e];exact i))) h b c a
abbrev tf(fn:ht):=kx I9 fn
theorem ag8{G b:Gl}(h:∀g,G.a g=true->b.a g=true)(a:kx G fn=true):kx b fn=true:=by
 unfold kx at a⊢;split at a
 ·simp only[eg]at a⊢;exact⟨sU h _ a.1,a.2⟩
 ·rw[ng,eg,kV]at a⊢;exact a.imp id λ⟨c,d⟩=> ⟨c,λ g e=>h g (d g e)⟩
theorem Ns[aW][G:Gl]{nx:FuncId->Bool}(a:kx G fn=true)(h:fs[f]?=some fn)(h1:TP.funcs[f]?=some fn):
 (
  fn.name== "runtime.NumGoroutine")=false/\((fn.body.isNone=true/\((∀args v,∃x v2,(callFunc f args).run (lp TP fs) v= .halt x v2/\BH v v2 x)\/wa TP fs f))\/
  (fn.body.isNone=false/\∃b,TP.funcs[f]?=some b/\(b.name== "runtime.NumGoroutine")=false/\b.body.isNone=false/\(nx f=true\/b=fn))):=by
 unfold kx at a;split at a
 ·rename_i c d;simp only[eg,Bool.not_eq_true']at a;exact⟨a.2,.inr ⟨by rw[d];rfl,fn,h1,a.2,by rw[d];rfl,.inr rfl⟩⟩
 ·rename_i d;have e:fn.body.isNone=true:=by rw[d];rfl
  obtain⟨g,i⟩:=R7 rfl h h1 e a;exact⟨g,.inl ⟨e,.inr i⟩⟩
def sJ:=TP.funcs.map λ fn=>if tf fn=true then fn else uK
structure FS where
 d:Array ht
 c:∀(i:Nat)fn,TP.funcs[i]?=some fn->tf fn=true->i≠147->d[i]?=some fn
abbrev FS.Q(X:FS):=lp TP X.d
theorem FS.a(X:FS){i:Nat}{fn:ht}(h:TP.funcs[i]?=some fn)(b:tf fn=true)(a:i≠147):X.Q.funcs[i]?=some fn:=X.c i fn h b a
theorem FS.k(X:FS){i:Nat}{fn g:ht}(h:TP.funcs[i]?=some fn)(b:tf fn=true:=by kernel_rfl)(a:i≠147:=by decide)(c:fn=g:=by kernel_rfl):X.Q.funcs[i]?=some g:=c▸X.a h b a
theorem YQ:TP.follows .mixedOrders=true:=by kernel_rfl
theorem FS.b(X:FS):X.Q.follows .mixedOrders=true:=YQ
def DN:FS:= ⟨sJ,λ i fn h a _=>by unfold sJ;rw[kp,h];simp[a]⟩
@[reducible] def oT[Gl](c:Nat->Value->Prop)(h:∀r a b,c r a->c r b->a=b):aW:= ⟨TP.globals.size,cK TP TP 30,c,h⟩
def CR:dC:= ⟨TP,sJ,λ _=>false,30⟩
theorem Fl[aW][Gl]:nC TP:=ahU (n:=40) (by kernel_rfl)
theorem aat[aW]:sO TP sJ λ _=>false:=by intro f c h;have h0:=h;unfold sJ at h;rw[kp]at h;obtain⟨fn,b,rfl⟩:=ma.1 h;cases a:tf fn with
 |false=>rw[a]at h0;exact⟨IP,.inl ⟨rfl,.inl λ args v=>Ha h0 args v⟩⟩|true=>simp only[a,if_true]at h0⊢;exact Ns (nx:=λ _=>false) a h0 b
theorem Gx{j:Nat->b2->Prop}{h:∀r a b,j r a->j r b->a=b}: @dC.a (oT j h) Bf I9 CR:=by
 letI:=oT j h
 refine⟨Fl,rfl,aat,λ c=>(jG c).symm,λ f fn c i _ k=>?_⟩
 ·show cK (lp TP sJ) TP 30 c=true;rw[jG];have i:sJ[f]?=some fn:=i;unfold sJ at i;rw[kp]at i;obtain⟨g,l,d⟩:=ma.1 i;cases e:tf g with
  |false=>rw[e]at d;rw[<-d]at k;cases k
  |true=>
   rw[e]at d;simp at d;subst d;unfold tf kx at e;rw[k]at e;simp only[eg]at e;exact e.1
end
section
variable{P:Program}
abbrev pO:=Nat->Option (Array b2×Bool)
def AE(q:Option (Array b2×Bool))(o:Obj):Obj:=match q,o with
 |some (cs,true),.cells _ ty _=> .cells cs ty (0,cs.size)
 |some (cs,false),.cells _ ty fr=> .cells cs ty fr
 |_,_=> .cells #[] 0 (0,0)
def jD(w:dk)(Nd:pO):World:={w with heap:=w.heap.mapIdx λ i o=>AE (Nd i) o}
theorem ue(w:dk)(Nd:pO):(jD w Nd).heap.size=w.heap.size:=by simp[jD]
theorem ES{w:dk}{Nd:pO}{r:Nat}{o:Obj}(h:w.heap[r]?=some o):(jD w Nd).heap[r]?=some (AE (Nd r) o):=by
 simp[jD,h]
variable[aW]
def jI(Nd:pO):ah where
 h:=λ r a=>r=a/\(Nd r).isSome=true
 f:=λ r a b h k=>h.1.symm.trans k.1
 e:=λ r s a h k=>h.1.trans k.1.symm
 d:=λ r a h=>by omega
 c:=λ g h=>by cases h
def jq(Nd:pO)(n:Nat)(r:Nat):Bool:=match Nd r with|some (_,true)=>decide (r<n)|_=>false
structure wo(Nd:pO)(p:ai)(w:dk):Prop where
 c:∀r cs d,Nd r=some (cs,d)->p.a r/\(d=false->p.b r)
 b:∀r cs d,Nd r=some (cs,d)->∃cs' ty fr,w.heap[r]?=some (.cells cs' ty fr)/\AV (jI Nd) cs cs'
 a:aW.n<=w.heap.size
variable{Nd:pO}{p:ai}{w:World}
theorem UF(h:wo Nd p w):cw (jq Nd w.heap.size) (jI Nd) (jD w Nd) w:=by
 refine⟨λ r a f=>?_,λ r f=>?_,by rw[ue];exact⟨h.a,h.a⟩⟩
 ·obtain⟨rfl,g⟩:=f;obtain⟨⟨cs,d⟩,c⟩:=gE.1 g;obtain⟨cs',ty,fr,b,e⟩:=h.b r cs d c;refine⟨_,_,ES b,b,?_⟩;rw[c];cases d with
  |true=>
   have:jq Nd w.heap.size r=true:=by grind[jq]
   rw[this];exact .qb _ _ e
  |false=>
   have:jq Nd w.heap.size r=false:=by simp[jq,c]
   rw[this];exact .jM _ _ e
 grind[jq,ue]
theorem aiX(Nd:pO)(w:dk):Hd (jD w Nd):=by
 intro r o a;have b:r<w.heap.size:=by grind[ue,eo]
 rw[ES (ep b)]at a;cases a;have:∃cs ty fr,AE (Nd r) w.heap[r]= .cells cs ty fr:=by
  unfold AE;split<;>exact⟨_,_,_,rfl⟩
 obtain⟨cs,ty,fr,e⟩:=this;rw[e];exact⟨by grind,rfl⟩
theorem du.h{main:Bool}{Stop:ai->ea->dk->Prop}{n:Nat}:∀{r:dI}{p:ai}{g:ea}{w:dk},du P main Stop r p g w->n<=w.heap.size->du P main (λ p g w=>Stop p g w/\n<=w.heap.size) r p g w:=by
 intro r
 induction r with
 |eM=>exact λ h i w1 e=> ⟨h _ e,gb i e.b⟩
 |mk f k=>
  intro p g w h i;rcases h with h| ⟨j,h⟩
  ·exact .inl λ w1 e=> ⟨h _ e,gb i e.b⟩
  ·refine .inr ⟨j,λ w1 e=>?_⟩;obtain⟨g',w',es,p',a,b,c,d⟩:=h w1 e;exact⟨_,_,_,_,a,b,c,k _ d (gb i (gb e.b c.b))⟩
theorem ey.r{p p' e:ai}{w w':dk}{es:Array lB}(h:ey p p' w w' es):ey (p.d e) (p'.d e) w w' es:=
 {
  b:=h.b
  f:=λ a g l=>h.f a g λ x=>l (.inl x)
  i:=λ a g=>g.elim (λ x=>(h.i a x).imp .inl id) λ x=> .inl (.inr x)
  k:=λ a g=>g.elim (λ x=>(h.k a x).imp .inl id) λ x=> .inl (.inr x)
  j:=λ a g=>g.imp (h.j a) id
  o:=λ a g=>g.imp (h.o a) id
  n:=λ a l g=>g.elim (λ x=> .inl (h.n a (λ y=>l (.inl y)) x)) λ x=>(l (.inr x)).elim
  d:=λ v q=>(h.d v q).b
  m:=h.m
  c:=h.c
  h:=h.h}
theorem du.e{main:Bool}{Stop:ai->ea->dk->Prop}{e:ai}:∀{r:dI}{p:ai}{g:ea}{w:dk},du P main Stop r p g w->du P main (λ p' g w=>∃q,p'=q.d e/\Stop q g w) r (p.d e) g w:=by
 intro r
 induction r with
 |eM=>exact λ h w1 i=> ⟨_,rfl,h _ i.g⟩
 |mk f k=>
  intro p g w h;rcases h with h| ⟨j,h⟩
  ·exact .inl λ w1 i=> ⟨_,rfl,h _ i.g⟩
  ·refine .inr ⟨j,λ w1 i=>?_⟩;obtain⟨g',w',es,p',a,b,c,d⟩:=h w1 i.g;exact⟨_,_,_,_,a,b,c.r,k _ d⟩
structure aed(X:cS)(Nd:pO)(b:gk)(Post:fx->dk->Prop)(p:ai)(w:dk)(p':ai)(g:ea)(w2:dk)(n:ah)(v2:dk)(a':fx)(fr2:gk):Prop where
 f:∀a,p'.a a↔p.a a\/∃r,n r a
 k:∀a,p'.b a↔p.b a\/∃r,n r a/\jq Nd w.heap.size r=false
 j:g=G0 fr2 X.g
 e:cw (jq Nd w.heap.size) n v2 w2
 l:bF (jI Nd) n
 h:∀r a,n r a->(r=a/\(Nd r).isSome=true)\/(w.heap.size<=r/\w.heap.size<=a)
 i:∀a,p.a a->a<w.heap.size->¬(∃cs,Nd a=some (cs,false))->w2.heap[a]?=w.heap[a]?
 m:w.heap.size<=w2.heap.size
 c:GF CR n X.a X.d X.e X.f (b.at a' X.a) fr2
 d:∃T D,Post a' (v2.tp T D)
theorem HD(z:CR.a){X}(I:X.b){why}(M:X.a= [.code (.refuse why)]){b fr' a c}(P:b.roundOf=none){Post} (t:wo Nd p w) (L:GF CR (jI Nd) X.a X.d X.e X.f (b.at a (.code c::X.a)) fr') (S:∀T,c.wp CR.Q (λ e a' w'=>e= .normal/\Post a' w') a ((jD w Nd).tp T 0)) (m2):bG TP m2 p (G0 fr' X.g) w (λ p' g w2=>∃u v2 a' fr2,aed X Nd b Post p w p' g w2 u v2 a' fr2):=by
 refine⟨rfl,?_⟩;let F:=jq Nd w.heap.size;let own:Nat->Prop:=λ a=>∃cs,Nd a=some (cs,false);let e:ai:= ⟨λ a=>p.a a/\a<w.heap.size/\¬own a,λ a=>p.b a/\p.a a/\a<w.heap.size/\¬own a⟩;have⟨r,R⟩:=Xa z I M (λ _=>rfl) P (UF t) (aiX Nd w) L S m2;have Y:∀a,F a=false->(Nd a).isSome=true->a<w.heap.size->own a:=λ a v h2 aa=>by have⟨⟨cs,s⟩,n⟩:=gE.1 h2;cases s with|false=>grind|true=>
   grind[jq]
 have ab:∀a,own a->F a=false/\(Nd a).isSome=true:=λ a⟨cs,n⟩=> ⟨by grind[jq],by grind⟩;have ac:∀a,(Nd a).isSome=true->p.a a:=λ a h=>have⟨⟨cs,s⟩,n⟩:=gE.1 h;(t.c a _ _ n).1
 have ad:∀a,own a->p.b a:=λ a⟨cs,n⟩=>(t.c a cs false n).2 rfl;have Z:∀a,(Nd a).isSome=true->a<w.heap.size:=λ a h=>by have⟨⟨cs,s⟩,n⟩:=gE.1 h;have⟨cs',ty,fr,v,_⟩:=t.b a cs s n;grind
 have h0:((j7 F (jI Nd)).d e).d p=p:=by
  have key:∀a,(((j7 F (jI Nd)).d e).d p).a a↔p.a a:=λ a=>by
   constructor
   ·rintro((⟨r,o,h⟩|h)|h)
    all_goals grind
   ·exact .inr
  have U:∀a,(((j7 F (jI Nd)).d e).d p).b a↔p.b a:=λ a=>by
   constructor
   ·rintro((⟨r,⟨o,h⟩,K⟩|h)|h)
    all_goals grind
   ·exact .inr
  generalize ((j7 F (jI Nd)).d e).d p=V at key U;have⟨ae,ag⟩:=p;have⟨af,ah⟩:=V
  grind[ai.mk.injEq]
 have y:=((R.h (ei _)).g (e:=e) (λ a h=> ⟨h.2.1,h.2.2.1,h.2.2.2⟩) ⟨λ _ _=>rfl,λ a h=>h.2.1,λ a h⟨r,⟨o,h2⟩,x⟩=>h.2.2 (by grind)⟩).e (e:=p);rw[h0]at y;refine⟨r,y.a ?_⟩;rintro p' g w2⟨aj,rfl,q,rfl,⟨⟨u,v2,a',fr2,o,B,C,W,D,E,G,H⟩,Q⟩,A⟩;subst o;have N:∀r a,u r a->(r=a/\(Nd r).isSome=true)\/(w.heap.size<=r/\w.heap.size<=a):=λ r a O=>by
  rcases E r a O with h|h
  exact .inl h
  grind[ue]
 refine⟨u,v2,a',fr2,{f:=λ a=>?_,k:=λ a=>?_,j:=B,e:=C,l:=D,h:=N,i:=λ a v h2 x=>A.b a ⟨v,h2,x⟩,m:=Q,c:=G,d:=H}⟩
 ·constructor
  ·rintro((h|h)|h)
   exact .inr h
   all_goals grind
  ·rintro(h|h)
   exact .inr h;exact .inl (.inl h)
 ·constructor
  ·rintro((⟨r,h,K⟩|h)|h)
   all_goals grind
  ·rintro(h|h)
   exact .inr h;exact .inl (.inl h)
end
end Go.Rs
namespace Go.Abs
open Go.ChangeShapes Go.Proofs Go.RowKit Go.Sort Go.WideShapes
section
variable[Dr]
variable{P:Program}{E:aq}{R:Type}
variable{F:Nat}{f:Func}{c:Code}
@[reducible] def MN:lj->List Ty
 | .aj t| .pp t=> [t]
 |_=> []
@[reducible] def HH:List lj->List Ty
 | []=> []
 |c::r=>MN c++HH r
@[reducible] def Io:List (Nat×ki)->List Ty
 | []=> []
 | (_,.v c)::r=>MN c++Io r
 | (_,.B6 l)::r=>HH l++Io r
@[reducible] def Dx:List (Nat×mS)->List Ty
 | []=> []
 | (_,.jH e)::r=> .aH e::Dx r
 | (_,.cp _ l)::r=>HH l++Dx r
 | (_,.tU k v)::r=> .cO k v::Dx r
 | (_,.it k v)::r=> .cO k v::Dx r
@[reducible] def eN(n:Nat)(s:List (Nat×ki))(o:List (Nat×mS)):cf:= ⟨n,Io s++Dx o,s,o,[]⟩
@[reducible] def aT(k:Nat)(t:Ty):Nat×ki:=(k,.v (.aj t))
@[reducible] def fw(n:Nat)(s:List (Nat×ki))(o:List (Nat×mS)):dN×cf:=(.sT,eN n s o)
@[reducible] def fq(i n:Nat)(s:List (Nat×ki))(o:List (Nat×mS)):dN×cf:=(.ou i,eN n s o)
theorem B8(n)(hE:al P E)(T)(X)(b){O}(a:kO P (bT.b (R:=R)) false (gq (iw c)) 0 O)(h:(P.follows .mixedOrders&&Cf c)=true:=by kernel_rfl)(e:∀d again k,dv E (bT.b (R:=R)) (iw c) O (mk T d) (mL E T X again k)=b d again k:=by intros;kernel_rfl):eS P (bT.b (R:=R)) false c (mG n E T X b):=by simp[eg]at h;exact rk hE h.1 h.2 a e
theorem gh(n)(hE:al P E)(T)(X)(b)(h:(P.follows .mixedOrders&&Cf c)=true:=by kernel_rfl)(a:∀d again k,dv E (bT.b (R:=R)) (iw c) [] (mk T d) (mL E T X again k)=b d again k:=by intros;kernel_rfl):eS P (bT.b (R:=R)) false c (mG n E T X b):=B8 n hE T X b (O:= []) trivial h a
def Cm(f:Func):=!(f.name== "runtime.NumGoroutine")&&f.body.isSome
theorem ZO(hE:al P E)(d:P.follows .mixedOrders=true)(e:P.funcs[F]?=some f)(b:Cm f=true){ins caps a fresh g O}(c:kO P (bT.b (R:=ax a)) false (gq (bd f)) 0 O)(heq:∀x y,oI E f ins caps a fresh O x y=g x y):al P (E.a F ⟨ins,caps,a,g,fresh⟩):=by simp only[Cm,eg,mv]at b;exact mN hE (xz hE d e b.1 b.2 c heq)
theorem gD(X:Go.Rs.FS){E}(hE:al X.Q E)(d:Go.Rs.TP.funcs[F]?=some f){ins caps a fresh g O} (c:kO X.Q (bT.b (R:=ax a)) false (gq (bd f)) 0 O) (b:(Cm f&&Go.Rs.tf f&&F !=147)=true:=by kernel_rfl) (heq:∀x y,oI E f ins caps a fresh O x y=g x y:=by intros;kernel_rfl):al X.Q (E.a F ⟨ins,caps,a,g,fresh⟩):=by simp[eg,bne_iff_ne,ne_eq]at b;exact ZO hE X.b (X.a d b.1.2 b.2) b.1.1 c heq
theorem dw(X:Go.Rs.FS){E}(hE:al X.Q E)(c:Go.Rs.TP.funcs[F]?=some f){ins caps a fresh g}(b:(Cm f&&Go.Rs.tf f&&F !=147)=true:=by kernel_rfl)(heq:∀x y,oI E f ins caps a fresh [] x y=g x y:=by intros;kernel_rfl):al X.Q (E.a F ⟨ins,caps,a,g,fresh⟩):=gD X hE c (O:= []) trivial b heq
end
end Go.Abs
namespace Go.Abs.N
open Go.Abs
section
local instance:Dr:= ⟨false⟩
abbrev Lp2(D A B R:Type):=D->(D->Option R)->(A->Option R)×(B->Option R)×Unit->Option R
variable(X:Go.Rs.FS)(n:Nat)
abbrev Y0:Ty:=.ay .i64
abbrev Y1:Ty:=.aF Y0 Y0
abbrev Y2:=Int×Int×Int×Int×Int×Int
abbrev Y3:=Y2×Int×Int×Int×Int×Int×Int
abbrev Y4:Ty:=.aF Y0 Y1
abbrev Y5:Ty:=.aF Y0 Y4
abbrev Y6:Ty:=.aF Y0 Y5
abbrev Y7:Ty:=.aF Y0 Y6
abbrev Y8:Ty:=.aF Y7 Y7
abbrev Y9:=Int×Int
abbrev EE:=Y3×Int×Y3×Int×Int
abbrev Qq:Ty:=.aF .aJ Y0
abbrev zg:Ty:=.aH Y1
abbrev MJ:Ty:=.aH Qq
abbrev kF:Ty:=.aF MJ zg
abbrev Y15:Ty:=.aF Y8 Y1
abbrev TB:Ty:=.aF Y0 Y15
abbrev Fu:Ty:=.aF Y8 TB
abbrev UC:=List UInt8
abbrev Y19:=UC×Int
abbrev ZW:=Y9×Y3
abbrev oa:=List ZW
abbrev rf:Ty:=.aH Fu
abbrev rG:=List Y9
abbrev uG:=List Y19
abbrev zd:Ty:=.dX Y1 Y8
abbrev yD:=uG×rG
abbrev yL:=List EE
def gT:List (Nat×eZ):= [(3,⟨Y0,0,false⟩),(4,⟨.aO,0,false⟩),(9,⟨.aJ,0,false⟩),(22,⟨MJ,0,false⟩),(23,⟨zg,0,false⟩),(25,⟨kF,2,false⟩),(35,⟨Y0,0,false⟩),(56,⟨Y1,2,false⟩),(136,⟨Qq,2,false⟩),(138,⟨kF,1,false⟩),(147,⟨Y7,6,true⟩),(149,⟨Y8,2,false⟩),(163,⟨zd,0,false⟩),(168,⟨Y1,2,true⟩),(177,⟨TB,3,false⟩),(191,⟨(.aH Y8),0,false⟩),(205,⟨(.aH Y0),0,false⟩),(228,⟨rf,0,false⟩),(231,⟨Fu,2,false⟩)]
def gQ:= [(168,Y1)]
theorem acN(X:Go.Rs.FS):zP X.Q 168 Y1:=JF (d:=40) (by decide) (by kernel_rfl) rfl (by kernel_rfl)
def e0(n:Nat):aq:= ⟨gT,[],gQ,[],[],[],[]⟩
theorem h0:al X.Q (e0 n):=GI (IN (by kernel_rfl)) (acN X)
def IY(n:Nat)(p:uG×rG):=some (ee p.1:Int)
def e1:=(e0 n).B 100 [kF] [Y0] λ x y=>IY n x
theorem h1:al X.Q (e1 n):=dw X (h0 X n) vi
def H2(n:Nat)(a lo b:Int):=some ((decide (lo<=a))&& (decide (a<=b)))
def e2:=(e1 n).B 99 [Y0,Y0,Y0] [.aO] λ x y=>H2 n x.1 x.2.1 x.2.2
theorem h2:al X.Q (e2 n):=dw X (h1 X n) AI
def zQ(b:Int)(a:uG×rG):=(IY n a).bind λ x=>(H2 n b 0 (cr .i64 (x- 1))).bind λ c=>some c
def e3:=(e2 n).a 134 ⟨[Y0],[kF],[.aO],λ x y=>zQ n x y,false⟩
theorem h3:al X.Q (e3 n):=dw X (h2 X n) vj
def vk(n:Nat)(a:Bool)(e:Int):=bif a then some 0 else some e
def e4:=(e3 n).B 97 [.aO,Y0] [Y0] λ x y=>vk n x.1 x.2
theorem h4:al X.Q (e4 n):=dw X (h3 X n) A1
def yp(n:Nat):Lp2 (rG×Int×Int×Int×Int×Unit) Unit (Int×Unit) Int:=λ(s,b,a,v,c,_) again (k0,k1,_)=>bif decide (a<b)then(aG s a).bind λ e=>bif (v==e.1)&& (c==e.2)then k1 (a,())else again (s,b,(cr .i64 (a+1)),v,c,())else k0 ()
def yf(s:List Y9)(v:Int×Int):=cq (yp n) n (s,(ee s:Int),0,v.1,v.2,()) (λ(_)=>some (-1),λ(a,_)=>some a,())
def e5:=(e4 n).B 138 [zg,Y1] [Y0] λ x y=>yf n x.1 x.2
theorem h5:al X.Q (e5 n):=gD X (h4 X n) vo (O:= [_]) ⟨gh n (h4 X n) (eN 19 [aT 0 zg,(3,.v (.cu 19 0)),aT 7 Y0,aT 8 Y0] [(19,.cp Y1 [.aj Y0,.aj Y0])]) [fq 0 19 [] [],fw 19 [aT 4 Y0] []] (yp n),trivial⟩
def BY(s:List Y9)(v:Int×Int):=(yf n s v).bind λ x=>some (decide (x>=0))
def e6:=(e5 n).B 109 [zg,Y1] [.aO] λ x y=>BY n x.1 x.2
theorem h6:al X.Q (e6 n):=dw X (h5 X n) vE
def Hv(n:Nat):Lp2 ((List Int)×Int×Int×Unit) Unit (Int×Unit) Int:=λ(b,c,a,_) again (k0,k1,_)=>bif decide (a<c)then(aG b a).bind λ e=>bif e !=0 then k1 (e,())else again (b,c,(cr .i64 (a+1)),())else k0 ()
def C5(l:List Int):=cq (Hv n) n (l,(ee l:Int),0,()) (λ(_)=>some 0,λ(a,_)=>some a,())
def e7:=(e6 n).B 96 [(.aH Y0)] [Y0] λ x y=>C5 n x
theorem h7:al X.Q (e7 n):=gD X (h6 X n) A2 (O:= [_]) ⟨gh n (h6 X n) (eN 15 [aT 5 (.aH Y0),aT 6 Y0,aT 7 Y0] []) [fq 0 15 [] [],fw 15 [aT 2 Y0] []] (Hv n),trivial⟩
def En(p:uG×rG)(a:Y2×Int×Int×Int×Int×Int×Int)(m:Int×Int):Option (Y3×Int):=((λ i=>zQ n i p) m.1).bind λ x=>(bI x ((λ i=>zQ n i p) m.2) false).bind λ l=>(vk n (x&&l) 6).bind λ t=>(BY n p.2 m).bind λ v=>(vk n v 18).bind λ w=>(C5 n ([t,w]:List Int)).bind λ k=>bif k !=0 then some (((0,0,0,0,0,0),0,0,0,0,0,0),k)else(cQ m.1 6).bind λ u=>(aG [a.1.1,a.1.2.1,a.1.2.2.1,a.1.2.2.2.1,a.1.2.2.2.2.1,a.1.2.2.2.2.2] m.1).bind λ b=>(aG p.1 m.2).bind λ e=>(cQ m.2 6).bind λ z=>(aG [a.1.1,a.1.2.1,a.1.2.2.1,a.1.2.2.2.1,a.1.2.2.2.2.1,a.1.2.2.2.2.2] m.2).bind λ c=>(cQ m.1 6).bind λ C=>(aG [a.2.1,a.2.2.1,a.2.2.2.1,a.2.2.2.2.1,a.2.2.2.2.2.1,a.2.2.2.2.2.2] m.1).bind λ g=>(vk n (decide (b>0)) 12).bind λ y=>(vk n (decide ((cr .i64 (e.2- c))>0)) 16).bind λ o=>(cQ m.2 6).bind λ D=>(aG [a.2.1,a.2.2.1,a.2.2.2.1,a.2.2.2.2.1,a.2.2.2.2.2.1,a.2.2.2.2.2.2] m.2).bind λ h=>(bI (!(h==0)) (cQ m.2 6) ()).bind λ E=>(bI (!(h==0)) (aG [a.2.1,a.2.2.1,a.2.2.2.1,a.2.2.2.2.1,a.2.2.2.2.2.1,a.2.2.2.2.2.2] m.2) 0).bind λ q=>(vk n ((h==0)|| (q==g)) 13).bind λ r=>(C5 n ([y,o,r]:List Int)).bind λ j=>bif j !=0 then some (((0,0,0,0,0,0),0,0,0,0,0,0),j)else(cQ m.1 6).bind λ F=>(aG [a.1.1,a.1.2.1,a.1.2.2.1,a.1.2.2.2.1,a.1.2.2.2.2.1,a.1.2.2.2.2.2] m.1).bind λ d=>(cQ m.1 6).bind λ G=>(cQ m.2 6).bind λ H=>(aG [(bif decide (m.1=0)then(cr .i64 (d- (bu b (cr .i64 (e.2- c)))))else a.1.1),(bif decide (m.1=1)then(cr .i64 (d- (bu b (cr .i64 (e.2- c)))))else a.1.2.1),(bif decide (m.1=2)then(cr .i64 (d- (bu b (cr .i64 (e.2- c)))))else a.1.2.2.1),(bif decide (m.1=3)then(cr .i64 (d- (bu b (cr .i64 (e.2- c)))))else a.1.2.2.2.1),(bif decide (m.1=4)then(cr .i64 (d- (bu b (cr .i64 (e.2- c)))))else a.1.2.2.2.2.1),(bif decide (m.1=5)then(cr .i64 (d- (bu b (cr .i64 (e.2- c)))))else a.1.2.2.2.2.2)] m.2).bind λ f=>(cQ m.2 6).bind λ I=>(cQ m.2 6).bind λ J=>(cQ m.1 6).bind λ A=>(aG [(bif decide (m.2=0)then(cr .i64 (f+ (bu b (cr .i64 (e.2- c)))))else(bif decide (m.1=0)then(cr .i64 (d- (bu b (cr .i64 (e.2- c)))))else a.1.1)),(bif decide (m.2=1)then(cr .i64 (f+ (bu b (cr .i64 (e.2- c)))))else(bif decide (m.1=1)then(cr .i64 (d- (bu b (cr .i64 (e.2- c)))))else a.1.2.1)),(bif decide (m.2=2)then(cr .i64 (f+ (bu b (cr .i64 (e.2- c)))))else(bif decide (m.1=2)then(cr .i64 (d- (bu b (cr .i64 (e.2- c)))))else a.1.2.2.1)),(bif decide (m.2=3)then(cr .i64 (f+ (bu b (cr .i64 (e.2- c)))))else(bif decide (m.1=3)then(cr .i64 (d- (bu b (cr .i64 (e.2- c)))))else a.1.2.2.2.1)),(bif decide (m.2=4)then(cr .i64 (f+ (bu b (cr .i64 (e.2- c)))))else(bif decide (m.1=4)then(cr .i64 (d- (bu b (cr .i64 (e.2- c)))))else a.1.2.2.2.2.1)),(bif decide (m.2=5)then(cr .i64 (f+ (bu b (cr .i64 (e.2- c)))))else(bif decide (m.1=5)then(cr .i64 (d- (bu b (cr .i64 (e.2- c)))))else a.1.2.2.2.2.2))] m.1).bind λ s=>bif s==0 then(cQ m.1 6).bind λ B=>some ((((bif decide (m.2=0)then(cr .i64 (f+ (bu b (cr .i64 (e.2- c)))))else(bif decide (m.1=0)then(cr .i64 (d- (bu b (cr .i64 (e.2- c)))))else a.1.1)),(bif decide (m.2=1)then(cr .i64 (f+ (bu b (cr .i64 (e.2- c)))))else(bif decide (m.1=1)then(cr .i64 (d- (bu b (cr .i64 (e.2- c)))))else a.1.2.1)),(bif decide (m.2=2)then(cr .i64 (f+ (bu b (cr .i64 (e.2- c)))))else(bif decide (m.1=2)then(cr .i64 (d- (bu b (cr .i64 (e.2- c)))))else a.1.2.2.1)),(bif decide (m.2=3)then(cr .i64 (f+ (bu b (cr .i64 (e.2- c)))))else(bif decide (m.1=3)then(cr .i64 (d- (bu b (cr .i64 (e.2- c)))))else a.1.2.2.2.1)),(bif decide (m.2=4)then(cr .i64 (f+ (bu b (cr .i64 (e.2- c)))))else(bif decide (m.1=4)then(cr .i64 (d- (bu b (cr .i64 (e.2- c)))))else a.1.2.2.2.2.1)),(bif decide (m.2=5)then(cr .i64 (f+ (bu b (cr .i64 (e.2- c)))))else(bif decide (m.1=5)then(cr .i64 (d- (bu b (cr .i64 (e.2- c)))))else a.1.2.2.2.2.2))),(bif decide (m.1=0)then 0 else(bif decide (m.2=0)then g else a.2.1)),(bif decide (m.1=1)then 0 else(bif decide (m.2=1)then g else a.2.2.1)),(bif decide (m.1=2)then 0 else(bif decide (m.2=2)then g else a.2.2.2.1)),(bif decide (m.1=3)then 0 else(bif decide (m.2=3)then g else a.2.2.2.2.1)),(bif decide (m.1=4)then 0 else(bif decide (m.2=4)then g else a.2.2.2.2.2.1)),(bif decide (m.1=5)then 0 else(bif decide (m.2=5)then g else a.2.2.2.2.2.2))),0)else some ((((bif decide (m.2=0)then(cr .i64 (f+ (bu b (cr .i64 (e.2- c)))))else(bif decide (m.1=0)then(cr .i64 (d- (bu b (cr .i64 (e.2- c)))))else a.1.1)),(bif decide (m.2=1)then(cr .i64 (f+ (bu b (cr .i64 (e.2- c)))))else(bif decide (m.1=1)then(cr .i64 (d- (bu b (cr .i64 (e.2- c)))))else a.1.2.1)),(bif decide (m.2=2)then(cr .i64 (f+ (bu b (cr .i64 (e.2- c)))))else(bif decide (m.1=2)then(cr .i64 (d- (bu b (cr .i64 (e.2- c)))))else a.1.2.2.1)),(bif decide (m.2=3)then(cr .i64 (f+ (bu b (cr .i64 (e.2- c)))))else(bif decide (m.1=3)then(cr .i64 (d- (bu b (cr .i64 (e.2- c)))))else a.1.2.2.2.1)),(bif decide (m.2=4)then(cr .i64 (f+ (bu b (cr .i64 (e.2- c)))))else(bif decide (m.1=4)then(cr .i64 (d- (bu b (cr .i64 (e.2- c)))))else a.1.2.2.2.2.1)),(bif decide (m.2=5)then(cr .i64 (f+ (bu b (cr .i64 (e.2- c)))))else(bif decide (m.1=5)then(cr .i64 (d- (bu b (cr .i64 (e.2- c)))))else a.1.2.2.2.2.2))),(bif decide (m.2=0)then g else a.2.1),(bif decide (m.2=1)then g else a.2.2.1),(bif decide (m.2=2)then g else a.2.2.2.1),(bif decide (m.2=3)then g else a.2.2.2.2.1),(bif decide (m.2=4)then g else a.2.2.2.2.2.1),(bif decide (m.2=5)then g else a.2.2.2.2.2.2)),0)
def e8:=(e7 n).B 103 [kF,Y8,Y1] [Y8,Y0] λ x y=>En n x.1 x.2.1 x.2.2
theorem h8:al X.Q (e8 n):=dw X (h7 X n) vL
def xA:Lp2 (yD×Y3×Int×Int×Int×Int×Int×Unit) (yD×Y3×Int×Int×Unit) Unit oa:=λ(b,c,d,e,f,g,a,_) again (k0,k1,_)=>bif decide (a<g)then(En n b c (d,a)).bind λ x=>bif x.2==0 then tG (α:=Y9×Y3) ((d,a),x.1) (again (b,c,d,e,f,g,(cr .i64 (a+1)),())) (k1 ())else again (b,c,d,e,f,g,(cr .i64 (a+1)),())else k0 (b,c,e,f,())
def tR:Lp2 (yD×Y3×Int×Int×Unit) Unit Unit oa:=λ(b,g,c,a,_) again (k0,k1,_)=>bif decide (a<c)then cq (xA n) n (b,g,a,c,a,(ee b.1:Int),0,()) (λ(f,h,d,e,_)=>again (f,h,d,(cr .i64 (e+1)),()),λ(_)=>k1 (),())else k0 ()
def Gt(a:uG×rG)(c1:Y2×Int×Int×Int×Int×Int×Int):=cq (tR n) n (a,c1,(ee a.1:Int),0,()) (λ(_)=>some [],λ(_)=>some [],())
def Hb:cf:= ⟨44,[kF,Y8,Y0,Y0,Y0,Y0,Y0],[(0,.v (.sZ)),(1,.v (.pp kF)),(2,.v (.pp Y8)),(4,.v (.aj Y0)),(12,.v (.aj Y0)),(13,.v (.aj Y0)),(19,.v (.aj Y0)),(20,.v (.aj Y0))],[],[]⟩
def QZ:List (dN×cf):= [(.ou 2,⟨44,[kF,Y8,Y0,Y0],[(0,.v (.sZ)),(1,.v (.pp kF)),(2,.v (.pp Y8)),(12,.v (.aj Y0)),(13,.v (.aj Y0))],[],[]⟩),(.sT,⟨44,[],[],[],[]⟩)]
def I5:Ev (List (ax [Y1,Y8])):=mG n (e8 n) Hb QZ (xA n)
theorem aaD d again ks:dv (R:=(List (ax [Y1,Y8]))) (e8 n) (jP [Y1,Y8]) (iw (lp (iw (lp (bd hL) 0)) 0)) [] (mk Hb d) (mL (e8 n) Hb QZ again ks)=xA n d again ks:=by kernel_rfl
theorem agf:eS X.Q (jP [Y1,Y8]) false (lp (iw (lp (bd hL) 0)) 0) (I5 n):=rk (h8 X n) X.b (by kernel_rfl) (O:= []) trivial (aaD n)
def H4:cf:= ⟨44,[kF,Y8,Y0,Y0],[(0,.v (.sZ)),(1,.v (.pp kF)),(2,.v (.pp Y8)),(12,.v (.aj Y0)),(13,.v (.aj Y0))],[],[]⟩
def Ro:List (dN×cf):= [(.ou 0,⟨44,[],[],[],[]⟩),(.sT,⟨44,[],[],[],[]⟩)]
def FW:Ev (List (ax [Y1,Y8])):=mG n (e8 n) H4 Ro (tR n)
theorem ahe d again ks:dv (R:=(List (ax [Y1,Y8]))) (e8 n) (jP [Y1,Y8]) (iw (lp (bd hL) 0)) [I5 n] (mk H4 d) (mL (e8 n) H4 Ro again ks)=tR n d again ks:=by kernel_rfl
theorem abk:eS X.Q (jP [Y1,Y8]) false (lp (bd hL) 0) (FW n):=rk (h8 X n) X.b (by kernel_rfl) (O:= [I5 n]) ⟨agf X n,trivial⟩ (ahe n)
def Fs:vT:= ⟨[kF,Y8],zd,λ y=>Gt n y.1 y.2⟩
theorem UO(y):Bb (e8 n) hL [Y1,Y8] [kF,Y8] [FW n] y=(Fs n).c y:=by kernel_rfl
theorem aew:yk X.Q 135 (Fs n):=XD (h8 X n) X.b (X.a vR (by kernel_rfl) (by decide)) (by kernel_rfl) (by kernel_rfl) (O:= [FW n]) ⟨abk X n,trivial⟩ (UO n)
def e9:=(e8 n).d 135 (Fs n)
theorem h9:al X.Q (e9 n):=aaH (h8 X n) (aew X n)
def tN(p:uG×rG)(a:Y2×Int×Int×Int×Int×Int×Int):=(Gt n p a).bind λ x=>some x
def qH:=(e9 n).B 104 [kF,Y8] [zd] λ x y=>tN n x.1 x.2
theorem xm:al X.Q (qH n):=dw X (h9 X n) w6
def ui(n:Nat)(d:Int×Y3×oa×yL×Unit)(y:Y9×Y2×Int×Int×Int×Int×Int×Int)(again:(Int×Y3×oa×yL×Unit)->Option yL)(ks:Unit):=match d,ks with| (a,b,c,own,_),(_)=>(jk (ee own+ee ([(y.2,a,b,y.1)]:List EE))).bind λ u=>again (a,b,c,(own++ ([(y.2,a,b,y.1)]:List EE)),())
def xD(a:uG×rG)(c1:Int)(c2:Y2×Int×Int×Int×Int×Int×Int):=(tN n a c2).bind λ x=>la (ui n) () (λ(d,e,c,b,_)=>some b) x (c1,c2,x,([]:List EE),())
def Ac:cf:= ⟨29,[Y0,Y8,zd,rf],[(3,.v (.pp Y0)),(5,.v (.pp Y8)),(6,.v (.cu 29 0)),(15,.v (.aj zd))],[(29,.cp rf [.iR 30]),(30,.jH Fu)],[]⟩
def BV:List (dN×cf):= []
theorem OC(d)(x)(again)(ks):dv (R:=(ax [rf])) (qH n) (bT.b (R:=(ax [rf]))) (vv (lp Go.Rs.w5 0)) [] (GP Ac [3,5,6,15] 16 17 Y1 Y8 d x) (tH λ st=>dv (R:=(ax [rf])) (qH n) (bT.b (R:=(ax [rf]))) (wQ (lp Go.Rs.w5 0)) [] st (wR (qH n) Ac [3,5,6,15] BV again ks))=ui n d x again ks:=by kernel_rfl
def ja:=qH n
theorem vX:al X.Q (ja n):=(xm X n)
end
end Go.Abs.N
namespace Go.Abs.C
section
local instance:Dr:= ⟨true⟩
abbrev Lp2(D A B R:Type):=D->(D->Option R)->(A->Option R)×(B->Option R)×Unit->Option R
variable(X:Go.Rs.FS)(n:Nat)
abbrev W0:Ty:=.ay .i64
abbrev W1:Ty:=.aF W0 W0
abbrev W2:Ty:=.aF W0 W1
abbrev W3:Ty:=.aF W0 W2
abbrev W4:Ty:=.aF W0 W3
abbrev W5:Ty:=.aF W0 W4
abbrev W6:Ty:=.aF W5 W5
abbrev W7:=Int×Int×Int×Int×Int×Int
abbrev W8:=W7×Int×Int×Int×Int×Int×Int
abbrev W9:Ty:=.aH W0
abbrev Wi:Ty:=.aF W6 W1
abbrev Pq:Ty:=.aF W0 Wi
abbrev uB:Ty:=.aF W6 Pq
abbrev qd:=List Int
def gT:List (Nat×eZ):= [(3,⟨W0,0,false⟩),(4,⟨.aO,0,false⟩),(26,⟨W9,0,false⟩),(147,⟨W5,6,true⟩),(149,⟨W6,2,false⟩),(177,⟨Pq,3,false⟩),(231,⟨uB,2,false⟩)]
def gQ:List (Nat×Ty):= []
def e0(n:Nat):aq:= ⟨gT,[],gQ,[],[],[],[]⟩
theorem h0:al X.Q (e0 n):=IN (by kernel_rfl)
def AY(n:Nat)(x:Int):=some (x !=x)
def e1:=(e0 n).B 213 [W0] [.aO] λ x y=>AY n x
theorem h1:al X.Q (e1 n):=dw X (h0 X n) xM
def Cc(x y:Int):=(AY n x).bind λ b=>(AY n y).bind λ a=>bif b then bif a then some 0 else some (-1)else bif a then some 1 else bif decide (x<y)then some (-1)else bif decide (x>y)then some 1 else some 0
def e2:=(e1 n).B 231 [W0,W0] [W0] λ x y=>Cc n x.1 x.2
theorem h2:al X.Q (e2 n):=dw X (h1 X n) x0
def GH:Lp2 (qd×qd×qd×Int×Int×Unit) (qd×qd×Unit) (Int×Unit) Int:=λ(c,b,f,d,a,_) again (k0,k1,_)=>bif decide (a<d)then(aG f a).bind λ e=>bif decide (a>=(ee b:Int))then k1 (1,())else(aG b a).bind λ g=>(Cc n e g).bind λ x=>bif x !=0 then k1 (x,())else again (c,b,f,d,(cr .i64 (a+1)),())else k0 (c,b,())
def Ew(a c:List Int):=cq (GH n) n (a,c,a,(ee a:Int),0,()) (λ(b,d,_)=>bif decide ((ee b:Int)< (ee d:Int))then some (-1)else some 0,λ(e,_)=>some e,())
def e3:=(e2 n).B 207 [W9,W9] [W0] λ x y=>Ew n x.1 x.2
theorem h3:al X.Q (e3 n):=gD X (h2 X n) x1 (O:= [_]) ⟨gh n (h2 X n) (eN 36 [aT 0 W9,aT 1 W9,aT 9 W9,aT 10 W0,aT 11 W0] []) [fq 0 36 [aT 0 W9,aT 1 W9] [],fw 36 [aT 4 W0] []] (GH n),trivial⟩
def zw(n:Nat):Lp2 (Int×qd×Int×Int×Unit) (Int×Unit) (Int×Unit) Int:=λ(zero,b,c,a,_) again (k0,k1,_)=>bif decide (a<c)then(aG b a).bind λ e=>bif e !=zero then k1 (e,())else again (zero,b,c,(cr .i64 (a+1)),())else k0 (zero,())
def Eb(a:List Int):=cq (zw n) n (0,a,(ee a:Int),0,()) (λ(c,_)=>some c,λ(b,_)=>some b,())
def e4:=(e3 n).B 206 [W9] [W0] λ x y=>Eb n x
theorem h4:al X.Q (e4 n):=gD X (h3 X n) x2 (O:= [_]) ⟨gh n (h3 X n) (eN 18 [aT 3 W0,aT 6 W9,aT 7 W0,aT 8 W0] []) [fq 0 18 [aT 3 W0] [],fw 18 [aT 2 W0] []] (zw n),trivial⟩
def Ai(a b:W7×Int×Int×Int×Int×Int×Int):=(kZ 6 6).bind λ u=>(kZ 6 6).bind λ e=>(Ew n (jc (jA 6) [a.1.1,a.1.2.1,a.1.2.2.1,a.1.2.2.2.1,a.1.2.2.2.2.1,a.1.2.2.2.2.2]) (jc (jA 6) [b.1.1,b.1.2.1,b.1.2.2.1,b.1.2.2.2.1,b.1.2.2.2.2.1,b.1.2.2.2.2.2])).bind λ x=>(kZ 6 6).bind λ f=>(kZ 6 6).bind λ g=>(Ew n (jc (jA 6) [a.2.1,a.2.2.1,a.2.2.2.1,a.2.2.2.2.1,a.2.2.2.2.2.1,a.2.2.2.2.2.2]) (jc (jA 6) [b.2.1,b.2.2.1,b.2.2.2.1,b.2.2.2.2.1,b.2.2.2.2.2.1,b.2.2.2.2.2.2])).bind λ c=>(Eb n ([x,c]:List Int)).bind λ d=>some d
def PD:=(e4 n).n [1000002,1000003]
theorem ag5:al X.Q (PD n):=IV (h4 X n) _
def Hq:fc:= ⟨[W6,W6],[],[W0],λ x y=>Ai n x.1 x.2,false⟩
theorem WU(x)(y):oI (PD n) B1 [W6,W6] [] [W0] false [] x y=(Hq n).g x y:=by kernel_rfl
theorem aiG:jf X.Q 168 (Hq n):=xz (ag5 X n) X.b (X.a x3 (by kernel_rfl) (by decide)) (by kernel_rfl) (by kernel_rfl) (O:= []) trivial (WU n)
def e5:=(e4 n).a 168 (Hq n)
theorem h5:al X.Q (e5 n):=mN (h4 X n) (aiG X n)
def JI(a b:W8×Int×W8×Int×Int):=(Ai n a.1 b.1).bind λ x=>bif x !=0 then some x else(Ai n a.2.2.1 b.2.2.1).bind λ c=>some c
def HU:fc:= ⟨[uB,uB],[],[W0],λ x y=>JI n x.1 x.2,false⟩
theorem afB(x)(y):oI (e5 n) B2 [uB,uB] [] [W0] false [] x y=(HU n).g x y:=by kernel_rfl
theorem Oi:jf X.Q 167 (HU n):=xz (h5 X n) X.b (X.a pN (by kernel_rfl) (by decide)) (by kernel_rfl) (by kernel_rfl) (O:= []) trivial (afB n)
def e6:=(e5 n).a 167 (HU n)
theorem h6:al X.Q (e6 n):=mN (h5 X n) (Oi X n)
end
end Go.Abs.C
namespace Go.Abs
open Go.ChangeShapes Go.Proofs Go.RowKit Go.Sort Go.WideShapes
section
local instance:Dr:= ⟨true⟩
def aX:(t:Ty)->t.b->List b2| .ay k,n=> [.int k n]| .aO,b=> [.bool b]| .aJ,s=> [.string ⟨⟨s⟩⟩]| .aF a b,x=>aX a x.1++aX b x.2|_,_=> []
section
variable[Dr]
theorem kJ{P w ok}:(t:Ty)->t.h=true->(d:t.b)->(vs:List b2)->(aw P t w ok vs d↔vs=aX t d)| .ay _,_,_,_=>Iff.rfl| .aO,_,_,_=>Iff.rfl| .aJ,_,_,_=>Iff.rfl| .aF a b,h,(x,y),vs=>by simp[Ty.h,eg]at h;simp[aw,aX];rw[kJ a h.1,kJ b h.2];constructor;grind[List.take_append_drop];rintro rfl;have c:(aX a x).length=a.a:=aw.d a ((kJ (P:=P) (w:=w) (ok:=ok) a h.1 x _).2 rfl);grind| .aH _,h,_,_| .dP _ _,h,_,_| .dX _ _,h,_,_| .cO _ _,h,_,_| .ec _,h,_,_=>by cases h
end
theorem mz(t)(h:t.h=true)(d):(aX t d).length=t.a:=aw.d (P:=default) (w:=default) (ok:=λ _=>True) t ((kJ t h d _).2 rfl)
theorem AW:(t:Ty)->(d:t.b)->∀v∈aX t d,v.oneCell'=true| .ay _,_,v,h=>by simp[aX]at h;subst h;rfl| .aO,_,v,h=>by simp[aX]at h;subst h;rfl| .aJ,_,v,h=>by simp[aX]at h;subst h;rfl| .aF a b,(x,y),v,h=>by simp[aX,hS]at h;exact h.elim (AW a x v) (AW b y v)| .aH _,_,v,h| .dP _ _,_,v,h| .dX _ _,_,v,h| .cO _ _,_,v,h| .ec _,_,v,h=>by cases h
@[reducible] def Sx:Ty:= .aF (.ay .i64) (.aF (.ay .i64) (.aF (.ay .i64) (.aF (.ay .i64) (.aF (.ay .i64) (.ay .i64)))))
@[reducible] def dW:Ty:= .aF Sx Sx
@[reducible] def bq:Ty:= .aF dW (.aF (.ay .i64) (.aF dW (.aF (.ay .i64) (.ay .i64))))
abbrev I6:=Int×Int×Int×Int×Int×Int
abbrev bS:=I6×I6
abbrev bA:=bS×Int×bS×Int×Int
def sD(x y:Int):=bif decide (x<y)then-1 else bif decide (x>y)then 1 else 0
def eR:List Int->List Int->Int|x::l,y::m=>bif sD x y !=0 then sD x y else eR l m|_,_=>0
theorem SU(x y):(x<y/\sD x y= -1)\/(x=y/\sD x y=0)\/(y<x/\sD x y=1):=by grind[sD]
theorem qx(x y)(l m):(x<y/\eR (x::l) (y::m)= -1)\/(x=y/\eR (x::l) (y::m)=eR l m)\/(y<x/\eR (x::l) (y::m)=1):=by rcases SU x y with⟨a,b⟩| ⟨a,b⟩| ⟨a,b⟩;all_goals grind[eR]
theorem NQ:∀l,eR l l=0| []=>rfl|x::l=>by rcases qx x x l l with⟨h,_⟩| ⟨_,h⟩| ⟨h,_⟩;omega;rw[h,NQ l];omega
theorem LC:∀{l m:List Int},l.length=m.length->eR l m=0->l=m| [],[],_,_=>rfl| [],_::_,h,_=>by trivial|_::_,[],h,_=>by trivial|x::l,y::m,h,e=>by rcases qx x y l m with⟨_,a⟩| ⟨b,a⟩| ⟨_,a⟩;omega;rw[a]at e;rw[b,LC (by grind) e];omega
theorem xG:∀{l m:List Int},l.length=m.length->eR m l= - eR l m| [],[],_=>rfl| [],_::_,h=>by rfl|_::_,[],h=>by rfl|x::l,y::m,h=>by have e:=xG (l:=l) (m:=m) (by grind);rcases qx x y l m with⟨d,b⟩| ⟨d,b⟩| ⟨d,b⟩<;>rcases qx y x m l with⟨c,a⟩| ⟨c,a⟩| ⟨c,a⟩<;>first|omega| (rw[b,a];omega)| (rw[b,a];rfl)
theorem EP:∀{l m k:List Int},l.length=m.length->m.length=k.length->eR l m<=0->eR m k<=0->eR l k<=0/\((eR l m<0\/eR m k<0)->eR l k<0)
 | [],[],[],_,_,_,_=>by omega| [],_::_,_,h,_,_,_=>by trivial|_::_,[],_,h,_,_,_=>by trivial| [],[],_::_,_,h,_,_=>by trivial|_::_,_::_,[],_,h,_,_=>by trivial|x::l,y::m,z::k,h,h',e,e'=>by rcases qx x y l m with⟨c,a⟩| ⟨c,a⟩| ⟨c,a⟩<;>rcases qx y z m k with⟨d,b⟩| ⟨d,b⟩| ⟨d,b⟩<;>rcases qx x z l k with⟨f,c2⟩| ⟨f,c2⟩| ⟨f,c2⟩<;>
  first|omega| (rw[a]at e;rw[b]at e';have:=(EP (l:=l) (m:=m) (k:=k) (by grind) (by grind)) e e';rw[a,b,c2];exact this)
theorem JJ:∀{l l':List Int}(m m':List Int),l.length=l'.length->eR (l++m) (l'++m')=bif eR l l' !=0 then eR l l' else eR m m'
 | [],[],m,m',_=>by rfl| [],_::_,_,_,h=>by trivial|_::_,[],_,_,h=>by trivial|x::l,y::l',m,m',h=>by rcases qx x y l l' with⟨c,a⟩| ⟨c,a⟩| ⟨c,a⟩<;>rcases qx x y (l++m) (l'++m')with⟨d,b⟩| ⟨d,b⟩| ⟨d,b⟩<;>
  first|omega| (rw[re,re,b,a];first|exact (JJ (l:=l) (l':=l') m m' (by grind))|rfl)
def l6(x:I6):= [x.1,x.2.1,x.2.2.1,x.2.2.2.1,x.2.2.2.2.1,x.2.2.2.2.2]
def ry(x:bS):=l6 x.1++l6 x.2
def eT(x:bA):=ry x.1++ry x.2.2.1
theorem aeJ{x y}(h:l6 x=l6 y):x=y:=by grind[l6,List.cons.injEq]
theorem agC{x y}(h:ry x=ry y):x=y:=by have:=r1 h rfl;grind[Prod.ext,aeJ]
theorem Vm{x y}(h:eT x=eT y):x.1=y.1/\x.2.2.1=y.2.2.1:=by have:=r1 h rfl;grind[agC]
def dJ(x y:bA):=eR (eT x) (eT y)
theorem acu:SWO (hA dJ):=by
 have a:∀x y,dJ y x= - dJ x y:=λ x y=>xG rfl;refine⟨λ x=>?_,λ x y z b c=>?_,λ x y z b c=>?_⟩
 grind[hA,dJ,NQ]
 simp only[hA,decide_eq_true_eq]at*;exact(EP (l:=eT x) (m:=eT y) (k:=eT z) rfl rfl (by grind[dJ]) (by grind[dJ])).2 (.inl b);simp only[hA,decide_eq_false_iff_not,tl]at*;have:=(EP (l:=eT z) (m:=eT y) (k:=eT x) rfl rfl (by grind[dJ]) (by grind[dJ])).1
 grind[dJ]
theorem UN(n)(x):C.AY n x=some false:=by simp[C.AY]
theorem VE(n)(x y):C.Cc n x y=some (sD x y):=by grind[C.Cc,UN,sD]
theorem My(n)(l m)(h:l.length=m.length)(o:l.length<n)(p:l.length<4294967296):C.Ew n l m=some (eR l m):=by
 refine agN (I:=λ d r=>∃i,i<=l.length/\d=(l,m,l,(l.length:Int),(i:Int),())/\r=some (eR (l.drop i) (m.drop i))) (λ d=>l.length- d.2.2.2.2.1.toNat) ?_ n _ _ (by grind) (by omega);rintro d r⟨i,k,rfl,rfl⟩again j;simp only[C.GH];by_cases c:i<l.length;have e:i<m.length:=by omega
 have f:(i:Int)< ((l.length:Nat):Int):=by omega
 have g:¬((i:Int)>=((m.length:Nat):Int)):=by omega
 rw[oR,oR,et c,et e,l8 c,l8 e];simp only[f,g,decide_true,decide_false,cond_true,cond_false,ej,VE];rw[nu (by omega) (by omega)];rcases SU l[i] m[i]with⟨b,a⟩| ⟨b,a⟩| ⟨b,a⟩
 simp[a,eR];simp only[a,eR];exact j _ _ (by grind) (by grind);simp[a,eR];grind[eR]
theorem YP(n)(x y):C.Eb (n+3) [x,y]=some (bif x !=0 then x else y):=by
 unfold C.Eb;by_cases h:x=0;by_cases b:y=0;simp_all[cq,C.zw,aG,nu];subst h;have a:(y !=0)=true:=by grind
 simp[cq,C.zw,aG,nu,a];have e:(x !=0)=true:=by grind
 simp[cq,C.zw,aG,e]
theorem ahA(a b:bS):C.Ai 2000 a b=some (eR (ry a) (ry b)):=by
 have e:∀x,jc (jA 6) [x.1,x.2.1,x.2.2.1,x.2.2.2.1,x.2.2.2.2.1,x.2.2.2.2.2]=l6 x:=λ x=>rfl;have c:kZ 6 6=some ():=by decide
 simp only[C.Ai,c,ej,e];rw[My _ (l6 a.1) (l6 b.1) rfl (by grind) (by grind),ej,My _ (l6 a.2) (l6 b.2) rfl (by grind) (by grind),ej,YP _,ej];grind[ry,JJ,l6]
theorem Vh(x y:bA):C.JI 2000 x y=some (dJ x y):=by simp[C.JI,ahA,ej];unfold dJ eT;rw[JJ (l:=ry x.1) (l':=ry y.1) _ _ rfl];grind
theorem cm.a{w w'}(h:cm w w'):∃q os,w'=n2 (w.drewN q) os:=by
 refine⟨w'.drawn- w.drawn,w'.heap.extract w.heap.size w'.heap.size,?_⟩;have⟨c,d,⟨f,a⟩,i,j⟩:=h;have a:=a rfl;have⟨b,p,l,m,n⟩:=w';have⟨g,o,k,os,out⟩:=w;simp at c d f a i j;subst c d f;have e:b=g++b.extract g.size b.size:=by grind
 unfold n2 World.drewN;simp only;rw[<-e]
 congr 1;omega
theorem YL(X:Go.Rs.FS)(blk off size)(w):CmpLays X.Q 167 #[] (aX bq) 27 dJ blk off size w:=by
 intro m os a d x y;generalize hg (aX bq) 27 w blk off m a os=W;refine Calls.mono ((C.Oi X 2000).2 W (λ _=>False) [.agg (aX bq x).toArray,.agg (aX bq y).toArray] [] (x,y) () (dJ x y) ⟨aX bq x,_,rfl,(kJ bq rfl x _).2 rfl,aX bq y,rfl,(kJ bq rfl y _).2 rfl⟩ rfl (Vh x y)) ?_;rintro e w'⟨v,rfl,c,⟨cs,rfl,b⟩,_⟩;cases b;exact⟨rfl,c.a⟩
end
end Go.Abs
namespace Go.Abs.N
open Go.Abs
section
local instance:Dr:= ⟨false⟩
variable{n:Nat}
abbrev xn:=(List ((List UInt8)×Int))×(List (Int×Int))
def ok1(x:Option Int):=x.isSome
theorem Sv(l)(a:l.length<n)(b:l.length<=fu):C5 n l=some ((l.find? λ e=>e !=0).getD 0):=by refine iy (n:=n) l (λ i=>(l,((ee l):Int),(i:Int),())) (λ i r=>some ((r.find? _).getD 0)) b ?_ ?_ a;all_goals grind[h1,h2,h3,h4,h5,h6,Hv]
theorem afn(l:List (Int×Int))(v)(d:l.length<n)(f:l.length<=fu):∃q,yf n l v=some q/\(decide (q>=0))=decide (v∈l):=by unfold yf;have:=iy (n:=n) (body:=yp n) (ks:=(λ(_)=>some ((-1:Int)),λ(g,_)=>some (g),())) l (λ i=>(l,((ee l:Nat):Int),(i:Int),v.1,v.2,())) (λ i r=>some (match r.findIdx? λ e=>e==v with|some k=>((i+k:Nat):Int)|none=> -1)) f ?_ ?_ d;grind;intro i x r h j m a b c again o;simp[yp,b,a,c,ej,cond_true];grind;grind[yp]
theorem aen(l:List (Int×Int))(v)(a:l.length<n)(b:l.length<=fu):BY n l v=some (decide (v∈l)):=by have⟨q,h1,h2⟩:=afn l v a b;grind[BY,yf,h1,h2]
def ld(x:bS)(i:Nat):=(l6 x.1).getD i 0
def vJ(f t:Nat)(x a:bS):=f≠t/\∃m,0<m/\m<9223372036854775808/\∀i,i<6->ld a i=if i=t then cr .i64 (ld x i+m)else if i=f then cr .i64 (ld x i- m)else ld x i
theorem Ed(z):∃q,cr .i64 z=z+q*18446744073709551616:=by rw[IntKind.wrap_i64];refine⟨-((z+9223372036854775808)/18446744073709551616),?_⟩;omega
theorem YA{f t f' t' x b}(j:f<6)(o:t<6)(p:f'<6)(r:t'<6)(h:vJ f t x b)(g:vJ f' t' x b):f=f'/\t=t':=by have⟨n,m,m1,m2,k⟩:=h;have⟨q,m',s,u,l⟩:=g;have e:∀i,i<6->_:=λ i a=>(k i a).symm.trans (l i a);have d:=e t o;have c:=e f j;have⟨v,w1⟩:=Ed (ld x t+m);have⟨w,w2⟩:=Ed (ld x f- m);have⟨y,w3⟩:=Ed (ld x t+m');have⟨z,w4⟩:=Ed (ld x t- m');omega
end
section
local instance:Dr:= ⟨false⟩
variable{i:Nat}{α:Type}{n:Nat}{pl:xn}
theorem g6(a b c d e f:Int)(g:i<6):aG [a,b,c,d,e,f] (i:Int)=some ([a,b,c,d,e,f].getD i 0):=by grind[oR,et]
theorem r6(a:i<6):cQ (i:Int) 6=some ():=by grind[cQ]
theorem v97(n)(b)(e):vk n b e=some (bif b then 0 else e):=by cases b<;>rfl
theorem SX(b)(x d:α):bI b (some x) d=some (bif b then x else d):=by cases b<;>rfl
theorem TZ(a:pl.1.length<7){k}(b:k<pl.1.length):zQ n (k:Int) (pl.1,pl.2)=some true:=by grind[zQ,IY,H2,nu,h1,decide,h2]
theorem Ze{P:α->Prop}(b)(x y)(h1:b=true->P x)(h2:b=false->P y):P (bif b then x else y):=by grind
theorem agb(V:1000000<n)(o:pl.1.length<7)(R:pl.2.length<1000000)(J:∀h∈pl.2,h.1≠h.2)(x:bS){f t:Nat}(H:f<pl.1.length)(L:t<pl.1.length):
 ∃d q,En n pl x ((f:Int),(t:Int))=some (d,q)/\(q=0->vJ f t x d):=by
 have p:f<6:=by omega
 have B:t<6:=by omega
 have I:aG pl.1 (t:Int)=some (pl.1[t]):=by grind[oR,et]
 have U:(3:Nat)<=maxLen:=by trivial
 unfold En;simp only[TZ o H,TZ o L,ej,SX,v97,cond_true,aen (n:=n) pl.2 ((f:Int),(t:Int)) (by omega) (by unfold fu;omega),Bool.and_self];rw[Sv _ (by grind) (by grind)];by_cases k:((f:Int),(t:Int))∈pl.2
 have A:f≠t:=λ e=>J _ k (by omega);simp only[k,decide_true,cond_true,r2,sc,bne_self_eq_false,Option.getD_none,ej,cond_false];simp only[r6 p,r6 B,g6 _ _ _ _ _ _ p,g6 _ _ _ _ _ _ B,I,ej,SX];rw[Sv _ (by grind) (by omega)];simp only[ej];generalize D: [x.1.1,x.1.2.1,x.1.2.2.1,x.1.2.2.2.1,x.1.2.2.2.2.1,x.1.2.2.2.2.2].getD f 0=a;generalize l: [x.1.1,x.1.2.1,x.1.2.2.1,x.1.2.2.2.1,x.1.2.2.2.2.1,x.1.2.2.2.2.2].getD t 0=lt;generalize E:(Option.getD (List.find? (λ e:Int=>e !=0) _) 0)=Q;cases Y:(Q !=0)with
 |true=>
  grind
 |false=>
  simp only[cond_false];have F:Q=0:=by grind
  rw[F]at E;have K:0<a/\0<cr .i64 ((pl.1[t]).2- lt):=by
   grind
  have M:=Ue ((pl.1[t]).2- lt);generalize T:cr .i64 ((pl.1[t]).2- lt)=W at K M;generalize S:bu a W=m;have s:0<m/\m<9223372036854775808:=by
   grind[bu]
  have fin:∀(y:bS)(z:Int),(∀i,i<6->ld y i=if i=t then cr .i64 (lt+m)else if i=f then cr .i64 (a- m)else ld x i)->vJ f t x y:=λ y z h=>by
   refine⟨A,m,s.1,s.2,λ i g=>?_⟩;rw[h i g];by_cases c:i=t;rw[if_pos c,if_pos c,c,<-l];rfl;rw[if_neg c,if_neg c];by_cases j:i=f;rw[if_pos j,if_pos j,j,<-D];rfl;omega
  have G:([bif decide ((f:Int)=0)then cr .i64 (a- m)else x.1.1,bif decide ((f:Int)=1)then cr .i64 (a- m)else x.1.2.1,bif decide ((f:Int)=2)then cr .i64 (a- m)else x.1.2.2.1,bif decide ((f:Int)=3)then cr .i64 (a- m)else x.1.2.2.2.1,bif decide ((f:Int)=4)then cr .i64 (a- m)else x.1.2.2.2.2.1,bif decide ((f:Int)=5)then cr .i64 (a- m)else x.1.2.2.2.2.2]:List Int).getD t 0=lt:=by
   rw[<-l];have O:t=0\/t=1\/t=2\/t=3\/t=4\/t=5:=by omega
   grind[decide,decide_eq_false,List.getD_cons_zero,List.getD_cons_succ]
  simp only[G];have b:∀(i:Nat)(u v w:Int),(bif decide ((t:Int)=(i:Int))then u else bif decide ((f:Int)=(i:Int))then v else w)=if i=t then u else if i=f then v else w:=λ i u v w=>by
   grind
  have N:∀i:Nat,i<6->i=0\/i=1\/i=2\/i=3\/i=4\/i=5:=λ i g=>by omega
  refine Ze (P:=λ r=>∃d q,r=some (d,q)/\(q=0->vJ f t x d)) _ _ _ (λ _=>?_) (λ _=>?_)
  all_goals
   refine⟨_,_,rfl,λ _=>fin _ 0 λ i g=>?_⟩;rcases N i g with rfl|rfl|rfl|rfl|rfl|rfl
   exact b 0 _ _ _;exact b 1 _ _ _;exact b 2 _ _ _;exact b 3 _ _ _;exact b 4 _ _ _;exact b 5 _ _ _
 simp only[k,decide_false,cond_false,r2,sc,bne_self_eq_false,ej];exact⟨_,_,rfl,by grind⟩
end
end Go.Abs.N
namespace Go.Abs
open Go.ChangeShapes Go.Proofs Go.RowKit Go.Sort Go.WideShapes
section
local instance:Dr:= ⟨false⟩
@[reducible] def iT:Ty:= .aF (.aH (.aF .aJ (.ay .i64))) (.aH (.aF (.ay .i64) (.ay .i64)))
abbrev eU:=(List ((List UInt8)×Int))×(List (Int×Int))
def sl(a:aU):fX:= ⟨[],true,.v a⟩
def xa(e:eU)(num:Int)(x:bS):au:={N:=29,d:= [],a:= [(2,sl (.gB iT e)),(3,sl (.gB (.ay .i64) num)),(5,sl (.gB dW x)),(6,sl (.dx 29 0 0))],b:= [(29,(0,.eu (.aH bq) [.js]))],c:= [0,1,2,3,4,5,6,7,8,9,10,11,12]}
def Gf:Exit->au->Option (List bA)
 | .normal,st=>match cA st.a 6,cA st.b 29 with
  |some ⟨[],true,.v (.dx 29 ver 0)⟩,some (cv,.eu (.aH t) [.dj id v2])=>bif eb ver cv then(match cA st.b id with|some (a,.c8 e l)=>bif eb v2 a&&!eb id 29 then gN (t:= .aH e) (t':= .aH bq) l else none|_=>none)else none|_,_=>none
 |_,_=>none
def Rz(n:Nat):=qX (R:=List bA) (N.qH n) (.aF (.ay .i64) (.ay .i64)) dW (vp (lp Go.Rs.w5 0)) N.Ac N.BV (N.ui n)
def IS(n:Nat):Exit->au->Option (List bA)| .normal,st=>bif ot st.c [0,1,2,3,4,5,6,7,8,9,10,11,12]&&eb st.N 29 then Rz n {N:=st.N,d:=st.d,a:=st.a,b:=st.b,c:= []} Gf else none|_,_=>none
theorem acK:Go.Rs.w5= .seq (Go.Rs.gY Go.Rs.w5) (.block 2 (lp Go.Rs.w5 0)):=by kernel_rfl
theorem af5(n)(a)(num)(x):dv (R:=List bA) (N.qH n) (bT.b (R:=List bA)) (Go.Rs.gY Go.Rs.w5) [] (xa a num x) (IS n)=N.xD n a num x:=by kernel_rfl
def afX:Code->Bool| .region _ _ _=>true|_=>false
theorem adR{P R}{H:bT R}{i c}(h:afX c=true):nN P H i c []:=by cases c<;>first| (cases h;done)|trivial
theorem Mo{c b}(h:dB (.pointer (some ⟨c,0,none⟩)) b):c=b:=by grind[oi]
theorem hR5(X:Go.Rs.FS)(n):qp X.Q (N.qH n) [.aF (.ay .i64) (.ay .i64),dW] [16,17] (vv (lp Go.Rs.w5 0)) (wQ (lp Go.Rs.w5 0)) [] [] N.Ac [3,5,6,15] N.BV (N.ui n) where
 c:=rfl
 g:=by decide
 e:=rfl
 f:=λ x d=>by trivial
 a:=ji (N.xm X n) X.b _ _ (my trivial)
 b:=ji (N.xm X n) X.b _ _ (my trivial)
 h:=N.OC n
structure RI(P:ew)(v:dk)(ok:Nat->Prop)(a:fx)(m:eU)(num:Int)(x:bS)(c:Nat):Prop where
 f:a.tmps.size=29
 d:a.defers= []
 j:∃p,a.tmps[2]?=some p/\kQ P v ok iT p m
 l:∃p,a.tmps[3]?=some p/\kQ P v ok (.ay .i64) p num
 k:∃p,a.tmps[5]?=some p/\kQ P v ok dW p x
 h:a.tmps[6]?=some (.pointer (some ⟨c,0,none⟩))
 g:∃T,v.heap[c]?=some (.cells #[.slice none 0 0] T (0,0))
 e:¬ok c
 i:∀b,ok b->b<v.heap.size
def xe(w:dk)(n0:Nat)(own:b2)(l:List bA):=(own= .slice none 0 0/\l= [])\/∃b off cap cs T,own= .slice (some ⟨b,off,none⟩) l.length cap/\n0<=b/\w.heap[b]?=some (.cells cs T (0,0))/\∀i x,l[i]?=some x->aS cs.toList (off+i*27) 27=aX bq x
structure O5(v:dk)(a:fx)(c:Nat)(l:List bA)(a':fx)(w':dk):Prop where
 f:∀s,s<13->a'.tmps[s]?=a.tmps[s]?
 g:a'.tmps.size=29
 b:∀d∈a'.defers,∃D,d={target:= .collected D,args:= #[]}/\w'.heap[D]?=some (.deferred (some []))/\v.heap.size<=D
 e:a'.defers.Nodup
 h:∃h T,w'.heap[c]?=some (.cells #[h] T (0,0))/\xe w' v.heap.size h l
theorem Yi(X:Go.Rs.FS){n:Nat}{v:dk}{ok:Nat->Prop}{a:fx}{J:eU}{num:Int}{x:bS}{c:Nat}{l:List bA}(h:RI X.Q v ok a J num x c)(Y:N.xD n J num x=some l):
 Go.Rs.w5.wp X.Q (λ e a' w'=>e= .normal/\O5 v a c l a' w') a v:=by
 have bo:c<v.heap.size:=by have⟨T,hT⟩:=h.g;grind
 let K:bC:= ⟨v,λ b=>ok b\/b=c\/v.heap.size<=b,λ b=>b=c,[],a.tmps,0,v.heap.size⟩
 let conc:bf:= ⟨λ id=>if id=29 then some (0,.pointer (some ⟨c,0,none⟩),true)else none,K.B,0⟩
 have O:∀id ver u af,conc id=some (ver,u,af)->id=29/\ver=0/\u= .pointer (some ⟨c,0,none⟩)/\af=true:=λ id ver u af F=>by
  grind
 have aq:∀b,ok b->ae conc b:=λ b A=> ⟨.inl A,λ id ver u F aM=>by
  obtain⟨_,_,rfl,_⟩:=O id ver u true F;obtain rfl:=Mo aM;exact h.e A⟩
 have ac:∀(t:Ty)(p:b2)(d:t.b),kQ X.Q v ok t p d->bN X.Q v conc (ae conc) (.gB t d) p:=λ t p d⟨b,off,cs,T,fr,e1,G,P,Q,aE⟩=>
  ⟨b,off,cs,T,fr,e1,aq b G,P,Q,aE.b t ⟨ei _,λ _ _ _=>rfl⟩ λ b A _=>aq b A⟩
 have an:∀d E,cA (xa J num x).a d=some E->(d=2/\E=sl (.gB iT J))\/(d=3/\E=sl (.gB (.ay .i64) num))\/(d=5/\E=sl (.gB dW x))\/(d=6/\E=sl (.dx 29 0 0)):=λ d E z=>by
  grind[xa,cA,gF]
 have aS:aD X.Q K conc (xa J num x) a v:={
  g:=h.d
  n:=h.f
  m:=λ d E z p hp=>by
   rcases an d E z with⟨_,rfl⟩| ⟨_,rfl⟩| ⟨_,rfl⟩| ⟨_,rfl⟩<;>cases hp
  k:=λ d E z=>by
   rcases an d E z with⟨rfl,rfl⟩| ⟨rfl,rfl⟩| ⟨rfl,rfl⟩| ⟨rfl,rfl⟩
   have⟨p,e1,G⟩:=h.j;exact⟨p,e1,λ _=> ⟨rfl,ac _ _ _ G⟩,absurd (cG _)⟩;have⟨p,e1,G⟩:=h.l;exact⟨p,e1,λ _=> ⟨rfl,ac _ _ _ G⟩,absurd (cG _)⟩;have⟨p,e1,G⟩:=h.k;exact⟨p,e1,λ _=> ⟨rfl,ac _ _ _ G⟩,absurd (cG _)⟩;exact⟨_,h.h,λ _=> ⟨rfl,0,_,_,rfl,ei _,rfl,by grind⟩,absurd (cG _)⟩
  q:=λ id ver o z=>by
   simp[xa,cA,gF]at z;by_cases W:29=id
   subst W;simp at z;have⟨rfl,rfl⟩:=z;have⟨T,hT⟩:=h.g;exact⟨_,_,rfl,rfl,c,_,T,rfl,hT,rfl,λ v av=>by simp at av;subst av;rfl,by trivial⟩
   grind
  r:=λ id z=>by
   grind[xa,cA,gF]
  t:=λ i j ax a8 u a7 b aj aH _ _=>(O i ax u true aj).1.trans (O j a8 a7 true aH).1.symm
  f:=λ i ax u b aj A=>by
   grind[Mo]
  e:= ⟨rfl,rfl,⟨rfl,λ _=>ei _⟩,ei _,λ _ _ _=>rfl⟩
  u:=rfl
  x:=rfl
  h:=⟨λ b A=> .inr (.inr A),λ b A=> .inr (.inl A),λ d z=>(by trivial),sf,ei _⟩
  l:=λ _ _=>rfl}
 have al:oB X.Q (bT.b (R:=List bA)) false (λ s b=>b=l/\jz K s):={
  d:=λ s s' b A Y=> ⟨A.1,A.2.f Y.h⟩
  c:=λ h=>absurd rfl h
  g:=λ _ _=> ⟨K,l,λ _ _=>Iff.rfl⟩
  f:=λ h=>absurd rfl h}
 rw[<-wpIn_wide (n:=7),acK];refine wpIn_seq (wpIn_mono (ji (N.xm X n) X.b (Go.Rs.gY Go.Rs.w5) [] (adR (by kernel_rfl)) none rfl _ al _ _ _ _ _ _ ((af5 n J num x).trans Y) ⟨conc,aS⟩ ⟨rfl,jz.k _⟩) ?_);rintro e aA w1⟨a6,ag,C,⟨conc1,ab⟩,⟨rfl,ap⟩,ao⟩;cases e with
 |normal=>
  obtain⟨aP,aK,aR⟩:C.c= [0,1,2,3,4,5,6,7,8,9,10,11,12]/\C.N=29/\Rz n {N:=C.N,d:=C.d,a:=C.a,b:=C.b,c:= []} Gf=some ag:=by
   grind[IS,ot,eb,EW,cU]
  have aT:aD X.Q a6 conc1 {N:=C.N,d:=C.d,a:=C.a,b:=C.b,c:= []} aA w1:=
   {ab with l:=λ _ aV=>by trivial}
  refine wpIn_block ?_;refine wpIn_mono (Pv (N.xm X n) (H:=bT.b (R:=List bA)) rfl (hR5 X n) _ rfl _ al _ _ _ _ _ _ aR ⟨_,aT⟩ ⟨rfl,ap⟩) ?_;rintro e a' w'⟨⟨s',ba,st',⟨ah,B⟩,⟨rfl,Z⟩,I⟩,ar⟩;cases e with
  |normal=>
   refine⟨rfl,?_⟩;have au:∀s,s<13->a'.tmps[s]?=a.tmps[s]?:=λ s aV=>by
    rw[ar,ab.l s (by rw[aP];simp;omega),ap.m]
   simp[Gf]at I;split at I
   rename_i ver cv t id v2 aW aI;cases am:eb ver cv with
   |false=>grind
   |true=>
    rw[am]at I;have aY:=cU am;subst aY;split at I;rename_i aC e l0 aN;cases V:(eb v2 aC&&!eb id 29)with
    |false=>grind
    |true=>
     rw[V]at I;simp only[eg,mv]at V;have aX:=cU V.1;subst aX;have W:id≠29:=λ e=>by grind
     have⟨bp,aa⟩:=kC I;have aO:e=bq:=by grind
     subst aO;have aa:_=l0:=aa;subst aa;have⟨v6,ai,aG⟩:=B.k 6 _ aW;have⟨bj,be,bt,k1,_,_,aZ⟩:=(aG.b (cG _)).2;have⟨bg,bu,m1,m2⟩:=B.q 29 _ _ aI;rw[k1]at m1;cases m1;have⟨bc,a2,a3⟩:=aZ rfl;rw[au 6 (by omega),h.h,a3]at ai;cases ai;subst a2;obtain⟨rfl,bd,cs,T,a4,a5,bz,bB,M⟩:=m2;cases a4;obtain⟨own,bs,a9⟩:∃own,cs.toList= [own]/\bN X.Q w' ah (ae ah) (.dj id v2) own:=by
      cases L:cs.toList with
      |nil=>rw[L]at M;trivial
      |cons o r=>
       rw[L]at M;cases r with
       |nil=>exact⟨o,rfl,M.1⟩
       |cons _ _=>exact M.2.elim
     have⟨bk,bh,bv,ad,_,_,a0⟩:=a9;have⟨bi,bw,aw,p2⟩:=B.q id _ _ aN;rw[ad]at aw;cases aw;have aU:=a0 rfl;subst aU;obtain⟨rfl,p3⟩:=p2;have L:cs= #[own]:=by
      grind
     subst L;refine⟨au,by rw[ar,ab.n,aK],λ d z=>?_,by rw[B.g];exact B.h.h,own,T,a5,?_⟩;rw[B.g]at z;have⟨D,e1,G,P,Q⟩:=B.h.f d z;refine⟨D,e1,?_,?_⟩;rw[B.e.e D (by grind) λ aJ=>P (B.h.e D aJ)];omega;rw[Z.h]at Q;omega;obtain⟨S,U⟩| ⟨b,off,cap,aB,az,S,U,bl,bm,bn,aF⟩:=p3;exact .inl ⟨S,U⟩;refine .inr ⟨b,off,cap,aB,az,S,?_,U,λ i y aQ=>?_⟩;have ak:dB own b:=by grind[oi]
     rcases(B.f id _ _ b ad ak).1 with F|F;exact gb Z.d F;rcases Z.M b F with F|F;exfalso;obtain rfl:b=_:=F;exact W (B.t _ _ _ _ _ _ _ ad k1 ak rfl);omega;have:=aF i y aQ;exact(kJ _ rfl y _).1 this
    trivial
   trivial
  |_=>trivial
 |_=>trivial
end
def Jp:Go.Shelf.Ren:= ⟨λ|6=>166|15=>152|14=>205|28=>178|29=>179|20=>223|21=>224|22=>225|23=>226|24=>227|25=>228|26=>229|27=>230|46=>235|47=>209|48=>210|49=>236|50=>237|57=>238|n=>n,λ|22=>228|24=>231|25=>257|3=>3|39=>237|0=>0|53=>250|55=>247|4=>4|46=>260|45=>259|50=>265|5=>5|9=>9|66=>291|70=>294|76=>311|77=>72|n=>n,λ|n=>n⟩
theorem R8(X:Go.Rs.FS):BP X.Q Jp:={
 mixed:=X.b
 f6:= ⟨Go.Proofs.Tryz.f166.name,by decide,X.k ml⟩
 f14:= ⟨Go.Proofs.Tryz.f205.name,by decide,X.k yl⟩
 f15:=X.k ym
 f20:= ⟨Go.Proofs.Tryz.f223.name,by decide,X.k yt⟩
 f21:= ⟨Go.Proofs.Tryz.f224.name,by decide,X.k y0⟩
 f22:= ⟨Go.Proofs.Tryz.f225.name,by decide,X.k y2⟩
 f23:= ⟨Go.Proofs.Tryz.f226.name,by decide,X.k y3⟩
 f24:= ⟨Go.Proofs.Tryz.f227.name,by decide,X.k y4⟩
 f25:= ⟨Go.Proofs.Tryz.f228.name,by decide,X.k y5⟩
 f26:= ⟨Go.Proofs.Tryz.f229.name,by decide,X.k y6⟩
 f27:= ⟨Go.Proofs.Tryz.f230.name,by decide,X.k y9⟩
 f28:=X.k za
 f29:=X.k zh
 f46:= ⟨Go.Proofs.Tryz.f235.name,by decide,X.k zj⟩
 f47:=X.k zl
 f48:=X.k zr
 f49:= ⟨Go.Proofs.Tryz.f236.name,by decide,X.k zs⟩
 f50:= ⟨Go.Proofs.Tryz.f237.name,by decide,X.k zt⟩
 f57:= ⟨Go.Proofs.Tryz.f238.name,by decide,X.k z1⟩
 t0:=by kernel_rfl
 a0:=λ w=>by kernel_rfl
 z0:=λ w=>by kernel_rfl
 v0:=λ w=>by kernel_rfl
 t3:=by kernel_rfl
 a3:=λ w=>by kernel_rfl
 z3:=λ w=>by kernel_rfl
 v3:=λ w=>by kernel_rfl
 t4:=by kernel_rfl
 a4:=λ w=>by kernel_rfl
 z4:=λ w=>by kernel_rfl
 v4:=λ w=>by kernel_rfl
 t5:=by kernel_rfl
 a5:=λ w=>by kernel_rfl
 z5:=λ w=>by kernel_rfl
 v5:=λ w=>by kernel_rfl
 t9:=by kernel_rfl
 a9:=λ w=>by kernel_rfl
 z9:=λ w=>by kernel_rfl
 v9:=λ w=>by kernel_rfl
 t22:=by kernel_rfl
 a22:=λ w=>by kernel_rfl
 z22:=λ w=>by kernel_rfl
 v22:=λ w=>by kernel_rfl
 t25:=by kernel_rfl
 a25:=λ w=>by kernel_rfl
 z25:=λ w=>by kernel_rfl
 v25:=λ w=>by kernel_rfl
 t39:=by kernel_rfl
 a39:=λ w=>by kernel_rfl
 z39:=λ w=>by kernel_rfl
 v39:=λ w=>by kernel_rfl
 t45:=by kernel_rfl
 a45:=λ w=>by kernel_rfl
 z45:=λ w=>by kernel_rfl
 v45:=λ w=>by kernel_rfl
 t46:=by kernel_rfl
 a46:=λ w=>by kernel_rfl
 z46:=λ w=>by kernel_rfl
 v46:=λ w=>by kernel_rfl
 t50:=by kernel_rfl
 a50:=λ w=>by kernel_rfl
 z50:=λ w=>by kernel_rfl
 v50:=λ w=>by kernel_rfl
 t53:=by kernel_rfl
 a53:=λ w=>by kernel_rfl
 z53:=λ w=>by kernel_rfl
 v53:=λ w=>by kernel_rfl
 t55:=by kernel_rfl
 a55:=λ w=>by kernel_rfl
 z55:=λ w=>by kernel_rfl
 v55:=λ w=>by kernel_rfl
 t66:=by kernel_rfl
 a66:=λ w=>by kernel_rfl
 z66:=λ w=>by kernel_rfl
 v66:=λ w=>by kernel_rfl
 t70:=by kernel_rfl
 a70:=λ w=>by kernel_rfl
 z70:=λ w=>by kernel_rfl
 v70:=λ w=>by kernel_rfl
 t76:=by kernel_rfl
 a76:=λ w=>by kernel_rfl
 z76:=λ w=>by kernel_rfl
 v76:=λ w=>by kernel_rfl
 t77:=by kernel_rfl
 a77:=λ w=>by kernel_rfl
 z77:=λ w=>by kernel_rfl
 v77:=λ w=>by kernel_rfl}
theorem YG(X:Go.Rs.FS)(args)(w):(callFunc 167 args).run X.Q w= .ok (.enter 167 args) w:=Go.Proofs.enters_of (c:=Go.Proofs.Tryz.f167.body.getD .skip) (X.a pN (by kernel_rfl) (by decide)) (by kernel_rfl) (by kernel_rfl) args w
theorem Rv(X:Go.Rs.FS)(blk off cap)(d:Array bA)(w)(b:HoldsK (aX bq) 27 w blk off d)(c:blk<w.heap.size)(f:d.size<4611686018427387904):Calls X.Q 166 #[.slice (some ⟨blk,off,none⟩) d.size cap,.func (.func 167) #[] #[]] w λ e w'=>e= .returned (.tuple #[])/\∃a n os,PermIn 0 d.size d a/\SortedIn (hA dJ) 0 d.size a/\w'=hg (aX bq) 27 w blk off n a os:=AnyQ.slices_SortFunc (ρ:=Jp) (R8 X) 27 (λ w=>by kernel_rfl) (λ w=>by kernel_rfl) (aX bq) (λ x=>mz bq rfl x) (λ x=>AW bq x) dJ acu 167 #[] blk off cap d w (YG X) (YL X blk off d.size w) b c f
theorem QJ(X:Go.Rs.FS)(p)(cap)(w):Calls X.Q 166 #[.slice p 0 cap,.func (.func 167) #[] #[]] w λ e w'=>e= .returned (.tuple #[])/\w'=w:=AnyF.slices_SortFunc_none (ρ:=Jp) (R8 X) p _ _ w
end Go.Abs
namespace Go.Rs
open Go.Conc Go.Proofs Go.Sort
section
local instance:Abs.Dr:= ⟨false⟩
open Go.Abs (bS bA eU dW bq iT aX)
variable{r:Nat}{cs:Array Value}{ty:TypeId}{fr:Nat×Nat}
def lS(a:Array Obj)(b off cap:Nat)(t:Abs.Ty)(l:List t.b):=∃cs T fr,a[b]?=some (.cells cs T fr)/\off+cap*t.a<=cs.size/\cap<=fu/\∀i x,l[i]?=some x->dd cs.toList (off+i*t.a) t.a=aX t x
def mH(e:Array Obj)(d:Nat->Prop)(v:b2)(t:Abs.Ty)(l:List t.b):=∃a c,v= .slice a l.length c/\l.length<=c/\(c=0\/∃b o,a=some ⟨b,o,none⟩/\d b/\lS e b o c t l)
theorem mH.map{f g d e v t l}(h:mH f d v t l)(k:∀b cs T fr,d b->f[b]?=some (.cells cs T fr)->e b/\g[b]?=some (.cells cs T fr)):mH g e v t l:=
 let⟨a,c,i,j,m⟩:=h; ⟨a,c,i,j,m.imp id λ⟨b,o,k1,_,cs,T,fr,_,n⟩=> ⟨b,o,k1,by grind,_,T,fr,by grind,n⟩⟩
@[reducible] def DW:Abs.Ty:= .aF .aJ (.ay .i64)
@[reducible] def CU:Abs.Ty:= .aF (.ay .i64) (.ay .i64)
structure Nr(b:Array Obj)(a:Nat->Prop)(d:b2)(c:eU)(vv vh:b2):Prop where
 e:∃l,d= .agg ((vv::vh::l).toArray)
 g:mH b a vv DW c.1
 h:mH b a vh CU c.2
def eP(x:bS):Value:= .agg (aX dW x).toArray
section
variable[aW]
open Classical in
def nP[Gl](S:Nat->Prop)(y:b2):Value:=match y with| .int k n=> .int k n| .string s=> .string s| .bool b=> .bool b| .slice none n c=> .slice none n c| .slice (some ad) n c=>if S ad.block then .slice (some ad) n c else if n=0/\c=0 then .slice (some r9) 0 0 else shV (.slice (some ad) n c)|y=>shV y
theorem Yy[Gl]{S β}(h:∀b,S b->β b b)(y):VR β (nP S y) y:=by unfold nP;split;exact .cx _ _;exact .eI _;exact .fY _;exact .dz (a:=none) (a':=none) trivial _ _;split;exact .dz (a:=some _) (a':=some _) ⟨h _ ‹_›,rfl,rfl⟩ _ _;split;rename_i c;obtain⟨rfl,rfl⟩:=c;exact .ez _;exact vz _ _;exact vz _ _
theorem amG[Gl]{S ad n c}(h:S ad.block):nP S (.slice (some ad) n c)= .slice (some ad) n c:=by simp[nP,h]
theorem aoE[Gl]{S}(a):∃a',nP S (.slice a 0 0)= .slice a' 0 0:=by cases a with|none=>exact⟨_,rfl⟩|some ad=>by_cases h:S ad.block;all_goals simp_all[amG,r9,nP]
def fg(w:dk)(Bs:List Nat)(c:Nat)(own:Array b2):pO:=λ r=>if r=c then some (own,false)else if r∈Bs then(match w.heap[r]? with|some (.cells cs _ _)=>some (cs.map (nP (·∈Bs)),true)|_=>none)else none
variable{w:World}{Bs:List Nat}{c:Nat}{own:Array Value}{p:ai}
theorem BK:fg w Bs c own c=some (own,false):=by simp[fg]
theorem IB(b:r∈Bs)(a:r≠c)(h:w.heap[r]?=some (.cells cs ty fr)):fg w Bs c own r=some (cs.map (nP (·∈Bs)),true):=by grind[fg]
theorem AH{q}(h:fg w Bs c own r=some q):(r=c/\q=(own,false))\/(r≠c/\r∈Bs/\∃cs ty fr,w.heap[r]?=some (.cells cs ty fr)/\q=(cs.map (nP (·∈Bs)),true)):=by grind[fg]
theorem NI(l:∀r∈Bs,r≠c/\p.a r/\∃cs ty fr,w.heap[r]?=some (.cells cs ty fr))(o:p.a c/\p.b c)(m:aW.n<=w.heap.size) (q:∃cs ty fr,w.heap[c]?=some (.cells cs ty fr)/\∀β,(∀b∈Bs,β b b)->AV β own cs):wo (fg w Bs c own) p w:=by
 have n:∀b∈Bs,jI (fg w Bs c own) b b:=λ b j=>have⟨a,_,cs,ty,fr,d⟩:=l b j;⟨rfl,by rw[IB j a d];rfl⟩
 refine⟨λ r cs k h=>?_,λ r cs k h=>?_,m⟩
 ·rcases AH h with⟨rfl,e⟩| ⟨a,d,i⟩;all_goals grind
 ·rcases AH h with⟨rfl,e⟩| ⟨a,d,cs',ty,fr,i,e⟩;grind;cases e;refine⟨_,_,_,i,?_⟩;have:=AV.j (β:=jI (fg w Bs c own)) cs' (f:=nP (·∈Bs)) (g:=id) λ v _=>Yy n v;simp_all
theorem E3[Gl]{S}:(t:Abs.Ty)->(d:t.b)->(aX t d).map (nP S)=aX t d| .ay _,_=>rfl| .aO,_=>rfl| .aJ,_=>rfl| .aF a b,(x,y)=>by simp[aX,r3];rw[E3 a x,E3 b y]| .aH _,_| .dP _ _,_| .dX _ _,_| .cO _ _,_| .ec _,_=>rfl
theorem Iy{f}(l)(i n):dd (l.map f) i n=(dd l i n).map f:=by grind[dd,List.map_take,List.map_drop]
theorem BU(b:r∈Bs)(a:r≠c)(h:w.heap[r]?=some (.cells cs ty fr)):(jD w (fg w Bs c own)).heap[r]?=some (.cells (cs.map (nP (·∈Bs))) ty (0,cs.size)):=by rw[ES h,IB b a h];simp[AE]
theorem SY(h:w.heap[c]?=some (.cells cs ty fr)):(jD w (fg w Bs c own)).heap[c]?=some (.cells own ty fr):=by rw[ES h,BK];rfl
theorem amJ{P v ok t l x}(p:t.h=true)(j:v.heap=(jD w (fg w Bs c own)).heap)(f:∀r∈Bs,r≠c/\ok r)(h:mH w.heap (·∈Bs) x t l):Abs.aw P (.aH t) v ok [nP (·∈Bs) x] l:=by
 obtain⟨a,n,rfl,d,g⟩:=h;obtain rfl| ⟨b,o,rfl,k1,cs,T,fr,k,s,m,u⟩:=g;have h0:l.length=0:=by omega
 have⟨a',e⟩:=aoE (S:=(·∈Bs)) a;rw[h0,e];exact⟨_,0,by rw[h0],d,.inl rfl⟩;rw[amG (S:=(·∈Bs)) (ad:= ⟨b,o,_⟩) k1];refine⟨_,n,rfl,d,.inr ⟨b,o,_,T,_,rfl,(f b k1).2,by rw[j];exact BU k1 (f b k1).1 k,by grind,.inr m,λ i y q=>?_⟩⟩;grind[rm,Iy,E3,Abs.kJ]
end
end
section
local instance:Abs.Dr:= ⟨false⟩
open Go.Abs (bS bA eU dW bq iT aX)
variable{α:Type}{k:Nat}{f:α->List Value}
structure MF(D:RD)(j:eU)(num:Int)(S:bS->List bA)(n:Nat)(vv vh:b2):Prop where
 d:∀a,D.d a->a<D.e.heap.size
 c:TP.globals.size<=D.A.f
 i:D.d D.A.f/\∃ty fr,D.e.heap[D.A.f]?=some (.cells D.A.g.cells ty fr)
 h:D.d D.A.i/\∃ty fr,D.e.heap[D.A.i]?=some (.cells D.A.h.cells ty fr)
 g:D.A.h= .int .i64 num
 b:Nr D.e.heap D.d D.A.g j vv vh
 e:∀x∈D.c,∃f,x=eP f/\Abs.N.xD n j num f=some (S f)/\D.b x=(S f).flatMap (aX bq)
def F8(A:Ar)(r:Nat)(y:b2):=(r=1/\y=aQ A.e)\/(r=4/\y=aQ A.d)\/(r=9/\y=cX A.b)
theorem Ck(A):∀r a b,F8 A r a->F8 A r b->a=b:=by rintro r a b(⟨e,h⟩| ⟨e,h⟩| ⟨e,h⟩)(⟨d,c⟩| ⟨d,c⟩| ⟨d,c⟩)<;>first|omega| (rw[h,c])
section
variable(A:Ar)
def vU(b c:Nat)[aW](i:Nat)(y:b2):=if i=1 then .chan (some 1)else if i=2 then aQ A.f else if i=3 then aQ A.i else if i=4 then .chan (some 4)else if i=5 then aQ b else if i=6 then aQ c else if i=9 then .chan (some 9)else shV y
end
theorem ag6{A}{ys:Array b2}(d:ys.size=29)(h1:ys[1]?=some (aQ A.e))(h2:ys[2]?=some (aQ A.f))(h3:ys[3]?=some (aQ A.i))(h4:ys[4]?=some (aQ A.d))(h9:ys[9]?=some (cX A.b)):∃f,ys= ⟨wF A f⟩/\∀i,f i=ys.getD i undef:=by
 refine⟨_,?_,λ i=>rfl⟩;apply Array.ext;trivial;intro i h b;have c:i<29:=by omega
 have g:∀j a,ys.getD j df=ys[j]:=λ j a=>by simp[a]
 have k:∀j(a:j<ys.size)v,ys[j]?=some v->ys[j]=v:=λ j a v l=>by grind
 iterate 29 (obtain _|i:=i;first|exact(g _ h).symm|exact k _ h _ ‹_›)
 omega
theorem Uk:cK TP TP 30 w5=true:=by kernel_rfl
theorem uE{l:List α}(h:∀x,(f x).length=k):(l.flatMap f).length=l.length*k:=by induction l with|nil=>simp|cons a l b=>grind
theorem tq(h:∀x,(f x).length=k):∀(l:List α)i j x,l[i]?=some x->j<k->(l.flatMap f)[i*k+j]?=(f x)[j]?
 | [],i,j,x,b,_=>by trivial|a::l,0,j,x,b,hj=>by grind|a::l,i+1,j,x,b,hj=>by rw[q4,List.getElem?_append_right (by grind),h,show(i+1)*k+j- k=i*k+j from by grind];exact tq h l i j x (by grind) hj
theorem Kd{l i n j r}(h:dd l i n=r)(a:j<r.length):l[i+j]?=r[j]?:=by grind[dd]
end
section
local instance:Abs.Dr:= ⟨false⟩
open Go.Abs (bS bA eU dW bq iT aX)
section
variable[aW]
variable{β:ah}{y:Value}{r:Nat}
theorem IJ(h:VR β (aQ r) y)(d:β r r):y=aQ r:=by cases h with|dc h=>rename_i a';cases a' with|none=>trivial|some a'=>have⟨a,b,c⟩:=h;have⟨blk,off,e⟩:=a';simp at a b c;rw[<-b,<-c,β.f r _ _ a d];rfl
theorem Ii(h:VR β (.chan (some r)) y):aW.e r y:=by cases h with|gW h hp=>exact h
theorem CI{a n c}(h:VR β (.slice a n c) y)(b:a≠some r9:=by simp[r9]):∃a',y= .slice a' n c/\AO β a a':=by cases h with|dz h=>exact⟨_,rfl,h⟩|ez a'=>exact absurd rfl b
theorem Se:∀{d b:List Deferred},DL β d b->(∀x∈d,∃D,x=pZ D)->d.Nodup->∃a:List Nat,b=a.map pZ/\a.Nodup/\∀r∈a,∃D,pZ D∈d/\β D r
 | [],[],_,_,_=> ⟨[],rfl,sf,λ r h=>by cases h⟩| [],_::_,h,_,_=>h.elim|_::_,[],h,_,_=>h.elim|x::d,y::b,h,hx,hn=>by obtain⟨D,rfl⟩:=hx x (by simp);rw[hz]at hn;have⟨a,f,g,i⟩:=Se h.2 (λ x c=>hx x (p5 _ c)) hn.2;have⟨o,args⟩:=y;have⟨k,l⟩:=h.1;cases o with
  |collected r=>
   have n:β D r:=k;have m:args= #[]:=Array.eq_empty_of_size_eq_zero l.1.symm;subst m;refine⟨r::a,by rw[f];rfl,?_,λ r' q=>?_⟩;rw[hz];refine⟨λ c=>?_,g⟩;obtain⟨e,p,j⟩:=i r c;obtain rfl:=β.e e D r j n
   grind;grind|_=>trivial
end
theorem De[aW][Gl]{β}:{t:Abs.Ty}->{d:t.b}->{u e:b2}->u∈aX t d->VR β u e->e=u| .ay _,_,u,e,h,c=>by simp[aX]at h;subst h;cases c;rfl| .aO,_,u,e,h,c=>by simp[aX]at h;subst h;cases c;rfl| .aJ,_,u,e,h,c=>by simp[aX]at h;subst h;cases c;rfl| .aF a b,(x,y),u,e,h,c=>by simp[aX,hS]at h;exact h.elim (λ h=>De h c) λ h=>De h c| .aH _,_,_,_,h,_| .dP _ _,_,_,_,h,_| .dX _ _,_,_,_,h,_| .cO _ _,_,_,_,h,_| .ec _,_,_,_,h,_=>by cases h
theorem acv{D bB num S n vv vh}(K:MF D bB num S n vv vh){x}(av:x∈D.c)(f)(N)(b c)(p)(w)
 (V:D.gn p) (aI:D.dU w) (aF:RD.gZ N p w) (aZ:b≠c) (cq:p.a b) (aH:p.a c) (bj:p.b c) (L:∃ty,w.heap[b]?=some (.cells x.cells ty (0,0))) (aB:w.heap[c]?=some (.cells #[zR] 228 (0,0))):
 bG TP false p (WP D.A f N x b c) w (D.GZ x):=by
 letI base:aW:=oT (F8 D.A) (Ck D.A)
 obtain⟨G,rfl,b7,aD⟩:=K.e x av;have ao:∀a,D.d a->a<w.heap.size:=λ a F=>by
  have s:=aI a F;rw[ep (K.d a F)]at s;exact(eo.1 s).1
 have ab:∀a,D.d a->a≠c:=λ a h e=>(V a h).2 (e▸bj);have aS:∀{a cs ty fr},D.d a->D.e.heap[a]?=some (.cells cs ty fr)->w.heap[a]?=some (.cells cs ty fr):=λ F h=>(aI _ F).trans h;have⟨ap,c5,cV,bU⟩:=K.i;have⟨aA,c4,cU,bT⟩:=K.h;have ak:=K.b;have⟨c3,aY⟩:=L;have bE:=aS ap bU;have bD:=aS aA bT;have aV:∀{v t}{l:List (Abs.Ty.b t)},mH D.e.heap D.d v t l->∃M:List Nat,(∀r∈M,D.d r/\∃cs ty fr,w.heap[r]?=some (.cells cs ty fr))/\mH w.heap (·∈M) v t l:=λ{v t l}h=>by
  have⟨a,c,O,R,J⟩:=h;obtain J| ⟨b,o,J,am,cs,T,fr,bQ,az⟩:=J
  exact⟨[],by simp,a,c,O,R,.inl J⟩;have:=aS am bQ;exact⟨[b],λ r C=>by rw[qF.1 C];exact⟨am,_,_,_,this⟩,a,c,O,R,.inr ⟨b,o,J,by simp,cs,T,fr,this,az⟩⟩
 have⟨aO,cl,cH⟩:=aV ak.g;have⟨aP,cm,cG⟩:=aV ak.h
 let E:List Nat:=b::D.A.f::D.A.i::(aO++aP)
 have aN:b∈E:=by simp[E]
 have mp:D.A.f∈E:=by simp[E]
 have af:D.A.i∈E:=by simp[E]
 have U:∀r∈E,r≠c/\p.a r/\∃cs ty fr,w.heap[r]?=some (.cells cs ty fr):=λ r C=>by
  simp[E,List.mem_cons,hS]at C;obtain rfl|rfl|rfl|C|C:=C
  exact⟨aZ,cq,_,_,_,aY⟩;exact⟨ab _ ap,(V _ ap).1,_,_,_,bE⟩;exact⟨ab _ aA,(V _ aA).1,_,_,_,bD⟩;have⟨s,B⟩:=cl r C;exact⟨ab _ s,(V _ s).1,B⟩;have⟨s,B⟩:=cm r C;exact⟨ab _ s,(V _ s).1,B⟩
 have b6:wo (fg w E c #[zR]) p w:=NI U ⟨aH,bj⟩ (Nat.le_of_lt (Nat.lt_of_le_of_lt K.c (ao _ ap))) ⟨#[zR],228,(0,0),aB,λβ _=>AV.c (.dz (a:=none) (a':=none) trivial 0 0)⟩
 let aj:Nat->Value:=sw (sw (f3 f (eP G)) 5 (aQ b)) 6 (aQ c)
 let ys:Array Value:= ⟨wF D.A aj⟩
 let lt:Array Value:=ys.mapIdx (vU D.A b c)
 let an:Frame:=(WP D.A f N (eP G) b c).frame
 let X:cS:= ⟨[.code (.refuse "x")],.code w9::wK,[],N.map pZ++uU D.A,[gd],[zc D.A]⟩
 have b8:X.b:= ⟨rfl,rfl,rfl,λ id=>rfl,λ h=>by cases h⟩;have ay:=λ r(C:r∈E)=>(show jI (fg w E c #[zR]) r r from by
  have⟨s,_,cs,ty,fr,B⟩:=U r C;exact⟨rfl,by rw[IB C s B];rfl⟩)
 have bx:jI (fg w E c #[zR]) c c:= ⟨rfl,by rw[BK];rfl⟩;have b4:AV (jI (fg w E c #[zR])) lt ys:=by
  refine⟨by simp[lt],λ i v v' s B=>?_⟩;have s:(ys.mapIdx (vU D.A b c))[i]?=some v:=s;rw[kk,B]at s;simp[np,Option.some.injEq]at s;subst s;unfold vU;have B:(wF D.A aj)[i]?=some v':=by
   have:(⟨wF D.A aj⟩:Array b2)[i]?=some v':=B;simpa using this
  by_cases bk:i=1
  subst bk;rw[if_pos rfl];cases B;exact .gW (.inl ⟨rfl,rfl⟩) rfl;rw[if_neg bk];by_cases bl:i=2;subst bl;rw[if_pos rfl];cases B;exact .dc (a:=some _) (a':=some _) ⟨ay _ mp,rfl,rfl⟩;rw[if_neg bl];by_cases bm:i=3;subst bm;rw[if_pos rfl];cases B;exact .dc (a:=some _) (a':=some _) ⟨ay _ af,rfl,rfl⟩;rw[if_neg bm];by_cases bn:i=4;subst bn;rw[if_pos rfl];cases B;exact .gW (.inr (.inl ⟨rfl,rfl⟩)) rfl;rw[if_neg bn];by_cases bp:i=5;subst bp;rw[if_pos rfl];cases B;exact .dc (a:=some _) (a':=some _) ⟨ay _ aN,rfl,rfl⟩;rw[if_neg bp];by_cases br:i=6;subst br;rw[if_pos rfl];cases B;exact .dc (a:=some _) (a':=some _) ⟨bx,rfl,rfl⟩;rw[if_neg br];by_cases bt:i=9;subst bt;rw[if_pos rfl];cases B;exact .gW (.inr (.inr ⟨rfl,rfl⟩)) rfl;rw[if_neg bt];exact vz _ _
 have Y:∀i y,(wF D.A aj)[i]?=some y->lt[i]?=some (vU D.A b c i y):=λ i y cw=>by
  have:(ys.mapIdx (vU D.A b c))[i]?=some (vU D.A b c i y):=by
   rw[kk];have:ys[i]?=some y:=by simpa[ys]using cw
   rw[this];rfl
  exact this
 have l2:lt[2]?=some (aQ D.A.f):=Y 2 _ rfl;have l3:lt[3]?=some (aQ D.A.i):=Y 3 _ rfl;have bv:lt[6]?=some (aQ c):=Y 6 _ rfl;have cf:GF CR (jI (fg w E c #[zR])) X.a X.d X.e X.f (an.at ⟨lt,[]⟩ (.code w5::X.a)) an:=by
  refine⟨rfl,b4,⟨[.code w5],[.code w5],rfl,rfl,rfl,λ i u v aJ au=>?_⟩,⟨[],[],rfl,rfl,trivial,λ x h=>by cases h⟩,trivial,rfl,trivial⟩;cases i with
  |zero=>
   simp at aJ au;subst aJ au;exact⟨rfl,(jG w5).trans Uk⟩
  |succ i=>simp at aJ
 have cg:∀T,Abs.RI DN.Q ((jD w (fg w E c #[zR])).tp T 0) (λ r=>r∈E) ⟨lt,[]⟩ bB num G c:=λ T=>by
  refine{f:=by simp[lt,ys,wF],d:=rfl,j:= ⟨_,l2,?_⟩,l:= ⟨_,l3,?_⟩,k:= ⟨_,Y 5 _ rfl,?_⟩,h:=bv,g:= ⟨228,SY aB⟩,e:=λ h=>(U c h).1 rfl,i:=λ r C=>?_}
  refine⟨D.A.f,0,_,_,_,rfl,mp,BU mp (U _ mp).1 bE,by have⟨l,e⟩:=ak.e;rw[e];simp[hB,Abs.Ty.a],?_⟩;have e:dd ((D.A.g.cells.map (nP (·∈E))).toList) 0 iT.a= [nP (·∈E) vv,nP (·∈E) vh]:=by
   have⟨l,e⟩:=ak.e;rw[e];simp[hB,dd,Abs.Ty.a]
  rw[e];exact⟨amJ rfl rfl (λ r C=> ⟨(U r C).1,C⟩) (cH.map λ b _ _ _ L h=> ⟨by simp[E,L],h⟩),amJ rfl rfl (λ r C=> ⟨(U r C).1,C⟩) (cG.map λ b _ _ _ L h=> ⟨by simp[E,L],h⟩)⟩;refine⟨D.A.i,0,_,_,_,rfl,af,BU af (U _ af).1 bD,by rw[K.g];simp[hB,Abs.Ty.a],?_⟩;rw[K.g];simp[hB,dd,Abs.Ty.a,nP,Abs.aw];refine⟨b,0,_,_,_,rfl,aN,BU aN aZ aY,by simp[eP,hB,Abs.mz dW rfl G],?_⟩;have e:dd (((eP G).cells.map (nP (·∈E))).toList) 0 dW.a=aX dW G:=by
   simp[eP,hB,rm];rw[Iy];have:dd (aX dW G) 0 dW.a=aX dW G:=by
    unfold dd;rw[List.drop_zero,List.take_of_length_le (Nat.le_of_eq (Abs.mz dW rfl G))]
   rw[this,E3]
  rw[e];exact(Abs.kJ dW rfl G _).2 rfl;show r< (jD w (fg w E c #[zR])).heap.size;rw[ue];have⟨_,_,cs,ty,fr,h⟩:=U r C;exact(eo.1 h).1
 have cv:∀T,w5.wp CR.Q (λ e a' w'=>e= .normal/\Abs.O5 (jD w (fg w E c #[zR])) ⟨lt,[]⟩ c (S G) a' w') ⟨lt,[]⟩ ((jD w (fg w E c #[zR])).tp T 0):=λ T=>
  wp_mono (Abs.Yi DN (cg T) b7) λ e a' w' h=> ⟨h.1,h.2.f,h.2.g,h.2.b,h.2.e,h.2.h⟩
 refine(HD Gx b8 (why:= "x") rfl (b:=an) (fr':=an) rfl b6 cf cv false).c ?_;rintro p' g w2⟨Q,v2,a',fr2,h⟩;have⟨T,cQ,hp⟩:=h.d;have aT:∀r,r∈E->Q r r:=λ r C=>h.l r r (ay r C);have aU:Q c c:=h.l c c bx;have hT:=h.c.b;have hT:AV Q a'.tmps fr2.tmps:=hT;have ac:∀i v,i<13->lt[i]?=some v->∃y,fr2.tmps[i]?=some y/\VR Q v y:=λ i v aE au=>by
  have O:a'.tmps[i]?=some v:=(hp.f i aE).trans au;rcases hT.d i with⟨s,_⟩| ⟨v1,y,s,B,W⟩
  rw[O]at s;cases s;rw[O]at s;cases s;exact⟨y,B,W⟩
 have⟨cN,bW,aO⟩:=ac 1 _ (by omega) (Y 1 _ rfl);have⟨c6,bX,aP⟩:=ac 2 _ (by omega) l2;have⟨c7,bY,cC⟩:=ac 3 _ (by omega) l3;have⟨cO,bZ,cD⟩:=ac 4 _ (by omega) (Y 4 _ rfl);have⟨c8,b0,cE⟩:=ac 6 _ (by omega) bv;have⟨cP,b1,cF⟩:=ac 9 _ (by omega) (Y 9 _ rfl);have O:cN=aQ D.A.e:=Ck D.A 1 _ _ (Ii aO) (.inl ⟨rfl,rfl⟩);have am:cO=aQ D.A.d:=Ck D.A 4 _ _ (Ii cD) (.inr (.inl ⟨rfl,rfl⟩));have bR:cP=cX D.A.b:=Ck D.A 9 _ _ (Ii cF) (.inr (.inr ⟨rfl,rfl⟩));have R:=IJ aP (aT _ mp);have J:=IJ cC (aT _ af);have az:=IJ cE aU;subst O R J am az bR;have⟨f',a7,cd⟩:=ag6 (A:=D.A) (hT.1.symm.trans hp.g) bW bX bY bZ b1;have a8:f' 6=aQ c:=by rw[cd];simp[Array.getD_eq_getD_getElem?,b0]
 have⟨d,cR,aq,a6,cb,cY⟩:=h.c.a;have aq:a'.defers=d++ []:=aq;rw[nv]at aq;subst aq;have⟨Z,cn,co,cp⟩:=Se cb (λ z cx=>have⟨H,e,_⟩:=hp.b z cx;⟨H,e⟩) hp.e;have bh:∀r∈Z,w.heap.size<=r/\(∃H,Q H r/\w.heap.size<=H)/\w2.heap[r]?=some (.deferred (some [])):=λ r C=>by
  have⟨H,s,B⟩:=cp r C;have⟨bI,O,R,J⟩:=hp.b _ s;have bP:H=bI:=by
   have:=congrArg Deferred.target O;simp only[pZ]at this;exact u1 this
  subst bP;rw[ue]at J;have⟨o,bz,k1,P,I⟩:=h.e.b H r B;have R:v2.heap[H]?=some (.deferred (some [])):=R;rw[R]at k1;cases k1;have ch:w.heap.size<=r:=by
   rcases h.h H r B with⟨rfl,ar⟩|ar
   exact J;exact ar.2
  refine⟨ch,⟨H,B,J⟩,?_⟩;rw[P];revert I;generalize jq (fg w E c #[zR]) w.heap.size H=bV;intro I;cases I;rfl
 have ce:fr2=(W9 D.A f' (Z++N)).frame:=by
  have k1:=h.c.h;have P:=h.c.g;have I:=h.c.f;have aL:=h.c.e;have aM:=h.c.c;have⟨fn,c2,cL,cT,bw,kind,aR⟩:=fr2;simp at a7 a6;subst a7;have k1:162=fn:=k1;have I:MR .run bw:=I;have P:TL CR Q X.a X.d X.a cL:=P;have⟨l,m,cI,cJ,cK,_⟩:=P;have:l= []:=pv.1 cI.symm;subst this;have:m= []:=pk cK.symm;subst this;obtain rfl:bw= .run:=MR.c I rfl;have ct:aR=none:=by cases aR with|none=>rfl|some _=>exact aM.elim
  subst k1 aL ct;rw[cJ,a6,cn];show _=Frame.mk 162 ⟨wF D.A f'⟩ _ ((Z++N).map pZ++uU D.A) _ _ _;rw[r3,List.append_assoc];rfl
 have bg:∀a,p.a a->a<w.heap.size->a≠c->w2.heap[a]?=w.heap[a]?:=λ a s B W=>h.i a s B λ⟨cs,M⟩=>by
  rcases AH M with⟨e,_⟩| ⟨_,_,_,_,_,_,e⟩
  exact W e;have:=(Prod.mk.inj e).2;cases this
 have⟨own,bJ,aG,ck⟩:=hp.h;have aG:v2.heap[c]?=some (.cells #[own] bJ (0,0)):=aG;have⟨o,bz,k1,P,I⟩:=h.e.b c c aU;rw[aG]at k1;cases k1;obtain⟨cs',al,fr',a5,b5⟩:∃cs' al fr',w2.heap[c]?=some (.cells cs' al fr')/\AV Q #[own] cs':=by
  revert I;generalize jq (fg w E c #[zR]) w.heap.size c=bV;intro I;cases I with
  |jM e fr h=>exact⟨_,_,_,P,h⟩
 obtain⟨ag,be,bf⟩:∃ag,cs'[0]?=some ag/\VR Q own ag:=by
  rcases b5.d 0 with⟨s,_⟩| ⟨u,bC,s,B,W⟩
  simp at s;simp at s;subst s;exact⟨bC,B,W⟩
 have bd:D.gn p':=λ a F=>by
  refine⟨(h.f a).2 (.inl (V a F).1),λ aK=>?_⟩;rcases(h.k a).1 aK with aK| ⟨r,s,B⟩
  exact(V a F).2 aK;rcases h.h r a s with⟨rfl,M⟩| ⟨_,M⟩;have⟨q,M⟩:=Option.isSome_iff_exists.1 M;rcases AH M with⟨e,_⟩| ⟨_,C,cs,ty,fr,ca,e⟩;exact ab _ F e;subst e;simp[jq,M,(λ h=>(eo.1 h).1) ca]at B;have:=ao a F;omega
 have bi:D.dU w2:=λ a F=>(bg a (V a F).1 (ao a F) (ab a F)).trans (aI a F);have bc:RD.gZ (Z++N) p' w2:=by
  refine⟨?_,λ r C=>?_⟩
  rw[List.nodup_append];refine⟨co,aF.d,λ a F b L e=>?_⟩;subst e;have s:=(bh a F).1;have B:=(eo.1 (aF.b a L).2.2).1;omega;rcases hS.1 C with C|C;have⟨s,⟨H,B,W⟩,b3⟩:=bh r C;refine⟨(h.f r).2 (.inr ⟨H,B⟩),(h.k r).2 (.inr ⟨H,B,?_⟩),b3⟩;unfold jq;split;simp;exact W;rfl;have⟨bu,cy,aw⟩:=aF.b r C;refine⟨(h.f r).2 (.inl bu),(h.k r).2 (.inl cy),(bg r bu (eo.1 aw).1 λ e=>?_).trans aw⟩;subst e;rw[aB]at aw;cases aw
 have ba:g=W9 D.A f' (Z++N):=by
  rw[h.j,ce];rfl
 have ax:∀y:bA,(aX bq y).length=27:=λ y=>Abs.mz bq rfl y;obtain⟨rfl,cj⟩| ⟨aa,off,cap,bO,bK,rfl,a4,aC,cc⟩:=ck
 refine⟨f',Z++N,c,ag,none,bc,ba,a8,(h.f c).2 (.inl aH),⟨cs',al,fr',a5,be⟩,.inl ⟨?_,?_,rfl⟩,λ b L=>(by cases L),bd,bi⟩;rw[aD,cj];rfl;have⟨ad,e,h0⟩:=CI bf;cases ad with
 |none=>exact e
 |some _=>exact h0.elim
 have⟨ad,e,h0⟩:=CI bf;cases ad with
 |none=>exact h0.elim
 |some ad=>
  have⟨blk,c0,c1⟩:=ad;have⟨ah,bF,bH⟩:=h0;simp at ah bF bH;subst bF bH;have aC:v2.heap[aa]?=some (.cells bO bK (0,0)):=aC;rw[ue]at a4;have cW:w.heap.size<=blk:=by
   rcases h.h aa blk ah with⟨e,_⟩|ar;omega;exact ar.2
  have a9:jq (fg w E c #[zR]) w.heap.size aa=false:=by
   unfold jq;split;simp;exact a4;rfl
  have⟨o,bz,k1,P,I⟩:=h.e.b aa blk ah;rw[aC]at k1;cases k1;rw[a9]at I;cases I with
  |jM _ _ b9=>
   rename_i bN;refine⟨f',Z++N,c,ag,some blk,bc,ba,a8,(h.f c).2 (.inl aH),⟨cs',al,fr',a5,be⟩,.inr ⟨blk,off,(S G).length,cap,bN,_,_,e,rfl,P,?_,λ j cZ=>?_,λ cu=>?_⟩,λ b L=>?_,bd,bi⟩;rw[aD];exact uE ax;have aE:j/27< (S G).length:=by omega
   have av:=et aE;have bb:j%27<27:=ih _ (by omega);have s:=Kd (cc _ _ av) (j:=j%27) (by rw[ax];exact bb);rw[aD];have B:=tq ax (S G) (j/27) (j%27) _ av bb;rw[show j/27*27+j%27=j from by omega]at B;rw[B];rw[show off+j/27*27+j%27=off+j from by omega,hy]at s;rcases b9.d (off+j)with⟨ae,_⟩| ⟨u,bC,ae,bL,bM⟩
   rw[s]at ae;rw[List.getElem?_eq_none_iff,ax]at ae;omega;rw[bL,<-s,ae];exact congrArg some (De (mn (s.symm.trans ae)) bM);have:=ao _ cu;omega;cases L;exact⟨(h.f blk).2 (.inr ⟨aa,ah⟩),(h.k blk).2 (.inr ⟨aa,ah,a9⟩)⟩
end
section
local instance:Abs.Dr:= ⟨false⟩
open Go.Abs (bS bA eU dW bq iT aX dJ)
variable{u:World}
def km:=gY lP
def VT:Code->Nat| .region i _ _=>i|_=>0
theorem agS:km= .region (VT km) (ek km) false:=by kernel_rfl
def xQ:=((ek km)[0]?).getD default
def we:=((ek km)[1]?).getD default
theorem ahk:(ek km)[0]?=some xQ:=by kernel_rfl
theorem YC:(ek km)[1]?=some we:=by kernel_rfl
theorem afD:we.op= .call {callee:= .value (.func 166),args:= #[.tmp 27,.func 167],argTypes:=(match we.op with| .call c=>c.argTypes|_=> #[])}:=by kernel_rfl
theorem Xd:we.dst=some 28:=by kernel_rfl
def mP(L:List bA):=L.Pairwise λ x y=>Abs.dJ x y<=0
theorem Bw(d:Array bA):(eQ (aX bq) 27 d).toList=d.toList.flatMap (aX bq):=by
 have a:∀y,(aX bq y).length=27:=λ y=>Abs.mz bq rfl y;apply mx;intro j;by_cases f:j<d.size*27;have c:j/27<d.toList.length:=by grind
 have b:=tq a d.toList (j/27) (j%27) _ (et c) (ih _ (by omega));rw[show j/27*27+j%27=j from by omega]at b
 grind[get_flatK,aX,eQ,ep,et]
 rw[hv (by simp_all),hv (by rw[uE a];grind)]
theorem UZ{g n}{b:Array bA}{os a ty fr}(c:u.heap[g]?=some (.cells a ty fr)):(hg (aX bq) 27 u g 0 n b os).heap[g]?=some (.cells (fR id 0 (eQ (aX bq) 27 b) a) ty fr):=by grind[eo,hg,n2,putRowK,putRow,mapBlock,Sort.ahead,Array.getElem?_append_left,onCells]
theorem Q7(X:FS){a v}{L:List bA}(h10:a.tmps[10]?=some v)(Z:a.tmps.size=30)(S:(v= .slice none 0 0/\L= [])\/∃g cap c ty,v= .slice (some ⟨g,0,none⟩) L.length cap/\u.heap[g]?=some (.cells c ty (0,0))/\L.length*27<=c.size/\c.toList.take (L.length*27)=L.flatMap (aX bq))(Y:L.length<4611686018427387904):km.wp X.Q (λ e a' T=>e= .normal/\a'.tmps=(a.tmps.setIfInBounds 27 v).setIfInBounds 28 (.tuple #[])/\a'.defers=a.defers/\∃o,L.Perm o/\mP o/\
 (v= .slice none 0 0/\o= []\/∃g cap c q ty,v= .slice (some ⟨g,0,none⟩) L.length cap/\u.heap[g]?=some (.cells c ty (0,0))/\T.heap[g]?=some (.cells q ty (0,0))/\q.size=c.size/\q.toList.take (L.length*27)=o.flatMap (aX bq)/\∀j,L.length*27<=j->q[j]?=c[j]?)) a u:=by
 rw[agS];refine wp_region ?_;show wpOps _ _ _ [0,1] a u;rw[wpOps_cons];unfold wpOp;rw[ahk];refine .inl ?_;unfold Oper.wp;have K:(execOp a.eval xQ).run X.Q u= .ok (.value (a.eval (.tmp 10))) u:=by
  rfl
 have E:a.eval (.tmp 10)=v:=by simp_all[o1]
 rw[K,E,Oper.upon_value,wpOps_cons];unfold wpOp;rw[YC];refine .inl ?_;unfold Oper.wp;let d:Go.Act:=a.put xQ.dst v
 have aa:d.tmps=a.tmps.setIfInBounds 27 v:=by rfl
 have U:d.defers=a.defers:=by rfl
 have I:Abs.lE X.Q 166:= ⟨p8,X.a ml (by kernel_rfl) (by decide),by kernel_rfl,by kernel_rfl⟩;have C:=Abs.E1 (P:=X.Q) (a:=d) (w:=u) afD (f:= .func 166) (fid:=166) (first:= #[]) (cap:= #[]) rfl I;have D:d.eval (.tmp 27)=v:=by
  simp_all[o1]
 have H:(#[]:Array b2)++ (#[lf 27,k8 167]).map d.eval++ #[]= #[v,.func (.func 167) #[] #[]]:=by
  have e:(#[lf 27,k8 167]).map d.eval= #[d.eval (.tmp 27),d.eval (.func 167)]:=by simp
  rw[e,D];rfl
 rw[H]at C;rw[(C),Oper.upon_enter];have fin:∀p,p=d.put we.dst (.tuple #[])->p.tmps=(a.tmps.setIfInBounds 27 v).setIfInBounds 28 (.tuple #[])/\p.defers=a.defers:=λ p e=>by
  grind[Xd,Go.Act.put]
 obtain⟨rfl,rfl⟩| ⟨g,cap,c,ty,rfl,r,W,ab⟩:=S;refine(Abs.QJ X _ 0 u).mono ?_;rintro e w'⟨rfl,rfl⟩;obtain⟨t,x⟩:=fin _ rfl;exact⟨rfl,t,x,_,.refl _,.nil,by grind⟩;have G:HoldsK (aX bq) 27 u g 0 L.toArray:=by
  intro j h;rw[size_flatK]at h;have h:j<L.length*27:=by omega
  have s:(eQ (aX bq) 27 L.toArray)[j]! =c[j]!:=by
   have k:(eQ (aX bq) 27 L.toArray).toList[j]?=c.toList[j]?:=by
    grind[Bw]
   grind
  have z:j<c.size:=by omega
  refine⟨?_,?_⟩;rw[cell_of_row u g _ _ _ _ r,s,Nat.zero_add,ep z]
  grind
  grind[World.frozen?]
 have B:=Abs.Rv X g 0 cap L.toArray u G ((eo.1 r).1) (by omega);refine B.mono ?_;rintro e w'⟨rfl,b,n,os,⟨J,_,A⟩,R,rfl⟩;obtain⟨t,x⟩:=fin _ rfl;have J:b.size=L.length:=by omega
 have A:b.toList.Perm L:=by
  grind[Array.extract_size,kR]
 refine⟨rfl,t,x,b.toList,A.symm,?_,.inr ⟨g,cap,c,fR id 0 (eQ (aX bq) 27 b) c,ty,rfl,r,?_,?_,?_,λ j h=>?_⟩⟩;unfold mP;rw[List.pairwise_iff_getElem];intro i j V h N;have k:=R i j (Nat.zero_le _) N (by grind);have M:i<b.size:=by omega
 have O:j<b.size:=by omega
 rw[getElem!_pos b i M,getElem!_pos b j O]at k;simp only[hA,decide_eq_false_iff_not,tl]at k;rw[ko,ko];have:=Abs.xG (l:=Abs.eT b[i]) (m:=Abs.eT b[j]) rfl;have k:0<=Abs.eR (Abs.eT b[j]) (Abs.eT b[i]):=k;show Abs.eR (Abs.eT b[i]) (Abs.eT b[j])<=0;omega;exact UZ r;simp[fR];rw[<-Bw];apply mx;intro j;rw[hM];by_cases h:j<L.length*27;rw[if_pos h];have z:j<c.size:=by omega
 simp_all[fR];simp_all[if_neg,hv];by_cases z:j<c.size;have:¬j<b.size*27:=by omega
 simp[fR,this]
 grind[Array.getElem?_eq_none,fR]
end
section
local instance:Abs.Dr:= ⟨false⟩
open Go.Abs (bS bA eU dW bq iT aX dJ)
theorem ad8:cK TP TP 30 km=true:=by kernel_rfl
theorem acL{ys:Array b2}(c:ys.size=30):ys= ⟨mF λ i=>ys.getD i df⟩:=by
 apply Array.ext;trivial;intro i h b;have g:∀j a,ys.getD j df=ys[j]:=λ j a=>by simp[a]
 iterate 30 (obtain _|i:=i;exact(g _ h).symm)
 omega
theorem GD{x:bA}{u}(h:u∈aX bq x):∃k m,u= .int k m:=by have⟨⟨⟨a,b,d,e,f,g⟩,i,j,l,n,o,p⟩,c,⟨⟨d1,d2,d3,d4,q,r⟩,s,t,v,w,y,z⟩,A,B⟩:=x;simp[aX,hS,qF]at h;grind
theorem XT[aW][Gl]{β k m y}(h:VR β (.int k m) y):y= .int k m:=by cases h;rfl
structure C7(w:dk)(v:b2)(L:List bA):Prop where
 b:(v= .slice none 0 0/\L= [])\/∃g cap c,v= .slice (some ⟨g,0,none⟩) L.length cap/\w.heap[g]?=some (.cells c 231 (0,0))/\L.length<=cap/\cap<=fu/\c.size=cap*27/\
  (∀j,j<L.length*27->c[j]?=(L.flatMap (aX bq))[j]?)/\∀j,L.length*27<=j->j<c.size->c[j]?=some (.int .i64 0)
 a:∀g m cap,v= .slice (some ⟨g,0,none⟩) m cap->0<L.length
structure abt(A:Ar)(L:List bA)(v:b2)(i:ai)(w0:dk)(p:ai)(g:ea)(w:dk):Prop where
 d:∃f,g=MG A f [.code (bX lP)]/\f 10=v
 c:∃h,L.Perm h/\mP h/\C7 w v h
 b:∀k,v.ownBlock=some k->p.a k/\p.b k
 e:∀a,i.a a->a<w0.heap.size->v.ownBlock≠some a->w.heap[a]?=w0.heap[a]?
theorem Uf{A:Ar}{f:Nat->b2}{p:ai}{w:dk}{L:List bA}{n base:Nat}(ba:w.ownsRow base 231 27 (f 10) n (L.flatMap (aX bq)))(aH:lh w (f 10) n)(bb:∀k,(f 10).ownBlock=some k->p.a k/\p.b k)
 (aA:TP.globals.size<=w.heap.size) (aE:L.length<4611686018427387904):bG TP true p (ME A f) w (abt A L (f 10) p w):=by
 letI bs:aW:=oT (λ _ _=>False) (λ _ _ _ h=>h.elim)
 have bk:∀y:bA,(aX bq y).length=27:=λ y=>Abs.mz bq rfl y;have⟨h0,a9⟩:=ba;rw[uE bk]at h0;have a8:n=L.length:=by omega
 subst a8
 let v:=f 10
 have R:(v= .slice none 0 0/\L= [])\/∃g cap c,v= .slice (some ⟨g,0,none⟩) L.length cap/\w.heap[g]?=some (.cells c 231 (0,0))/\L.length<=cap/\cap<=fu/\c.size=cap*27/\c.toList.take (L.length*27)=L.flatMap (aX bq)/\∀j,L.length*27<=j->j<c.size->c[j]?=some (.int .i64 0):=by
  rcases a9 with⟨q,s⟩| ⟨g,cap,c,q,s,B,Z,aa,ab,aU⟩
  exact .inl ⟨q,List.length_eq_zero_iff.1 s⟩;exact .inr ⟨g,cap,c,q,B,Z,aa,ab,aU,(aH g _ cap q).2 c 231 (0,0) B⟩
 have bj:∀{c:Array b2},c.toList.take (L.length*27)=L.flatMap (aX bq)->(∀j,L.length*27<=j->j<c.size->c[j]?=some (.int .i64 0))->∀y∈c,∃k m,y= .int k m:=λ{c}q s y C=>by
  obtain⟨j,H,rfl⟩:=pX.1 C;by_cases O:j<L.length*27
  have:c[j]∈L.flatMap (aX bq):=by
   rw[<-q];refine mn (i:=j) ?_;rw[hM,if_pos O,hy,ep H]
  have⟨x,_,al⟩:=rr.1 this;exact GD al;have:=s j (by omega) H;rw[ep H]at this;exact⟨_,_,Cv this⟩
 let ys:Array Value:= ⟨mF f⟩
 have bi:ys.size=30:=rfl
 let lt:Array Value:=ys.mapIdx λ i y=>if i=10 then v else shV y
 have O:lt.size=30:=by simp[lt,bi]
 have ao:lt[10]?=some v:=by
  show(ys.mapIdx _)[10]?=_;rw[kk];rfl
 let F:Frame:=(ME A f).frame
 let X:cS:= ⟨[.code (.refuse "x")],[.code (bX lP)],[],[],[gd],A.j⟩
 have aw:X.b:= ⟨rfl,rfl,rfl,λ id=>rfl,λ h=>by cases h⟩;have aY:∀β:ah,VR β v v->AV β lt ys:=λβ J=>by
  refine⟨by simp[lt],λ i u bK q s=>?_⟩;have q:(ys.mapIdx λ i y=>if i=10 then v else shV y)[i]?=some u:=q;rw[kk,s]at q;simp only[np,Option.some.injEq]at q;subst q;by_cases aD:i=10
  subst aD;rw[if_pos rfl];have:ys[10]?=some v:=rfl;rw[this]at s;cases s;exact J;rw[if_neg aD];exact vz _ _
 have aB:∀β:ah,VR β v v->GF CR β X.a X.d X.e X.f (F.at ⟨lt,[]⟩ (.code km::X.a)) F:=λβ J=>by
  refine⟨rfl,aY β J,⟨[.code km],[.code km],rfl,rfl,rfl,λ i u v aj R=>?_⟩,⟨[],[],rfl,rfl,trivial,λ x h=>by cases h⟩,trivial,rfl,trivial⟩;cases i with
  |zero=>
   simp at aj R;subst aj R;exact⟨rfl,(jG km).trans ad8⟩
  |succ i=>simp at aj
 have out:∀{D:ah}{a':fx}{fr2:gk},GF CR D X.a X.d X.e X.f (F.at a' X.a) fr2->a'.tmps=(lt.setIfInBounds 27 v).setIfInBounds 28 (.tuple #[])->a'.defers= []->
  (∀y,VR D v y->y=v)->∃f',G0 fr2 X.g=MG A f' [.code (bX lP)]/\f' 10=v:=λ{D a' fr2}G aJ a1 bh=>by
  have hT:AV D a'.tmps fr2.tmps:=G.b;have aS:a'.tmps[10]?=some v:=by rw[aJ,l1 (by decide),l1 (by decide)];exact ao
  have be:fr2.tmps.size=30:=by rw[<-hT.1,aJ];simp[O]
  have S:=G.g;have⟨d,ar,Q,az,a2,_⟩:=G.a;have Q:a'.defers=d++ []:=Q;rw[nv,a1]at Q;subst Q;have:ar= []:=by cases ar with|nil=>rfl|cons _ _=>exact a2.elim
  subst this;refine⟨λ i=>fr2.tmps.getD i df,?_,?_⟩
  have aF:=acL be;have k1:=G.h;have M:=G.f;have am:=G.e;have an:=G.c;have⟨fn,bo,bp,bt,aM,kind,ap⟩:=fr2;have k1:147=fn:=k1;have M:MR .run aM:=M;have S:TL CR D X.a X.d X.a bp:=S;have⟨l,m,bl,bm,bn,_⟩:=S;have:l= []:=pv.1 bl.symm;subst this;have:m= []:=pk bn.symm;subst this;obtain rfl:aM= .run:=MR.c M rfl;have bd:ap=none:=by cases ap with|none=>rfl|some _=>exact an.elim
  simp only at aF az;subst k1 am bd;rw[bm,az];show Goroutine.mk (Frame.mk 147 bo _ _ _ _ _) _ _ _ _=Goroutine.mk (Frame.mk 147 _ _ _ _ _ _) _ _ _ _;rw[<-aF];rfl;rcases hT.d 10 with⟨q,_⟩| ⟨v1,y,q,s,B⟩
  grind
  rw[aS]at q;cases q;simp[s,bh y B]
 rcases R with⟨P,av⟩| ⟨g,cap,c,I,ay,bF,a7,bH,aK,bg⟩
 have ac:wo (λ _=>none) p w:= ⟨λ r cs aT h=>(by cases h),λ r cs aT h=>(by cases h),aA⟩;have J:∀β:ah,VR β v v:=λβ=>by rw[P];exact .dz (a:=none) (a':=none) trivial 0 0
 have ak:∀T,km.wp CR.Q (λ e a' w'=>e= .normal/\(a'.tmps=(lt.setIfInBounds 27 v).setIfInBounds 28 (.tuple #[])/\a'.defers= [])) ⟨lt,[]⟩ ((jD w λ _=>none).tp T 0):=λ T=>
  wp_mono (Q7 DN (a:= ⟨lt,[]⟩) ao O (.inl ⟨P,av⟩) aE) λ e a' w'⟨q,s,B,_⟩=> ⟨q,s,B⟩
 refine(HD Gx aw (why:= "x") rfl (b:=F) (fr':=F) rfl ac (aB _ (J _)) ak true).c ?_;rintro p' g w2⟨D,v2,a',fr2,h⟩;have⟨T,aQ,ae,af⟩:=h.d;have⟨f',W,Y⟩:=out h.c ae af λ y C=>by
  rw[P]at C⊢;have⟨N,e,h0⟩:=CI C;cases N with
  |none=>exact e
  |some _=>exact h0.elim
 refine⟨⟨f',h.j.trans W,Y⟩,⟨[],by rw[av],.nil,⟨.inl ⟨P,rfl⟩,λ g m cap e=>by grind⟩⟩,λ k E=>?_,λ a q s B=>h.i a q s λ⟨cs,aG⟩=>by grind⟩;have E:v.ownBlock=some k:=E;rw[P]at E;cases E;have ag:=bb g (by show v.ownBlock=_;rw[I];rfl);have bf:∀β:ah,AV β c c:=λβ=>AV.i λ y C=>by
  obtain⟨k,m,rfl⟩:=bj aK bg y C;exact .cx k m
 have aC:jI (fg w [] g c) g g:= ⟨rfl,by rw[BK];rfl⟩;have J:VR (jI (fg w [] g c)) v v:=by rw[I];exact .dz (a:=some _) (a':=some _) ⟨aC,rfl,rfl⟩ _ _
 have a5:(jD w (fg w [] g c)).heap[g]?=some (.cells c 231 (0,0)):=SY ay
 let Post:fx->dk->Prop:=λ a' w'=>a'.tmps=(lt.setIfInBounds 27 v).setIfInBounds 28 (.tuple #[])/\a'.defers= []/\∃z,L.Perm z/\mP z/\∃t,w'.heap[g]?=some (.cells t 231 (0,0))/\t.size=c.size/\t.toList.take (L.length*27)=z.flatMap (aX bq)/\∀j,L.length*27<=j->t[j]?=c[j]?
 have ak:∀T,km.wp CR.Q (λ e a' w'=>e= .normal/\Post a' w') ⟨lt,[]⟩ ((jD w (fg w [] g c)).tp T 0):=λ T=>
  wp_mono (Q7 DN (a:= ⟨lt,[]⟩) ao O (.inr ⟨g,cap,c,231,I,a5,by omega,aK⟩) aE) λ e a' w'⟨q,s,B,z,Z,aa,ab⟩=>by
   refine⟨q,s,B,_,Z,aa,?_⟩;rcases ab with⟨V,_⟩| ⟨g',br,aR,t,ty,V,au,bv,bw,bx,bz⟩
   grind
   rw[I]at V;cases V;have au:(jD w (fg w [] g c)).heap[g]?=some (.cells aR ty (0,0)):=au;simp_all
 refine(HD Gx aw (why:= "x") rfl (b:=F) (fr':=F) rfl (NI (λ r bc=>by grind) ag aA ⟨c,231,(0,0),ay,λβ _=>bf β⟩) (aB _ J) ak true).c ?_;rintro p' bB w2⟨D,v2,a',fr2,h⟩;have⟨T,aQ,ae,af,z,K,aV,t,ad,bC,bD,bE⟩:=h.d;have aq:D g g:=h.l g g aC;have⟨f',W,Y⟩:=out h.c ae af λ y C=>by
  rw[I]at C⊢;have⟨N,e,h0⟩:=CI C;cases N with
  |none=>exact h0.elim
  |some N=>
   have⟨blk,off,bJ⟩:=N;obtain⟨aN,aO,aP⟩:=h0;simp only at aN aO aP;subst aO aP;rw[e,D.f g _ _ aN aq]
 have a3:jq (fg w [] g c) w.heap.size g=false:=by simp_all[jq,BK]
 obtain⟨o,bI,k1,S,M⟩:=h.e.b g g aq;have ad:v2.heap[g]?=some (.cells t 231 (0,0)):=ad;rw[ad]at k1;cases k1;rw[a3]at M;have aI:∀j,z.length*27<=j->j<t.size->t[j]?=some (.int .i64 0):=λ j q s=>by
  rw[<-K.length_eq]at q
  grind
 have aL:t.toList.take (z.length*27)=z.flatMap (aX bq):=by rw[<-K.length_eq];omega
 have a4:∀y∈t,∃k m,y= .int k m:=λ y C=>by
  obtain⟨j,H,rfl⟩:=pX.1 C;by_cases a6:j<z.length*27;have:t[j]∈z.flatMap (aX bq):=by
   rw[<-aL];refine mn (i:=j) ?_;rw[hM,if_pos a6,hy,ep _]
  obtain⟨x,_,al⟩:=rr.1 this;exact GD al;have:=aI j (by omega) H
  grind
 cases M with
 |jM _ _ ax=>
  rename_i U;have aZ:U=t:=by
   apply Array.ext;exact ax.1.symm;intro i q s;obtain⟨k,m,e⟩:=a4 t[i] (Array.getElem_mem s);have:=ax.2 i t[i] U[i] (ep s) (ep q)
   grind[XT]
  subst aZ;refine⟨⟨f',h.j.trans W,Y⟩,⟨z,K,aV,⟨.inr ⟨g,cap,U,?_,?_,?_,a7,by omega,λ j H=>?_,aI⟩,λ g m cap e=>by rw[<-K.length_eq];exact(aH g m _ e).1⟩⟩,λ k E=>?_,λ a q s B=>h.i a q s λ⟨cs,aG⟩=>?_⟩;rw[<-K.length_eq];omega;omega;rw[<-K.length_eq];omega;rw[<-aL,hM,if_pos H,hy];have E:v.ownBlock=some k:=E;rw[I]at E;cases E;exact⟨(h.f g).2 (.inl ag.1),(h.k g).2 (.inl ag.2)⟩;rcases AH aG with⟨e,_⟩| ⟨_,bc,_⟩;apply B;show v.ownBlock=_;rw[I,e];rfl
  grind
end
def HJ(A:Ar)(f:Nat->b2):=dR TP true 6 (MG A f [.code (bX lP)])
theorem ahb(A)(f)(w):jo TP true 6 (MG A f [.code (bX lP)]) w=jl TP true 6 (MG A f [.code (bX lP)]) w:=by kernel_rfl
theorem Xo(A)(f):gJ TP true 6 (MG A f [.code (bX lP)])=true:=by kernel_rfl
theorem abn(A)(f):qD TP true 6 (MG A f [.code (bX lP)])=true:=by kernel_rfl
theorem agy(A)(f):(HJ A f).status= .running:=by kernel_rfl
theorem ad4(h g d a b e j i)(m k l)(c)(cs)(f)(w):stepG TP true (HJ ⟨h,g,d,a,b,e,j,i,m,k,l,c::cs⟩ f) w= .go (G0 (c.finish (f 10)) cs) w #[]:=by kernel_rfl
theorem adU{A f p w c cs Stop}(a:A.j=c::cs)(h:∀w1,bO p w w1->Stop p (G0 (c.finish (f 10)) cs) w1):bG TP true p (MG A f [.code (bX lP)]) w Stop:=by refine zU (g':=HJ A f) (ahb A f) (Xo A f) (abn A f) rfl ?_;refine GN (g':=G0 (c.finish (f 10)) cs) (agy A f) (λ w=>?_) (nQ rfl h);have⟨j,i,e,b,d,g,l,k,o,m,n,cs'⟩:=A;have a:cs'=c::cs:=a;subst a;exact ad4 j i e b d g l k o m n c cs f w
section
local instance:Abs.Dr:= ⟨false⟩
open Go.Abs (bS bA eU dW bq iT aX dJ)
variable{pl:eU}{ly:List bS}{S:bS->List bA}
theorem QF{x y}(h:eP x=eP y):x=y:=by have⟨⟨a,b,c,d,e,f⟩,g,i,j,k,l,m⟩:=x;simp_all[eP,aX]
open Classical in
def pJ(S:bS->List bA)(x:b2):=if h:∃a,x=eP a then(S h.choose).flatMap (aX bq)else[]
theorem H8(S)(nd):pJ S (eP nd)=(S nd).flatMap (aX bq):=by have h:∃a,eP nd=eP a:= ⟨nd,rfl⟩;grind[pJ,QF]
theorem HG(S):∀l:List bS,(l.map eP).flatMap (pJ S)=(l.flatMap S).flatMap (aX bq)| []=>rfl|a::l=>by simp[List.map_cons,q4,H8,HG S l,List.flatMap_append]
theorem Uc:∀{l:List bS}{m:List b2},(l.map eP).Perm m->∃l',m=l'.map eP/\l.Perm l':=by
 intro l m h;have c:∀x∈m,∃b,x=eP b:=λ x j=>by grind
 have:∃l':List bS,m=l'.map eP:=by
  clear h
  induction m with|nil=>simp|cons x m f=>obtain⟨b,rfl⟩:=c x (by simp);obtain⟨l',rfl⟩:=f λ y e=>c y (p5 _ e);exact⟨b::l',rfl⟩
 obtain⟨l',rfl⟩:=this;refine⟨_,rfl,?_⟩
 classical
 let dec:b2->bS:=λ x=>if h:∃b,x=eP b then h.choose else default;have d:∀b,dec (eP b)=b:=λ b=>by have h:∃g,eP b=eP g:= ⟨b,rfl⟩;grind[QF]
 have i:∀a:List bS,(a.map eP).map dec=a:=λ a=>by
  rw[List.map_map];conv=>rhs;rw[<-List.map_id a]
  exact List.map_congr_left λ x _=>d x
 grind
structure Ie(A:Ar)(rd:Nat->Prop)(w:dk)(pl:eU)(ly:List bS)(num:Int)(S:bS->List bA)(n:Nat)(vv vh:b2):Prop where
 b:Nr w.heap rd A.g pl vv vh
 c:mH w.heap rd A.k dW ly
 g:A.h= .int .i64 num
 f:∀e∈ly,Abs.N.xD n pl num e=some (S e)
 d:ly.length<2^62
 a:(ly.flatMap S).length*216<=140737488355328
theorem VZ{A A' ps p w w1 num n vv vh C E}(h:Ie A ps.a w pl ly num S n vv vh)(I:A.k= .slice C ly.length E) (Q:∀b,ps.a b->b<w.heap.size) (ae:TP.globals.size<=w.heap.size) (e1:A'.g=A.g) (e2:A'.k=A.k) (e3:A'.h=A.h) (q:uo A' w.heap.size w ps p w1) (F:∀b,p.a b->b<w1.heap.size):uT (sq A' (ly.map eP) (pJ S) p w1)/\ra (sq A' (ly.map eP) (pJ S) p w1) C ly.length E:=by
 have Z:∀y,(aX bq y).length=27:=λ y=>Abs.mz bq rfl y;have sl:∀b cs T fr,ps.a b->w.heap[b]?=some (.cells cs T fr)->p.a b/\w1.heap[b]?=some (.cells cs T fr):=λ b cs T fr t e=> ⟨(λ a O=>(q.b a).2 (.inl O)) b t,(q.g b (Q b t)).trans e⟩;have z:=h.b;let D:=sq A' (ly.map eP) (pJ S) p w1;have N:MF D pl num S n vv vh:={
  d:=F
  c:=by show _<=A'.f;rw[q.c.1];omega
  i:= ⟨(q.b _).2 (.inr (.inl rfl)),_,_,q.q⟩
  h:= ⟨(q.b _).2 (.inr (.inr (.inr (.inl rfl)))),_,_,q.t⟩
  g:=e3.trans h.g
  b:= ⟨z.e.imp λ _ e=>e1.trans e,z.g.map sl,z.h.map sl⟩
  e:=λ x r=>by
   obtain⟨s,hnd,rfl⟩:=hY.1 r;exact⟨_,rfl,h.f _ hnd,H8 S _⟩}
 have G:D.iO:={
  k:=F
  m:=λ x r=>by
   obtain⟨s,_,rfl⟩:=hY.1 r;exact⟨_,rfl,rfl,λ u B=>Abs.AW _ _ u (by omega)⟩
  l:= ⟨(q.b _).2 (.inr (.inr (.inr (.inr (.inl rfl))))),_,_,_,q.k,rfl⟩
  j:= ⟨(q.b _).2 (.inr (.inr (.inr (.inr (.inr rfl))))),_,_,_,q.s,rfl⟩
  e:=λ x r f ab b c p w R X U P V W Y t H=>acv N r f ab b c p w R X U P V W Y t H}
 refine⟨⟨G,?_,λ x r u B=>?_⟩,G,⟨(q.b _).2 (.inr (.inr (.inl rfl))),_,_,_,q.l,?_⟩,?_,h.d,?_⟩
 show((ly.map _).flatMap (pJ S)).length*8<=_;rw[HG,uE Z];have:=h.a;omega;obtain⟨s,_,rfl⟩:=hY.1 r;have B:u∈pJ S (eP s):=B
 grind[H8,Abs.AW]
 rw[e2,I];rfl;show(ly.map _).length=_;simp;have⟨_,_,e,ac,g⟩:=h.c.map sl;rw[I]at e;cases e;obtain g| ⟨b,o,rfl,k1,cs,T,fr,J,ad,_,K⟩:=g;omega;refine .inr ⟨b,o,cs,T,fr,rfl,k1,J,λ k c v j af=>?_⟩;have v:(ly.map eP)[k]?=some (.agg c):=v;rw[List.getElem?_map]at v;have⟨s,L,M⟩:=Option.map_eq_some_iff.1 v;have H:c=(aX dW s).toArray:=by
  have:Value.agg (aX dW s).toArray= .agg c:=M
  grind
 have:=Kd (K k s L) (j:=j) (by trivial)
 grind[Abs.Ty.a]
theorem abN{A S0}{ps:ai}{z:Array ea}{w:dk}{t:Trace}{q:Nat->Nat}(sl:Option (Nat×Nat)){num:Int}{n:Nat}{vv vh:b2}{c:gk}{cs:List gk}
 (h:Ie A ps.a w pl ly num S n vv vh) (ak:A.j=c::cs) (I:TP.globals.size<=w.heap.size)
 (h0:z[0]?=some (PE A)) (ag:Leavers TP t z q) (ah:Past (eG S0) w.heap.size t) (aj:∀b,S0 b->b<w.heap.size/\¬ps.a b) (J:∀b,ps.a b->b<w.heap.size) (au:∀b,ps.b b->ps.a b):
 ∃(N:Nat)(B:Array ea)(w':dk)(ay:Option (Nat×Nat))(t':Trace)(q':Nat->Nat)(u:Nat->Prop)(v:b2)(L:List bA),
  runNT TP N (crowd z w sl) t=(.next (crowd B w' ay),t')/\B[0]?=some (G0 (c.finish v) cs)/\Leavers TP t' B q'/\Past (eG u) w'.heap.size t'/\(∀b,u b->b<w'.heap.size/\(S0 b\/(w.heap.size<=b/\v.ownBlock≠some b)))/\
   (∀b,S0 b->u b)/\mq w w'/\(ly.flatMap S).Perm L/\mP L/\C7 w' v L/\∀k,v.ownBlock=some k->w.heap.size<=k:=by
 have⟨V,Z,al,_,_⟩:=h.c;have⟨N,ad,w1,az,aB,aw,av,l,g,A',aR,w0,aa,aG,aH,aJ,U,aq,E⟩:=afP sl (xs:=ly.map eP) (fnd:=pJ S) (a:=V) (n:=ly.length) (c:=Z) h0 ag ah aj J au λ A' p w1 W X Y aK hp af=>VZ h al J I W X Y hp af;obtain⟨f,rfl,D⟩:=E.i;have⟨m,K,ar⟩:=D.d;obtain⟨s,rfl,an⟩:=Uc E.f;have K:w1.ownsRow A'.d 231 27 (f 10) m ((s.flatMap S).flatMap (aX bq)):=by
  grind[sq,HG]
 have G:(ly.flatMap S).Perm (s.flatMap S):=an.flatMap_right S;have am:(s.flatMap S).length<4611686018427387904:=by
  rw[<-G.length_eq];have:=h.a;omega
 have j:=(Uf K ar D.b (gb I E.c.b) am).d (Stop':=λ p g w=>∃L,(s.flatMap S).Perm L/\mP L/\C7 w (f 10) L/\g=G0 (c.finish (f 10)) cs/\(∀k,(f 10).ownBlock=some k->p.a k)) λ p g w o=>by
  obtain⟨f',rfl,aQ⟩:=o.d;obtain⟨O,x,y,i⟩:=o.c;refine adU (A:=A') (c:=c) (cs:=cs) (U.trans ak) λ w1 F=> ⟨O,x,y,?_,by grind,λ k C=>(o.b k C).1⟩;obtain ao| ⟨aP,cap,aM,M,aD,aE⟩:=i.b
  exact⟨.inl ao,i.a⟩;exact⟨.inr ⟨_,_,_,M,(F.e _ (o.b _ (by rw[M];rfl)).1).trans aD,aE⟩,i.a⟩
 have⟨_,r,j⟩:=j;obtain⟨Q,ae,aI,w2,aA,aC,ax,p2,ab,aN,ac,⟨L,x,y,i,rfl,aO⟩,P,R,_,aS,T,aF,e⟩:=
  Kh (B0:=w1.heap.size) (S:=λ b=>S0 b\/b=A'.a) r _ av ad _ w1 az aB aw (ei _) E.o E.m E.d (gI.c E.d.seen _) (λ b d=> ⟨E.h b d,λ F=>(E.e b F).2 d⟩) (λ b d=>(E.e b d).1) j
 haveI:aW:= ⟨0,λ _=>true,λ _ _=>False,λ _ _ _ h=>h.elim⟩
 refine⟨N+Q,ae,w2,aA,aC,ax,λ b=>S0 b\/b=A'.a,f 10,L,zA aa ab,ac,P,R,λ b d=> ⟨(T b d).1,?_⟩,λ b d=> .inl d,?_,G.trans x,y,i,λ k C=>?_⟩
 obtain d|d:=d
 grind
 refine .inr ⟨by rw[d,aq.c.2.2.2];omega,by grind⟩;refine⟨gb E.c.b e.d,λ a H=>?_,e.i.trans E.c.f,e.f.trans E.c.c,e.g.trans E.c.e⟩;rw[e.h a (Nat.lt_of_lt_of_le H E.c.b) λ j=>by have:=E.j a j;omega,E.c.d a H];exact E.j k (D.b k C).2
end
section
variable{fn:Func}{f i:Nat}{nm:Nat->Value->Prop}
def oo(d:Nat)(o:Op)(t:=0):Oper:= ⟨some d,o,t,"x",#[],none⟩
def rg(b:Nat)(l:List j1):Code:= .region b ⟨l⟩ false
def n9(s:Nat)(k:Int):Op:= .binOp .lss 3 (.tmp s) (.const (.int .i64 k)) 3
def lst(s t:Nat):Op:= .binOp .lss 3 (.tmp s) (.tmp t) 3
def ixk(T s k:Nat):Op:= .index T (.tmp s) (.const (.int .i64 k))
def K6(v:b2):Op:= .move (.const v)
def ak2(d:Nat)(k:Int):Op:= .binOp .add 3 (.tmp d) (.const (.int .i64 k)) 3
def inc(d:Nat):=ak2 d 1
def lnn(T s:Nat):Op:= .call {callee:= .builtin .len,args:= #[.tmp s],argTypes:= #[T]}
def cpp(T s:Nat):Op:= .call {callee:= .builtin .cap,args:= #[.tmp s],argTypes:= #[T]}
def slc(T s t:Nat):Op:= .slice T (.tmp s) none (some (.tmp t)) none
def xI(c:Nat):Code:= .cond (.tmp c) .skip (.refuse "x")
def akS(c:Nat):Code:= .cond (.tmp c) (.refuse "x") .skip
def ae4(b s n T e:Nat)(l:List j1):Code:= .seq (rg b [oo 43 (K6 (.int .i64 0))]) (.block b (.loop (.seq (rg (b+1) [oo 44 (lst 43 n)]) (.seq (.cond (.tmp 44) .skip (.exit b)) (.seq (rg (b+2) (oo 45 (.indexAddr T (.tmp s) (.tmp 43))::oo 46 (.load e (.tmp 45))::l++[oo 43 (inc 43)])) (xI 52))))))
def aaE(b T e s:Nat):Code:= .seq (rg b [oo 59 (cpp T s) 3,oo 60 (slc T s 59) T,oo 61 (n9 59 1),oo 62 (n9 59 9223372036854775808)]) (.seq (xI 62) (.cond (.tmp 61) .skip (rg (b+1) [oo 63 (K6 (.int .i64 0)),oo 61 (.indexAddr T (.tmp 60) (.tmp 63)),oo 62 (.load e (.tmp 61)),oo 59 (ak2 59 (-1)),oo 61 (.indexAddr T (.tmp 60) (.tmp 59)),oo 62 (.load e (.tmp 61))])))
def alV:= [oo 30 (.field 138 (.tmp 0) 0),oo 31 (.field 25 (.tmp 30) 0),oo 32 (.field 25 (.tmp 30) 1)]
def amc:Code:= .seq (rg 190 alV) (.seq (aaE 192 22 136 31) (.seq (aaE 194 23 168 32) (aaE 196 191 149 1)))
def hdL:=alV++ [oo 33 (lnn 22 31) 3,oo 34 (lnn 23 32) 3,oo 35 (lnn 191 1) 3,oo 36 (n9 2 0),oo 37 (n9 33 7),oo 38 (n9 33 1),oo 39 (n9 34 1000000),oo 41 (n9 35 1000000),oo 42 (n9 35 1),oo 56 (slc 22 31 33) 22,oo 57 (slc 23 32 34) 23,oo 58 (slc 191 1 35) 191]
def Si:Code:= .seq (rg 200 hdL) (.seq (xI 37) (.seq (akS 38) (.seq (xI 39) (.seq (xI 41) (akS 42)))))
def ck6(s:Nat):= [0,1,2,3,4,5].flatMap λ k=>[oo 62 (ixk 147 s k),oo 63 (n9 62 0)]
def amu:=oo 52 (K6 (.bool true))
def XF:=ae4 210 31 33 22 136 [oo 62 (.field 136 (.tmp 46) 0),oo 63 (.binOp .eql 9 (.tmp 62) (.const (.string ⟨⟨[]⟩⟩)) 9),oo 62 (.field 136 (.tmp 46) 1),oo 63 (n9 62 0),amu]
def lnH:=ae4 220 32 34 23 168 [oo 48 (ixk 168 46 0),oo 63 (n9 48 0),oo 49 (ixk 168 46 1),oo 63 (n9 49 0),oo 52 (.binOp .neq 3 (.tmp 48) (.tmp 49) 3)]
def lnL:=ae4 230 1 35 191 149 (oo 53 (.field 149 (.tmp 46) 0)::oo 54 (.field 149 (.tmp 46) 1)::ck6 53++ck6 54++[amu])
def Pd:=rg 239 [oo 59 (.alloc 138),⟨none,.store 138 (.tmp 59) (.tmp 0),0,"x",#[],none⟩]
def XH:=rg 240 [oo 40 (.move (.tmp 2)),oo 2 (.box 138 (.tmp 0)),oo 3 (.box 3 (.tmp 40)),oo 6 (.alloc 228)]
def Zh:Code:= .seq (rg 241 [oo 55 (K6 (.int .i64 0))]) (.block 241 (.loop (.seq (rg 242 [oo 44 (lst 55 35)]) (.seq (.cond (.tmp 44) .skip (.exit 241)) (.seq (rg 243 [oo 45 (.indexAddr 191 (.tmp 1) (.tmp 55)),oo 46 (.load 149 (.tmp 45)),oo 5 (.alloc 149),⟨none,.store 149 (.tmp 5) (.tmp 46),0,"x",#[],none⟩]) (.seq w5 (rg 244 [oo 55 (inc 55)])))))))
def ahV:=rg 245 [oo 48 (.load 228 (.tmp 6)) 228]
def jr:Code:= .seq Si (.seq XF (.seq lnH (.seq lnL (.seq Pd (.seq XH (.seq Zh ahV))))))
def Av:=rg 246 [oo 49 (.call {callee:= .value (.func 166),args:= #[.tmp 48,.func 167],argTypes:= #[228,257]})]
def rK:=rg 247 [oo 50 (K6 (.slice none 0 0)) 228,oo 51 (.call {callee:= .builtin .append,args:= #[.tmp 50,.tmp 48],argTypes:= #[228,228]}) 228]
def qC:Code:= .seq amc (.seq jr (.seq Av (.seq rK .ret)))
def kh:Func:={name:= "x",origin:= "",params:= #[138,191,3],resultTypes:= #[228],nfree:=0,ntmps:=64,results:= #[.tmp 51],body:=some qC,norace:=false,tmpNames:= #[]}
instance pQ:Gl:= ⟨λ g=>Nat.blt g TP.globals.size⟩
theorem abT:∀g,I9.a g=true->pQ.a g=true:=λ g h=>by cases h
def tK:=TP.funcs.map λ fn=>if kx pQ fn=true then fn else uK
def jS:=tK.setIfInBounds 147 kh
theorem YR:tK.size=TP.funcs.size:=by simp[tK]
theorem XO:Nat.ble 148 TP.funcs.size=true:=by kernel_rfl
theorem UW:147<TP.funcs.size:=pS XO
theorem qa:jS[147]?=some kh:=by grind[jS,YR,UW]
theorem ze(h:f≠147):jS[f]?=tK[f]?:=by grind[jS]
theorem Jt(h:TP.funcs[i]?=some fn)(b:kx pQ fn=true)(a:i≠147):jS[i]?=some fn:=by grind[ze,tK]
def FM:FS:= ⟨jS,λ i fn h b a=>Jt h (ag8 abT b) a⟩
theorem iC(h:TP.funcs[i]?=some fn)(b:kx pQ fn=true)(a:i≠147):FM.Q.funcs[i]?=some fn:=Jt h b a
theorem iCk{g}(h:TP.funcs[i]?=some fn)(b:kx pQ fn=true:=by kernel_rfl)(a:i≠147:=by decide)(c:fn=g:=by kernel_rfl):FM.Q.funcs[i]?=some g:=c▸Jt h b a
def CM:dC:= ⟨TP,jS,λ f=>eb f 147,30⟩
theorem aiV:TP.funcs[147]?=some Tryz.f147:=rfl
theorem Cz{a}(h:tK[f]?=some a):a=uK\/(TP.funcs[f]?=some a/\kx pQ a=true):=by grind[tK]
theorem LU(b:kx pQ fn=true){c}(a:fn.body=some c):cK TP TP 30 c=true:=by grind[kx]
theorem ab4[aW]:sO TP jS λ f=>eb f 147:=by intro f e h;by_cases b:f=147;subst b;rw[qa]at h;cases h;exact⟨by decide,.inr ⟨rfl,Tryz.f147,aiV,by kernel_rfl,by kernel_rfl,.inl (by decide)⟩⟩;have a:=h;rw[ze b]at a;rcases Cz a with rfl| ⟨c,d⟩;exact⟨rfl,.inl ⟨rfl,.inl λ args v=>Ha h args v⟩⟩;exact Ns (nx:=λ f=>eb f _) d h c
theorem Ko:cK TP TP 30 qC=true:=by kernel_rfl
theorem P4{h}: @dC.a (oT nm h) Bf pQ CM:=by
 letI:=oT nm h;refine⟨Fl,rfl,ab4,λ c=>(jG c).symm,λ f fn c d j i=>?_⟩;show cK (lp TP jS) TP 30 c=true;rw[jG];have d:jS[f]?=some fn:=d;have g:f≠147:=λ e=>by subst e;trivial
 rw[ze g]at d;rcases Cz d with rfl| ⟨_,k⟩;trivial;grind[LU]
def CQ:dC:= ⟨CM.Q,jS,λ _=>false,30⟩
theorem OM{nm h}: @dC.a (oT nm h) Bf pQ CQ:=by
 letI:=oT nm h;have all:∀{f:Nat}{fn:ht}{c:Code},jS[f]?=some fn->fn.body=some c->cK TP TP 30 c=true:=λ{f fn c}d e=>by by_cases k:f=147;subst k;rw[qa]at d;cases d;have e:some qC=some c:=e;grind[Ko];rw[ze k]at d;rcases Cz d with rfl| ⟨_,g⟩;trivial;grind[LU]
 refine⟨λ t i z m o=>Fl t i z m o,rfl,λ f l d=>?_,λ c=>?_,λ f fn c d _ e=>?_⟩;have d:jS[f]?=some l:=d;have j:=d;by_cases k:f=147;subst k;rw[qa]at d;cases d;exact⟨rfl,.inr ⟨rfl,_,j,rfl,rfl,.inr rfl⟩⟩;rw[ze k]at d;rcases Cz d with rfl| ⟨m,g⟩;exact⟨IP,.inl ⟨rfl,.inl λ args v=>Ha j args v⟩⟩;unfold kx at g;split at g;rename_i c e;simp only[eg,Bool.not_eq_true']at g;exact⟨g.2,.inr ⟨by rw[e];rfl,_,j,g.2,by grind,.inr rfl⟩⟩;rename_i e;have n:l.body.isNone=true:=by grind
 have:=R7 (P:=CM.Q) (fs:=jS) rfl j j n g;exact⟨this.1,.inl ⟨n,.inr this.2⟩⟩;exact((jG c).trans (oY c)).symm;exact(jG c).trans ((oY c).trans (all d e))
end
end Go.Rs
namespace Go.Abs.N
open Go.Abs
section
local instance:Dr:= ⟨false⟩
abbrev Lp1(D A R:Type):=D->(D->Option R)->(A->Option R)×Unit->Option R
variable(X:Go.Rs.FS)(n:Nat)
abbrev X0:Ty:=.ay .i64
abbrev X1:Ty:=.aF X0 X0
abbrev X2:=Int×Int×Int×Int×Int×Int
abbrev X3:=X2×Int×Int×Int×Int×Int×Int
abbrev X4:Ty:=.aF X0 X1
abbrev X5:Ty:=.aF X0 X4
abbrev X6:Ty:=.aF X0 X5
abbrev X7:Ty:=.aF X0 X6
abbrev X8:Ty:=.aF X7 X7
abbrev X9:=X3×Int×X3×Int×Int
abbrev Zp:Ty:=.aF X8 X1
abbrev X11:Ty:=.aF X0 Zp
abbrev E0:Ty:=.aF X8 X11
abbrev fo:Ty:=.aH E0
abbrev Vg:Ty:=.aF .aJ X0
abbrev Ex:=Int×Int
abbrev oP:Ty:=.aH X1
abbrev tJ:Ty:=.aH Vg
abbrev lZ:Ty:=.aF tJ oP
abbrev UD:=List UInt8
abbrev Ut:=UD×Int
abbrev oN:=List Ex
abbrev j9:Ty:=.aH X8
abbrev iW:=List X9
abbrev rW:=List Ut
abbrev qs:=rW×oN
abbrev mu:=List X3
def zE(n:Nat):Lp1 (qs×mu×Int×rW×oN×Int×Int×Int×Int×Unit) (qs×mu×Int×oN×Int×Int×Unit) iW:=λ(b,c,d,f,g,h,i,j,a,_) again (k0,_)=>bif decide (a<h)then(aG f a).bind λ e=>again (b,c,d,f,g,h,i,j,(cr .i64 (a+1)),())else k0 (b,c,d,g,i,j,())
def AK(n:Nat):Lp1 (qs×mu×Int×oN×Int×Int×Int×Unit) (qs×mu×Int×Int×Unit) iW:=λ(b,c,d,f,g,h,a,_) again (k0,_)=>bif decide (a<g)then(aG f a).bind λ e=>(aG [e.1,e.2] 0).bind λ x=>(aG [e.1,e.2] 1).bind λ i=>bif x !=i then again (b,c,d,f,g,h,(cr .i64 (a+1)),())else none else k0 (b,c,d,h,())
def B5(n:Nat):Lp1 (qs×mu×Int×Int×Int×Unit) (qs×mu×Int×Int×Unit) iW:=λ(d,a,f,b,c,_) again (k0,_)=>bif decide (c<b)then(aG a c).bind λ e=>(aG [e.1.1,e.1.2.1,e.1.2.2.1,e.1.2.2.2.1,e.1.2.2.2.2.1,e.1.2.2.2.2.2] 0).bind λ x=>(aG [e.1.1,e.1.2.1,e.1.2.2.1,e.1.2.2.2.1,e.1.2.2.2.2.1,e.1.2.2.2.2.2] 1).bind λ g=>(aG [e.1.1,e.1.2.1,e.1.2.2.1,e.1.2.2.2.1,e.1.2.2.2.2.1,e.1.2.2.2.2.2] 2).bind λ j=>(aG [e.1.1,e.1.2.1,e.1.2.2.1,e.1.2.2.2.1,e.1.2.2.2.2.1,e.1.2.2.2.2.2] 3).bind λ k=>(aG [e.1.1,e.1.2.1,e.1.2.2.1,e.1.2.2.2.1,e.1.2.2.2.2.1,e.1.2.2.2.2.2] 4).bind λ l=>(aG [e.1.1,e.1.2.1,e.1.2.2.1,e.1.2.2.2.1,e.1.2.2.2.2.1,e.1.2.2.2.2.2] 5).bind λ m=>(aG [e.2.1,e.2.2.1,e.2.2.2.1,e.2.2.2.2.1,e.2.2.2.2.2.1,e.2.2.2.2.2.2] 0).bind λ o=>(aG [e.2.1,e.2.2.1,e.2.2.2.1,e.2.2.2.2.1,e.2.2.2.2.2.1,e.2.2.2.2.2.2] 1).bind λ p=>(aG [e.2.1,e.2.2.1,e.2.2.2.1,e.2.2.2.2.1,e.2.2.2.2.2.1,e.2.2.2.2.2.2] 2).bind λ q=>(aG [e.2.1,e.2.2.1,e.2.2.2.1,e.2.2.2.2.1,e.2.2.2.2.2.1,e.2.2.2.2.2.2] 3).bind λ r=>(aG [e.2.1,e.2.2.1,e.2.2.2.1,e.2.2.2.2.1,e.2.2.2.2.2.1,e.2.2.2.2.2.2] 4).bind λ h=>(aG [e.2.1,e.2.2.1,e.2.2.2.1,e.2.2.2.2.1,e.2.2.2.2.2.1,e.2.2.2.2.2.2] 5).bind λ i=>again (d,a,f,b,(cr .i64 (c+1)),())else k0 (d,a,f,b,())
def ua(n:Nat)(d:mu×(List (Ex×X3))×Int×Int×rW×oN×Int×Int×Int×Int×Int×Int×Int×Int×Int×Int×Int×Int×Int×iW×Unit)(y:Ex×X2×Int×Int×Int×Int×Int×Int)(again:(mu×(List (Ex×X3))×Int×Int×rW×oN×Int×Int×Int×Int×Int×Int×Int×Int×Int×Int×Int×Int×Int×iW×Unit)->Option iW)(ks:Unit):=match d,ks with| (q,r,v,w,s,t,a,b,c,g,h,i,j,k,l,m,o,e,f,p,_),(_)=>(jk (ee p+ee ([(y.2,a,((b,c,g,h,i,j),k,l,m,o,e,f),y.1)]:List X9))).bind λ u=>again (q,r,v,w,s,t,a,b,c,g,h,i,j,k,l,m,o,e,f,(p++ ([(y.2,a,((b,c,g,h,i,j),k,l,m,o,e,f),y.1)]:List X9)),())
def tF:Lp1 (mu×Int×Int×rW×oN×Int×iW×Unit) (iW×Unit) iW:=λ(b,f,a,c,d,k,g,_) again (k0,_)=>bif decide (a<f)then(aG b a).bind λ e=>(tN n (c,d) e).bind λ x=>la (ua n) () (λ(h,q,l,o,i,j,m,r,s,t,u,v,w,y,z,A,B,C,D,p,_)=>again (h,l,(cr .i64 (o+1)),i,j,m,p,())) x (b,x,f,a,c,d,k,e.1.1,e.1.2.1,e.1.2.2.1,e.1.2.2.2.1,e.1.2.2.2.2.1,e.1.2.2.2.2.2,e.2.1,e.2.2.1,e.2.2.2.1,e.2.2.2.2.1,e.2.2.2.2.2.1,e.2.2.2.2.2.2,g,())else k0 (g,())
def BX(a:rW×oN)(b:List X3)(d:Int):=(iB a.1 0 (ee a.1:Int)).bind λ x=>(iB a.2 0 (ee a.2:Int)).bind λ t=>(iB b 0 (ee b:Int)).bind λ u=>bif decide ((ee a.1:Int)<7)then bif decide ((ee a.1:Int)<1)then none else bif decide ((ee a.2:Int)<1000000)then bif decide ((ee b:Int)<1000000)then bif decide ((ee b:Int)<1)then none else cq (zE n) n (a,b,d,a.1,a.2,(ee a.1:Int),(ee a.2:Int),(ee b:Int),0,()) (λ(e,g,j,m,o,p,_)=>cq (AK n) n (e,g,j,m,o,p,0,()) (λ(f,h,k,q,_)=>cq (B5 n) n (f,h,k,q,0,()) (λ(c,i,l,r,_)=>cq (tF n) n (i,r,0,c.1,c.2,l,([]:List X9),()) (λ(s,_)=>some s,()),()),()),())else none else none else none
def zo:cf:= ⟨64,[j9,(.dX X1 X8),X0,X0,tJ,oP,X0,X0,X0,X0,X0,X0,X0,X0,X0,X0,X0,X0,X0,fo],[(1,.v (.aj j9)),(2,.v (.cu 64 0)),(3,.v (.cu 65 0)),(5,.v (.cu 66 0)),(6,.v (.cu 67 0)),(15,.v (.aj (.dX X1 X8))),(35,.v (.aj X0)),(55,.v (.aj X0))],[(64,.cp lZ [.aj tJ,.aj oP]),(65,.cp X0 [.aj X0]),(66,.cp X8 [.aj X0,.aj X0,.aj X0,.aj X0,.aj X0,.aj X0,.aj X0,.aj X0,.aj X0,.aj X0,.aj X0,.aj X0]),(67,.cp fo [.iR 68]),(68,.jH E0)],[]⟩
def A8:List (dN×cf):= []
theorem ZR(d)(x)(again)(ks):dv (R:=(ax [fo])) (ja n) (bT.b (R:=(ax [fo]))) (vv (lp (iw (lp Go.Rs.jr 3)) 0)) [] (GP zo [1,2,3,5,6,15,35,55] 16 17 X1 X8 d x) (tH λ st=>dv (R:=(ax [fo])) (ja n) (bT.b (R:=(ax [fo]))) (wQ (lp (iw (lp Go.Rs.jr 3)) 0)) [] st (wR (ja n) zo [1,2,3,5,6,15,35,55] A8 again ks))=ua n d x again ks:=by kernel_rfl
theorem aii:eS X.Q (bT.b (R:=(ax [fo]))) false (lp (iw (lp Go.Rs.jr 3)) 0) ((λ n=>qX (R:=(ax [fo])) (ja n) X1 X8 (vp (lp (iw (lp Go.Rs.jr 3)) 0)) zo A8 (ua n)) n):=RZ (vX X n) X.b (p:=16) (q:=17) (F:= [1,2,3,5,6,15,35,55]) (Oa:= []) (Ob:= []) (by kernel_rfl) (by kernel_rfl) trivial trivial (ZR n)
def I3:cf:= ⟨64,[lZ,j9,X0,tJ,oP,X0,X0,X0,X0],[(0,.v (.aj lZ)),(1,.v (.aj j9)),(2,.v (.aj X0)),(31,.v (.aj tJ)),(32,.v (.aj oP)),(33,.v (.aj X0)),(34,.v (.aj X0)),(35,.v (.aj X0)),(43,.v (.aj X0))],[],[]⟩
def QO:List (dN×cf):= [(.ou 210,⟨64,[lZ,j9,X0,oP,X0,X0],[(0,.v (.aj lZ)),(1,.v (.aj j9)),(2,.v (.aj X0)),(32,.v (.aj oP)),(34,.v (.aj X0)),(35,.v (.aj X0))],[],[]⟩)]
def Jy:Ev (ax [fo]):=mG n (ja n) I3 QO (zE n)
theorem aeg d again ks:dv (R:=(ax [fo])) (ja n) (bT.b (R:=(ax [fo]))) (iw (lp Go.Rs.jr 0)) [] (mk I3 d) (mL (ja n) I3 QO again ks)=zE n d again ks:=by kernel_rfl
theorem afS:eS X.Q (bT.b (R:=(ax [fo]))) false (lp Go.Rs.jr 0) (Jy n):=rk (vX X n) X.b (by kernel_rfl) (O:= []) trivial (aeg n)
def Fz:cf:= ⟨64,[lZ,j9,X0,oP,X0,X0,X0],[(0,.v (.aj lZ)),(1,.v (.aj j9)),(2,.v (.aj X0)),(32,.v (.aj oP)),(34,.v (.aj X0)),(35,.v (.aj X0)),(43,.v (.aj X0))],[],[]⟩
def NX:List (dN×cf):= [(.ou 220,⟨64,[lZ,j9,X0,X0],[(0,.v (.aj lZ)),(1,.v (.aj j9)),(2,.v (.aj X0)),(35,.v (.aj X0))],[],[]⟩)]
def Hs:Ev (ax [fo]):=mG n (ja n) Fz NX (AK n)
theorem aa2 d again ks:dv (R:=(ax [fo])) (ja n) (bT.b (R:=(ax [fo]))) (iw (lp Go.Rs.jr 1)) [] (mk Fz d) (mL (ja n) Fz NX again ks)=AK n d again ks:=by kernel_rfl
theorem aeB:eS X.Q (bT.b (R:=(ax [fo]))) false (lp Go.Rs.jr 1) (Hs n):=rk (vX X n) X.b (by kernel_rfl) (O:= []) trivial (aa2 n)
def FI:cf:= ⟨64,[lZ,j9,X0,X0,X0],[(0,.v (.aj lZ)),(1,.v (.aj j9)),(2,.v (.aj X0)),(35,.v (.aj X0)),(43,.v (.aj X0))],[],[]⟩
def MQ:List (dN×cf):= [(.ou 230,⟨64,[lZ,j9,X0,X0],[(0,.v (.aj lZ)),(1,.v (.aj j9)),(2,.v (.aj X0)),(35,.v (.aj X0))],[],[]⟩)]
def Hw:Ev (ax [fo]):=mG n (ja n) FI MQ (B5 n)
theorem aie d again ks:dv (R:=(ax [fo])) (ja n) (bT.b (R:=(ax [fo]))) (iw (lp Go.Rs.jr 2)) [] (mk FI d) (mL (ja n) FI MQ again ks)=B5 n d again ks:=by kernel_rfl
theorem Zr:eS X.Q (bT.b (R:=(ax [fo]))) false (lp Go.Rs.jr 2) (Hw n):=rk (vX X n) X.b (by kernel_rfl) (O:= []) trivial (aie n)
def HS:cf:= ⟨64,[j9,X0,X0,tJ,oP,X0,fo],[(1,.v (.aj j9)),(2,.v (.cu 64 0)),(3,.v (.cu 65 0)),(6,.v (.cu 66 0)),(35,.v (.aj X0)),(55,.v (.aj X0))],[(64,.cp lZ [.aj tJ,.aj oP]),(65,.cp X0 [.aj X0]),(66,.cp fo [.iR 67]),(67,.jH E0)],[]⟩
def PN:List (dN×cf):= [(.ou 241,⟨64,[fo],[(6,.v (.cu 64 0))],[(64,.cp fo [.iR 65]),(65,.jH E0)],[]⟩)]
def Gd:Ev (ax [fo]):=mG n (ja n) HS PN (tF n)
theorem agH d again ks:dv (R:=(ax [fo])) (ja n) (bT.b (R:=(ax [fo]))) (iw (lp Go.Rs.jr 3)) [(λ n=>qX (R:=(ax [fo])) (ja n) X1 X8 (vp (lp (iw (lp Go.Rs.jr 3)) 0)) zo A8 (ua n)) n] (mk HS d) (mL (ja n) HS PN again ks)=tF n d again ks:=by kernel_rfl
theorem age:eS X.Q (bT.b (R:=(ax [fo]))) false (lp Go.Rs.jr 3) (Gd n):=rk (vX X n) X.b (by kernel_rfl) (O:= [(λ n=>qX (R:=(ax [fo])) (ja n) X1 X8 (vp (lp (iw (lp Go.Rs.jr 3)) 0)) zo A8 (ua n)) n]) ⟨aii X n,trivial⟩ (agH n)
end
section
local instance:Dr:= ⟨false⟩
variable{k1:Unit->Option (List ((Int×Int)×bS))}
def Fq(x:bS)(y:(Int×Int)×bS):=∃f t:Nat,f<6/\t<6/\y.1=((f:Int),(t:Int))/\vJ f t x y.2
section
variable{n:Nat}(hn:1000000<n){pl:xn}(hV:pl.1.length<7)(hH:pl.2.length<1000000)(hirr:∀h∈pl.2,h.1≠h.2)(x:bS)
include hn hV hH hirr
theorem KL{f}(b:f<pl.1.length){k0:xn×bS×Int×Int×Unit->Option (List ((Int×Int)×bS))}{M0}(h0:k0 (pl,x,(pl.1.length:Int),(f:Int),())=some M0)(h1:k1 ()=some []):∀m j,j<=pl.1.length->pl.1.length- j<m->∃M,cq (xA n) m (pl,x,(f:Int),(pl.1.length:Int),(f:Int),(pl.1.length:Int),(j:Int),()) (k0,k1,())=some (M++M0)/\M.length<=pl.1.length- j/\∀y∈M,Fq x y
 |0,j,_,h=>by omega|m+1,j,r,s=>by
  rw[cq];by_cases c:j<pl.1.length;have a:decide ((j:Int)< (pl.1.length:Int))=true:=by grind
  obtain⟨k,q,e,l⟩:=agb hn hV hH hirr x b c;have i:cr .i64 ((j:Int)+1)=((j+1:Nat):Int):=by grind[nu]
  obtain⟨M,g,o,p⟩:=KL b h0 h1 m (j+1) c (by omega);simp only[xA,a,cond_true,e,ej,i];cases t:(q==0)with
  |true=>
   simp only[cond_true];refine⟨(((f:Int),(j:Int)),k)::M,?_,by grind,λ y d=>?_⟩;rw[g,h1];rfl;rcases so.1 d with rfl|d;exact⟨f,j,by omega,by omega,rfl,by grind⟩
   grind
  |false=>
   grind
  have a:decide ((j:Int)< (pl.1.length:Int))=false:=decide_eq_false (by omega);simp only[xA,a,cond_false];simp_all
theorem Q8{k0:Unit->Option (List ((Int×Int)×bS))}(h0:k0 ()=some [])(h1:k1 ()=some []):∀m i,i<=pl.1.length->pl.1.length- i<m->∃M,cq (tR n) m (pl,x,(pl.1.length:Int),(i:Int),()) (k0,k1,())=some M/\M.length<=(pl.1.length- i)*6/\∀y∈M,Fq x y
 |0,i,_,h=>by omega|m+1,i,o,p=>by
  rw[cq];by_cases a:i<pl.1.length;have l:decide ((i:Int)< (pl.1.length:Int))=true:=by grind
  have q:cr .i64 ((i:Int)+1)=((i+1:Nat):Int):=by grind[nu]
  obtain⟨M0,g,j,k⟩:=Q8 h0 h1 m (i+1) a (by omega);obtain⟨M,e1,f,e3⟩:=KL hn hV hH hirr x a (k0:=λ(d,e,b,c,_)=>cq (tR n) m (d,e,b,(cr .i64 (c+ (1:Int))),()) (k0,k1,())) (k1:=λ _=>k1 ()) (M0:=M0) (by grind) h1 n 0 (gf _) (by omega)
  grind[tR,e1,e3,kq];grind[decide,decide_eq_false,tR]
theorem yF:∃M,tN n pl x=some M/\M.length<=36/\∀y∈M,Fq x y:=by have⟨M,h1,a,h3⟩:=Q8 hn hV hH hirr x (k0:=λ _=>some []) (k1:=λ _=>some []) rfl rfl n 0 (gf _) (by omega);grind[h3,tN,Gt,h1]
end
def vG(num:Int)(x:bS)(y:(Int×Int)×bS):bA:=(y.2,num,x,y.1.1,y.1.2)
def SS(n:Nat)(pl:xn)(num:Int)(x:bS):=((tN n pl x).getD []).map (vG num x)
section
variable{n:Nat}(hn:1000000<n){pl:xn}(hV:pl.1.length<7)(hH:pl.2.length<1000000)(hirr:∀h∈pl.2,h.1≠h.2)
include hn hV hH hirr
theorem NA(num)(x):(SS n pl num x).length<=36:=by have⟨M,h1,h2,a⟩:=yF hn hV hH hirr x;grind[SS,h1,h2]
theorem af4(num)(x:bS):xD n pl num x=some (SS n pl num x):=by
 have⟨M,a,d,e⟩:=yF hn hV hH hirr x;unfold xD SS;have key:∀M c own,own.length+M.length<=4294967296->la (ui n) (()) (λ(h,i,g,b,_)=>some (b)) M (num,x,c,own,())=some (own++M.map (vG num x)):=by
  intro M
  induction M with|nil=>grind[la]|cons y M f=>grind[la,ui,zG,vG,List.append_assoc]
 grind
theorem RQ{num x e a b}(c:a∈SS n pl num x)(d:b∈SS n pl num e)(h:eT a=eT b):a=b:=by have⟨M,j,_,k⟩:=yF hn hV hH hirr x;have⟨o,g,_,i⟩:=yF hn hV hH hirr e;unfold SS at c d;rw[j]at c;rw[g]at d;obtain⟨y,l,rfl⟩:=hY.1 c;obtain⟨z,m,rfl⟩:=hY.1 d;have⟨e1,e2⟩:=Vm h;have e1:y.2=z.2:=e1;have e2:x=e:=e2;have⟨f,t,q,r,s,u⟩:=k y l;have⟨f',t',p,p2,p3,p4⟩:=i z m;grind[e1,e2,YA,Prod.ext]
end
end
section
local instance:Dr:= ⟨false⟩
section
variable{n:Nat}(hn:1000000<n){pl:xn}(hV:pl.1.length<7)(hH:pl.2.length<1000000)(hirr:∀h∈pl.2,h.1≠h.2)(hV0:0<pl.1.length)
variable{ly:List bS}
include hn hV hH hirr
theorem M4(num)(f:ly.length<1000000){k0:List bA×Unit->Option (List bA)}(h0:∀l,k0 (l,())=some l):∀m i(own:List bA),i<=ly.length->ly.length- i<m->own.length+ (ly.length- i)*36<=4294967296->cq (tF n) m (ly,(ly.length:Int),(i:Int),pl.1,pl.2,num,own,()) (k0,())=some (own++ (ly.drop i).flatMap (SS n pl num))
 |0,i,own,_,h,_=>by omega|m+1,i,own,B,D,A=>by
  rw[cq];by_cases k:i<ly.length;have g:decide ((i:Int)< (ly.length:Int))=true:=by grind
  have o:cr .i64 ((i:Int)+1)=((i+1:Nat):Int):=by grind[nu]
  have j:aG ly (i:Int)=some ly[i]:=by grind[oR]
  have⟨M,d,w,x⟩:=yF hn hV hH hirr ly[i];have z:SS n pl num ly[i]=M.map (vG num ly[i]):=by grind[SS]
  simp[tF,g,cond_true,j,ej];rw[d];have key:∀a c b,b.length+a.length+ (ly.length- (i+1))*36<=4294967296->la (ua n) (()) (λ(p,F,s,u,q,r,t,G,H,I,J,K,L,N,O,P,Q,R,S,v,_)=>cq (tF n) m (p,s,(cr .i64 (u+ (1:Int))),q,r,t,v,()) (k0,())) a (ly,c,(ly.length:Int),(i:Int),pl.1,pl.2,num,ly[i].1.1,ly[i].1.2.1,ly[i].1.2.2.1,ly[i].1.2.2.2.1,ly[i].1.2.2.2.2.1,ly[i].1.2.2.2.2.2,ly[i].2.1,ly[i].2.2.1,ly[i].2.2.2.1,ly[i].2.2.2.2.1,ly[i].2.2.2.2.2.1,ly[i].2.2.2.2.2.2,b,())=some (b++a.map (vG num ly[i])++ (ly.drop (i+1)).flatMap (SS n pl num)):=by
   intro a
   induction a with|nil=>intro c b C;rw[la];simp only[o];rw[M4 _ f h0 m (i+1) _ k (by omega) (by omega)];simp|cons y a E=>grind[la,ua,zG,vG]
  grind[l8];grind[tF]
include hV0
theorem P5(num)(c:ly.length<1000000)(g:0<ly.length):BX n pl ly num=some (ly.flatMap (SS n pl num)):=by
 have a:∀{k:Nat},k<1000000->k<=maxLen:=λ h=>by unfold fu;omega
 unfold BX;rw[xV _ _ (ei _),xV _ _ (ei _),xV _ _ (ei _)];rw[decide_eq_true (by omega),decide_eq_false (by omega),decide_eq_true (by omega),decide_eq_true (by omega),decide_eq_false (by omega)];have b:=M4 hn hV hH hirr num c (k0:=λ(d,_)=>some d) (λ l=>rfl) n 0 [] (gf _) (by omega) (by grind);refine iy (n:=n) pl.1 (λ i=>(pl,ly,num,pl.1,pl.2,((ee pl.1):Int),((ee pl.2):Int),((ee _):Int),(i:Int),())) (λ i r=>some (ly.flatMap (SS n _ _))) (a (by omega)) ?_ ?_ (by omega);grind[zE];intro h again;simp[zE,h,cond_false];refine iy (n:=n) pl.2 (λ i=>(pl,ly,num,pl.2,((ee _):Int),((ee _):Int),(i:Int),())) (λ i r=>some (ly.flatMap (SS n _ _))) (a (by omega)) ?_ ?_ (by omega);intro i e r h1 h2 h3 h4 h5 h6 again m;have j:(e.1 !=e.2)=true:=by grind
 have f:aG [e.1,e.2] 0=some e.1:=rfl;grind[aG,AK,h5,h4,h6];intro h again;simp[AK,h,cond_false];refine iy (n:=n) _ (λ i=>(pl,ly,num,((ee _):Int),(i:Int),())) (λ i r=>some (ly.flatMap (SS n _ _))) (a (by omega)) ?_ ?_ (by omega);all_goals simp_all[h1,h2,h3,h4,h5,h6,aG,B5,ej,cond_true,cond_false]
end
end
end Go.Abs.N
namespace Go.Abs
open Go.ChangeShapes Go.Proofs Go.RowKit Go.Sort Go.WideShapes
section
local instance:Dr:= ⟨false⟩
@[reducible] def wM:List Ty:= [iT,.aH dW,.ay .i64]
def Lv:Exit->au->Option (List bA)| .normal,st=>bif eb st.N 64 then(match cA st.a 48 with|some ⟨[],true,.v (.dj id v2)⟩=>(match cA st.b id with|some (a,.c8 e l)=>bif eb v2 a then gN (t:= .aH e) (t':= .aH bq) l else none|_=>none)|_=>none)else none|_,_=>none
theorem adw(n)(b:eU)(a:List bS)(num:Int):dv (R:=List bA) (N.ja n) (bT.b (R:=List bA)) Go.Rs.jr [N.Jy n,N.Hs n,N.Hw n,N.Gd n] (uN 64 wM [] (b,a,num) ()) Lv=N.BX n b a num:=by kernel_rfl
structure ae2(w:dk)(l:List bA)(a':fx)(w':dk):Prop where
 e:a'.tmps.size=64
 b:∀d∈a'.defers,∃D,d={target:= .collected D,args:= #[]}/\w'.heap[D]?=some (.deferred (some []))/\w.heap.size<=D
 c:a'.defers.Nodup
 a:cm w w'
 f:∃f,a'.tmps[48]?=some f/\xe w' w.heap.size f l
theorem Kq(X:Go.Rs.FS){n w ok vs}{u:eU}{t:List bS}{num:Int}{l:List bA}{a}(S:fe X.Q w ok wM vs (u,t,num))(J:N.BX n u t num=some l)(ao:a.tmps.size=64)(A:a.defers= [])(ah:∀i,i<3->a.tmps[i]?=vs[i]?):Go.Rs.jr.wp X.Q (λ e a' w'=>e= .normal/\ae2 w l a' w') a w:=by
 let L:bC:= ⟨w,ft ok w,λ _=>False,[],#[],0,w.heap.size⟩;rw[<-wpIn_wide (n:=7)];have ag:nN X.Q (bT.b (R:=List bA)) false Go.Rs.jr [N.Jy n,N.Hs n,N.Hw n,N.Gd n]:=my ⟨N.afS X n,N.aeB X n,N.Zr X n,N.age X n,trivial⟩;have C:=L8 (P:=X.Q) (N:=64) (ins:=wM) (caps:= []) (x:=(u,t,num)) (y:=()) (w:=w) (ok:=ok) (vs:=vs) (cs:= []) (by decide) S rfl #[];replace C:cT X.Q L (uN 64 wM [] (u,t,num) ()) a w:=by
  have⟨conc,m⟩:=C;refine⟨conc,{m with g:=A,n:=ao,k:=λ d sl Q=>?_,l:=λ _ h=>(by cases h)}⟩;obtain⟨i,ar,rfl,ai,rfl⟩:=CC _ _ _ Q;have I:i<3:=by
   have:=(pt.1 ai).1;simpa[mh,pA]using this
  have aD:vs.length=3:=by obtain⟨_,_,rfl,_,_,_,rfl,_,_,rfl,_⟩:=S;rfl
  have⟨v,p,M⟩:=m.k _ _ Q;rw[nV]at p⊢;refine⟨v,?_,λ _=>M.b (cG _),absurd (cG _)⟩;rw[ah i I]
  rw[pn (by simp;omega)]at p;simpa using p
 refine wpIn_mono (ji (N.vX X n) X.b Go.Rs.jr _ ag none rfl _ ({
  d:=λ s s' b z J=> ⟨z.1,z.2.f J.h⟩
  c:=λ h=>absurd rfl h
  g:=λ _ _=> ⟨L,l,λ _ _=>Iff.rfl⟩
  f:=λ h=>absurd rfl h}) _ _ _ _ _ _ ((adw n u t num).trans J) C ⟨rfl,jz.k _⟩) ?_;rintro e a' w'⟨s',aq,st',⟨ax,j⟩,⟨rfl,B⟩,o⟩;cases e with
 |normal=>
  refine⟨rfl,?_⟩;simp[Lv]at o;cases H:eb st'.N 64 with
  |false=>rw[H]at o;cases o
  |true=>
   rw[H]at o;split at o
   ·rename_i id v2 am;split at o
    ·rename_i Y e l0 aj;cases O:eb v2 Y with
     |false=>grind
     |true=>
      rw[O]at o;have an:=cU O;subst an;have⟨aC,K⟩:=kC o;have ak:e=bq:=by grind
      subst ak;have K:_=l0:=K;subst K;have⟨own,ac,ad⟩:=j.k 48 _ am;have⟨ay,au,aE,T,_,_,ap⟩:=(ad.b (cG _)).2;have⟨aw,aF,U,p2⟩:=j.q id _ _ aj;rw[T]at U;cases U;have al:=ap rfl;subst al;obtain⟨rfl,p3⟩:=p2;have r:=B.f j.C.h;refine⟨by rw[j.n];exact cU H,λ d A=>?_,by rw[j.g];exact j.h.h,⟨r.j,r.g,r.c,r.d,λ b z=>r.e b z λ G=>G⟩,own,ac,?_⟩
      ·rw[j.g]at A;have⟨D,p,M,Z,aa⟩:=j.h.f d A;refine⟨D,p,?_,?_⟩
       rw[j.e.e D (by grind) λ G=>Z (j.h.e D G)];omega;rw[B.h]at aa;omega
      ·obtain⟨E,F⟩| ⟨b,off,cap,W,V,E,F,az,aA,aB,ab⟩:=p3
       ·exact .inl ⟨E,F⟩
       ·refine .inr ⟨b,off,cap,W,V,E,?_,F,λ i y I=>?_⟩
        ·have ae:dB own b:=by grind[oi]
         rcases(j.f id _ _ b T ae).1 with q|q
         exact gb B.d q;rcases B.M b q with q|q
         all_goals trivial
        ·have:=ab i y I;exact(kJ _ rfl y _).1 this
    trivial
   trivial
 |_=>trivial
end
end Go.Abs
namespace Go.Rs
open Go.Conc Go.Proofs Go.Sort
section
local instance:Abs.Dr:= ⟨false⟩
open Go.Abs (bS bA eU dW bq iT aX dJ)
def xF:Oper:= ⟨some 49,.call {callee:= .value (.func 166),args:= #[.tmp 48,.func 167],argTypes:= #[228,257]},0,"x",#[],none⟩
theorem Q0(X:FS){a u v n0 L}(OJ:a.tmps[48]?=some v)(ae:Abs.xe u n0 v L)(ah:L.length<4611686018427387904):Av.wp X.Q (λ e a' q=>e= .normal/\a'=a.put (some 49) (.tuple #[])/\(q.os=u.os/\q.tape=u.tape/\q.output=u.output)/\u.heap.size<=q.heap.size/\(∀b,b<u.heap.size->(b<n0\/∀c ty fr,u.heap[b]?≠some (.cells c ty fr))->q.heap[b]?=u.heap[b]?)/\
  ∃A,L.Perm A/\mP A/\Abs.xe q n0 v A) a u:=by
 have z:∀y,(aX bq y).length=27:=λ y=>Abs.mz bq rfl y;refine Go.wp_region ?_;show pc X.Q #[xF] _ [0] a u;rw[Go.wpOps_cons];unfold wpOp;rw[show(#[xF]:Array j1)[0]?=some xF from rfl];refine .inl ?_;unfold Go.Oper.wp;have R:Abs.lE X.Q 166:= ⟨p8,X.a ml (by kernel_rfl) (by decide),by kernel_rfl,by kernel_rfl⟩;have J:=Abs.E1 (P:=X.Q) (a:=a) (w:=u) (o:=xF) (f:= .func 166) (fid:=166) (first:= #[]) (cap:= #[]) rfl rfl R;have K:a.eval (.tmp 48)=v:=by simp[o1,OJ]
 have Q:(#[]:Array b2)++ (#[lf 48,k8 167]).map a.eval++ #[]= #[v,.func (.func 167) #[] #[]]:=by
  have e:(#[lf 48,k8 167]).map a.eval= #[a.eval (.tmp 48),a.eval (.func 167)]:=by simp
  rw[e,K];rfl
 rw[Q]at J;rw[J,Oper.upon_enter];obtain⟨rfl,rfl⟩| ⟨g,off,cap,cs,T,rfl,ab,D,S⟩:=ae;refine(Abs.QJ X none 0 u).mono ?_;rintro e w'⟨rfl,rfl⟩;exact⟨rfl,rfl,⟨rfl,rfl,rfl⟩,ei _,λ _ _ _=>rfl,_,.refl _,.nil,.inl ⟨rfl,rfl⟩⟩;have cell:∀j,j<L.length*27->cs[off+j]?=(L.flatMap (aX bq))[j]?:=λ j k=>by
  have p:j/27<L.length:=by omega
  have r:=S (j/27) _ (et p);have B:=tq z L (j/27) (j%27) _ (et p) (ih _ (by omega))
  grind[dd]
 have O:HoldsK (aX bq) 27 u g off L.toArray:=by
  intro j k
  grind[size_flatK,eQ,aX,Bw,ep,hU,World.frozen?]
 have G:g<u.heap.size:=(eo.1 D).1;have I:=Abs.Rv X g off cap L.toArray u O G (by omega);rw[kR]at I;refine I.mono ?_;rintro e w'⟨rfl,d,n,os,⟨s,_,H⟩,ad,rfl⟩;have s:d.size=L.length:=by omega
 have H:d.toList.Perm L:=by
  grind[Array.extract_size,kR]
 have F:∀b,b<u.heap.size->(hg (aX bq) 27 u g off n d os).heap[b]?=if b=g then some (.cells (fR id off (eQ (aX bq) 27 d) cs) T (0,0))else u.heap[b]?:=λ b C=>by
  unfold hg grow putRowK putRow mapBlock sy;rw[pn (by simpa using C),Array.getElem?_modify];by_cases e:b=g;subst e;simp[D,onCells];rw[if_neg e,if_neg (λ h=>e h.symm)]
 refine⟨rfl,rfl,⟨rfl,rfl,rfl⟩,?_,λ b C t=>?_,d.toList,H.symm,?_,.inr ⟨g,off,cap,fR id off (eQ (aX bq) 27 d) cs,T,?_,ab,?_,λ i x p=>?_⟩⟩;unfold hg grow putRowK putRow mapBlock sy;simp;rw[F b C,if_neg];rintro rfl;obtain t|t:=t
 omega;exact t _ _ _ D;unfold mP;rw[List.pairwise_iff_getElem];intro i j p k W;have r:=ad i j (gf _) W (by rw[<-s];simpa using k);have V:i<d.size:=by simpa using p
 have Z:j<d.size:=by simpa using k
 rw[getElem!_pos d i V,getElem!_pos d j Z]at r;simp[Go.Proofs.ltOf,decide_eq_false_iff_not,Int.not_lt]at r;rw[ko,ko];have:=Abs.xG (l:=Abs.eT d[i]) (m:=Abs.eT d[j]) rfl;have r:0<=Abs.eR (Abs.eT d[j]) (Abs.eT d[i]):=r;show Abs.eR (Abs.eT d[i]) (Abs.eT d[j])<=0;omega;have:d.toList.length=L.length:=by simpa using s
 rw[this];rw[F g G,if_pos rfl];have af:i<d.toList.length:=(pt.1 p).1;have ag:i<L.length:=by
  have:d.toList.length=L.length:=by simpa using s
  omega
 refine mx λ j=>?_;unfold dd;rw[hM];by_cases k:j<27;rw[if_pos k,qc,hy];have ac:i*27+j<d.size*27:=by rw[s];omega
 have U:off+ (i*27+j)<cs.size:=by
  have:=cell (i*27+j) (by omega);rw[et (by rw[uE z];omega)]at this;exact(eo.1 this).1
 have B:=tq z d.toList i j x p k;rw[<-Bw]at B;rw[<-B,hy];have E:i*27+j< (eQ (aX bq) 27 d).size:=by rw[size_flatK];exact ac
 rw[ep E];simp only[fR];rw[show off+i*27+j=off+ (i*27+j)from by omega,Array.getElem?_mapIdx,ep U];simp only[np];have Y:off<=off+ (i*27+j)/\off+ (i*27+j)<off+ (eQ (aX bq) 27 d).size:= ⟨by omega,by omega⟩;rw[if_pos Y,show off+ (i*27+j)- off=i*27+j from by omega,getElem!_pos (eQ (aX bq) 27 d) (i*27+j) E];rfl;rw[if_neg k,hv (by rw[z];omega)]
end
end Go.Rs
