/- Part of a proof that the statement holds. No conditions. -/
import Derived.Conc.LeavingOf
import Derived.Shelf.Slices.Clone
import Derived.Shelf.Strings.Search2
import Derived.Shelf.Strings.Count
import Derived.Test.YtbppbacfffndaaaGreatDoorN4
set_option linter.all false
set_option maxRecDepth 100000
open Go renaming Value->b2,World->cr,undef->df,Obj->dr,lone->ea,results->eb,Frame->ee,execOp->eg,runN->ei,binOp->en,eqGuard->eo,wp_seq->et,stepG->ew,Act->eH,unwind->eV,Sem->fb,wp_mono->fR,maxLen->hs,wpOps->ht,Calls->hv,Addr->hy,Program->hR,wpIn_region->jA,wp_region->j2,typeInfo->kk,wpIn_seq->ko,wp_cond->kp,sizeOf->kq,loadCellsFrom->lb,callsIn_wide->lA,cell_of_row->l1,wpOps_cons->l4,doReturn->l8,run_underlying->n3,size_zeroCells->oj,run_append_nil->o1,callsIn_of_wp->pv
open Go.Sem renaming run_bind->dk,run->hq,runT_fst->lv
open Array renaming replicate->ef,getElem?_eq_some_iff->fl,getElem?_eq_getElem->fu,getD_eq_getD_getElem?->hz,mapM_eq_mapM_toList->hA,getElem?_append_left->kH,getElem?_toList->kR,toList_inj->lk,getElem?_eq_none->ml,getElem?_push->nH,getElem?_map->n1,size_push->pV
open Nat renaming le_refl->ej,reduceEqDiff->eL,eq_of_beq_eq_true->fx,beq->gb,le_trans->hg,ne_of_gt->hP,blt->hU,zero_add->kg,mul_le_mul_right->nv,lt_of_lt_of_le->nV,lt_or_ge->qc,sub_mul->qq,mul_one->qz,mod_lt->qF
open Go.Act renaming put->ep,eval->hQ
open Pure renaming pure->eQ
open List renaming getElem?_eq_some_iff->fv,getElem?_eq_getElem->gf,append_nil->gu,length->hh,pairwise_cons->hB,mem_flatMap->hG,mem_cons->hN,range->hS,getElem?_take->hZ,getElem?_drop->k5,ext_getElem?->k8,getElem?_eq_none->ng,mem_of_getElem?->ny,mem_cons_of_mem->nz,size_toArray->o0,all_eq_true->o2,cons_append->pc,nodup_cons->pN,all_cons->p6,Pairwise->p8,range'->qn
open Option.some renaming inj->fz
open Go.Instr renaming takeDeferred->gg,indexAt->gl,sliceAt->hF,loadAt->hL,field->hM,storeAt->lf,alloc->lB,index->pX
open Go.Builtin renaming zeroCells->gk,cap_->hJ,append_->k6,firstCells->np,lenOf->pk,len_->pz
open Go.Next renaming value->gw
open Go.Conc renaming crowd->gE,stepG_value->k3,G->ma
open Bool renaming and_eq_true->hD,false_eq_true->k4
open Go.Oper renaming upon_value->hY,wp->l9
open Go.World renaming putObj->ih,putObj_heap_other->mb
open Go.RowKit renaming Below->iA
open Go.Operand renaming tmp->jc
open Go.Value renaming func->j1,bool->p7
open Go.Obj renaming cells->j3
open Go.Proofs.Tryz renaming func184->kL,func133->mm,func214->mn,func216->mo,func215->mr,func233->mv,func217->mx,func234->mA,func160->mZ,func145->nb,func156->nc,func115->nf,f156->nL,func158->q7,func185->q8,func186->q9,func159->re
open Go.Result renaming andThen_ok->kV,ok->qi
open Int renaming toNat_natCast->k7
open Go.Addr renaming add->l7,add_mid->pS
open Go.OpenSpec renaming ofChange->nB
open Go.Value.bool renaming inj->n2
open Option renaming getD_some->pn,map_some->pH
open Go.DataW renaming TrodAll->pt
open Go.GStep renaming after->p1
open List.Perm renaming refl->p5
open Go.Proofs.Any renaming slices_Clone_int_zero->qO,stringslite_Index_one->qW,slices_Clone_int_nil->q0,strings_Count_one->q3,slices_Clone_int->q4
open Go.ChangeSpec renaming post_blind->q5
open Go.DataW.Whole renaming of_heap->q6
open Go.RowKit.Below renaming refl->rm
open Go.Proofs.Lays2 renaming n15->rr
open Go.Proofs.Lays renaming n219->rH,n138->rL
open List.Pairwise renaming nil->rV
open Go.Region renaming wanted->r1
open Go.Frame renaming enter->bk
open Go.Rs renaming FM->b0,iCk->b1,iC->b3
open Go.Abs.N renaming SS->b4
noncomputable section
namespace Go.Rs
open Go.ChangeShapes Go.Conc Go.Proofs Go.RowKit Go.Sort Go.WideShapes
section dp
variable{P:Program}{hp:Array Obj}{α γ:Type}
variable{v:Value}{Φ:α->Prop}{t:TypeId}{n:Nat}{s:Sem α}{ag:Bool}{k:IntKind}{f:α->Sem γ}{x:α}{d:TypeDesc}
def DP(P:hR)(hp:Array dr)(Φ:α->Prop)(s:fb α):=∀w,w.heap=hp->(∃x,s.run P w= .ok x w/\Φ x)\/∃y u,s.run P w= .halt y u/\jX y=true
theorem DP.b{Φ x}(h:Φ x):DP P hp Φ (eQ x:fb α):=λ w _=> .inl ⟨x,rfl,h⟩
theorem DP.e{Φ Ψ}(h:DP P hp Ψ s)(k:∀x,Ψ x->DP P hp Φ (f x)):DP P hp Φ (s>>=f):=λ w a=>by
 rcases h w a with⟨x,e,c⟩| ⟨y,u,e,d⟩
 ·rcases k x c w a with⟨z,b,g⟩| ⟨y,u,b,d⟩;all_goals simp_all
 simp_all
theorem DP.m(h:∀w,s.run P w= .ok x w)(a:Φ x):DP P hp Φ s:=λ w _=> .inl ⟨x,h w,a⟩
theorem DP.a{Φ}(h:∀w,s.run P w= .ok x w)(k:DP P hp Φ (f x)):DP P hp Φ (s>>=f):=DP.e (Ψ:=λ y=>y=x) (DP.m h rfl) λ y e=>e▸k
theorem DP.c(why):DP P hp Φ (stuck why:fb α):=λ w _=> .inr ⟨_,w,rfl,rfl⟩
theorem DP.i{u}(a:jX (.unsupported u)=true):DP P hp Φ (unsupported u:fb α):=λ w _=> .inr (by simp_all)
theorem DP.g(k)(x y)(c):DP P hp Φ (boundsPanic k x y c:fb α):=λ w _=>by refine .inr ?_;unfold boundsPanic;split;exact⟨_,_,rfl,rfl⟩;exact⟨_,_,rfl,rfl⟩
theorem rC(h:P.underlying t=some d)(w):(underlying t).run P w= .ok d w:=by simp_all[underlying,hq]
theorem Ll{d}(h:P.info? t=some d)(w):(kk t).run P w= .ok d w:=by simp_all[kk,hq]
theorem vK{d}(h:P.info? t=some d)(w):(kq t).run P w= .ok d.size w:=by simp_all[kq,Ll]
def Cy:TypeDesc->Bool| .struct _| .array _ _=>true|_=>false
theorem Qk(h:P.underlying t=some d)(w):(isAgg t).run P w= .ok (Cy d) w:=by unfold isAgg;rw[dk,rC h];cases d<;>rfl
def oQ(P:hR)(t n:Nat)(ag:Bool):=(match P.underlying t with|some d=>(match Cy d,ag with|true,true=>true|false,false=>true|_,_=>false)|none=>false)&& (match P.info? t with|some i=>gb i.size n|none=>false)
theorem EG{t}(h:oQ P t n ag=true):(∃d,P.underlying t=some d/\Cy d=ag)/\∃i,P.info? t=some i/\i.size=n:=by grind[oQ,fx]
def oL(o n:Nat)(ag:Bool):b2->Option b2| .agg cs=>if ag=true then some (.agg (cs.extract o (o+n)))else cs[o]?|_=>none
theorem DP.j{t o cs}(h:oQ P t n ag=true):DP P hp (λ u=>oL o n ag (.agg cs)=some u) (part t cs o):=by have⟨⟨d,a,b⟩,i,c,e⟩:=EG h;refine DP.a (Qk a) ?_;rw[b];cases ag with|true=>refine DP.a (vK c) (DP.b ?_);grind[oL]|false=>grind[DP.b,oL,DP.c]
def pM(P:hR)(T i o n:Nat)(ag:Bool):Bool:=match P.underlying T with|some (.struct fs)=>(match fs[i]? with|some f=>gb f.offset o&&oQ P f.type n ag|none=>false)|_=>false
theorem DP.l{T i o}(h:pM P T i o n ag=true):DP P hp (λ u=>oL o n ag v=some u) (hM T v i):=by
 unfold pM at h;split at h;rename_i fs a;split at h;rename_i f b;rw[hD]at h;have c:=fx h.1;refine DP.a (rC a) ?_;simp[b];unfold asAgg;cases v with
 |agg cs=>grind[DP.j,id]|_=>exact DP.e (DP.c (Φ:=λ _=>False) _) λ _ h=>h.elim
 trivial;trivial
def w8(P:hR)(T e:Nat):Bool:=match P.underlying T with|some (.array _ t)=>gb t e&&oQ P t 1 false|_=>false
theorem DP.o{T e k n v}(h:w8 P T e=true):DP P hp (λ u=>oL n 1 false v=some u) (pX T v (.int k n)):=by
 unfold w8 at h;split at h;rename_i len t b;rw[hD]at h;have⟨_,i,a,c⟩:=EG h.2;refine DP.a (x:=(k,(n:Int))) (λ w=>rfl) ?_;refine DP.a (rC b) ?_;cases v with
 |agg cs=>simp;split;refine DP.a (vK a) ?_;grind[DP.j,k7];grind[DP.g]|_=>exact DP.c _
 trivial
def nK(P:hR)(T n:Nat):Bool:=match P.underlying T with|some (.slice t)=>(match P.info? t with|some i=>gb i.size n|none=>false)|_=>false
theorem DP.h{T m}{n:Int}(h:nK P T m=true):DP P hp (λ u=>∃ad l c,v= .slice (some ad) l c/\0<=n/\n<l/\u= .pointer (some (ad.add (n.toNat*m)))) (gl T v (.int k n)):=by
 unfold nK at h;split at h;rename_i t b;split at h;rename_i i e;refine DP.a (x:=(k,n)) (λ w=>rfl) ?_;refine DP.a (rC b) ?_;cases v with
  |slice a l c=>simp only;refine DP.a (x:=(a,l,t)) (λ w=>rfl) ?_;refine DP.a (rC b) ?_;cases a with|none=>grind[DP.g]|some ad=>simp only;split;rename_i d;refine DP.a (vK e) (DP.b ⟨_,l,c,rfl,d.1,d.2,?_⟩);rw[fx h];grind[DP.g]
  |_=>exact DP.e (DP.c (Φ:=λ _=>False) _) λ _ h=>h.elim
 trivial;trivial
theorem DP.u{T m ty:Nat}(h:nK P T m=true):DP P hp (λ u=>∃a l c,v= .slice a l c/\u= .int .i64 l) (pz #[T] ty #[v]):=by
 unfold nK at h;split at h;rename_i t b;refine DP.a (rC b) ?_;cases v with|slice a l c=>exact DP.b ⟨a,l,c,rfl,rfl⟩|_=>exact DP.c _
 trivial
theorem DP.cap{T m ty:Nat}(h:nK P T m=true):DP P hp (λ u=>∃a l c,v= .slice a l c/\u= .int .i64 c) (hJ #[T] ty #[v]):=by
 unfold nK at h;split at h;rename_i t b;refine DP.a (rC b) ?_;cases v with|slice a l c=>exact DP.b ⟨a,l,c,rfl,rfl⟩|_=>exact DP.c _
 trivial
theorem DP.w{T m}{n:Int}(h:nK P T m=true):DP P hp (λ u=>∃a l c,v= .slice a l c/\0<=n/\n<=c/\u= .slice (if c=0 then a else a.map (·.add (0*m))) n.toNat c) (hF T v none (some (.int k n)) none):=by
 unfold nK at h;split at h
 ·rename_i t b;split at h;rename_i i g;refine DP.a (rC b) ?_;refine DP.a (rC b) ?_;cases v with
   |slice a l c=>simp only;refine DP.e (Ψ:=λ x=>0<=n/\n<=c/\x=(0,n.toNat,c)) ?_ λ x d=>?_;refine DP.a (x:=c) (λ w=>rfl) ?_;refine DP.e (Ψ:=λ x=>0<=n/\n<=c/\x=n.toNat) ?_ λ x d=>?_;refine DP.a (x:=(k,n)) (λ w=>rfl) ?_;grind[DP.b,DP.g];grind[DP.b];obtain⟨e,f,rfl⟩:=d;refine DP.a (vK g) (DP.b ⟨a,l,c,rfl,e,f,?_⟩);simp|_=>exact DP.c _
  trivial
 trivial
end dp
section dp
variable{P:Program}{hp:Array Obj}{α γ:Type}
variable{n:Int}{a:Addr}{o:Obj}{x:Value}
theorem DP.mono{Φ Ψ}{s:fb α}(h:DP P hp Φ s)(k:∀x,Φ x->Ψ x):DP P hp Ψ s:=λ w a=>(h w a).imp (by grind) id
theorem adx{w:cr}(h:w.heap[a.block]?=some o)(hp:An o=true)(q):∃x,w.farLoad P a q= .error x/\jX x=true:=by unfold World.farLoad;rw[h];cases o with|view _ _=>trivial|pending _ _=>trivial|_=>exact⟨_,rfl,by unfold World.noCell;rw[h];rfl⟩
theorem qT(a:hy)(n):(a.add n).off=a.off+n/\(a.add n).block=a.block:=by grind[l7]
theorem DP.p(h:hp[a.block]?=some o)(e:An o=true):DP P hp (λ v=>∃c ty fr,hp[a.block]?=some (.cells c ty fr)/\a.spot=none/\c[a.off]?=some v) (load a):=λ w g=>by
 unfold Go.load;have d:w.heap[a.block]?=some o:=by grind
 cases b:w.cell? a with
 |some v=>refine .inl ⟨v,by grind[hq],?_⟩;unfold World.cell? at b;rw[d]at b;cases o with
  |cells c ty fr=>simp_all|_=>trivial
 |none=>have⟨x,i,f⟩:=adx (P:=P) d e (Mode.plain== .atomic);simp_all[hq]
theorem DP.d{a o}(h:hp[a.block]?=some o)(d:An o=true):∀n i b,DP P hp (λ vs=>∃l:List b2,l.length=n/\vs=b++l.toArray/\∀j,j<n->∃c ty fr,hp[a.block]?=some (.cells c ty fr)/\(a.add (i+j)).spot=none/\c[a.off+ (i+j)]?=l[j]?) (lb a i n b)
 |0,i,b=>DP.b ⟨[],rfl,by simp,λ j k=>by omega⟩|n+1,i,b=>by unfold lb;refine DP.e (DP.p (o:=o) (by grind[qT]) d) λ v m=>?_;have⟨c,ty,fr,f,q,g⟩:=m;rw[(qT a i).2]at f;rw[(qT a i).1]at g;refine λ w p=>(DP.d h d n (i+1) (b.push v) w p).imp ?_ id;rintro⟨x,e,l,s,t,k⟩;refine⟨x,e,v::l,by grind,by grind,λ j r=>?_⟩;grind
def Rc(hp:Array dr)(a:hy)(n:Nat)(u:b2):=∃vs c ty fr,u= .agg vs/\vs.size=n/\hp[a.block]?=some (.cells c ty fr)/\a.spot=none/\∀j,j<n->c[a.off+j]?=vs[j]?
theorem DP.f{T n a o}(hT:oQ P T n true=true)(m:0<n)(h:hp[a.block]?=some o)(p:An o=true):DP P hp (Rc hp a n) (hL T (.pointer (some a))):=by
 have⟨⟨d,b,e⟩,i,f,g⟩:=EG hT;refine DP.a (x:=a) (λ w=>rfl) ?_;refine DP.a (Qk b) ?_;rw[e];refine DP.a (vK f) ?_;rw[g];refine DP.e (DP.d h p n 0 #[]) λ vs r=>DP.b ?_;have⟨l,u,v,k⟩:=r;have⟨c,ty,fr,s,y,z⟩:=k 0 m;have q:a.spot=none:=by trivial
 refine⟨vs,c,ty,fr,rfl,by grind,s,q,λ j t=>?_⟩;grind
theorem DP.r(T c:Nat)(X Y):DP P hp (λ u=>∃m,x= .int .i64 m/\u= .bool (m<n)) (do eo .lss T X Y x (.int .i64 n);en .lss T x (.int .i64 n)):=by refine DP.a (x:=()) (λ w=>rfl) ?_;cases x with
 |int k m=>unfold en;by_cases b:k= .i64;subst b;exact DP.b ⟨m,rfl,rfl⟩;grind[DP.c]|pointer a=>cases a<;>exact DP.i rfl|_=>exact DP.c _
variable{m:Int}
theorem DP.q(T a:Nat)(X Y):DP P hp (λ u=>u= .bool (n !=m)) (do eo .neq T X Y (.int .i64 n) (.int .i64 m);en .neq T (.int .i64 n) (.int .i64 m)):=by exact DP.a (x:=()) (λ w=>rfl) (DP.b rfl)
theorem DP.t(T a:Nat)(X Y):DP P hp (λ u=>u= .int .i64 (IntKind.i64.wrap (n+m))) (do eo .add T X Y (.int .i64 n) (.int .i64 m);en .add T (.int .i64 n) (.int .i64 m)):=by exact DP.a (x:=()) (λ w=>rfl) (DP.b rfl)
theorem DP.s{s}{T:Nat}(hT:P.underlying T=some .string)(X Y):DP P hp (λ u=>∃r,x= .string r) (do eo .eql T X Y x (.string s);en .eql T x (.string s)):=by
 have a:∀w,(eo .eql T X Y x (.string s)).run P w= .ok () w:=λ w=>by cases x<;>rfl
 refine DP.a a ?_;cases x with|string r=>exact DP.b ⟨r,rfl⟩|_=>unfold en;exact DP.e (Ψ:=λ _=>False) (DP.a (rC hT) (DP.c _)) λ _ h=>h.elim
end dp
section
local instance:Abs.Dr:= ⟨false⟩
def ev(a:eH)(i:Nat):=a.eval (.tmp i)
def upd(g:Nat->b2)(d:Nat)(x:b2)(i:Nat):=if i=d then x else g i
theorem acM{a d x}(b:d<a.tmps.size):ev (a.put (some d) x)=upd (ev a) d x:=by funext i;simp[ev,upd,ep,hQ,hz,Array.getElem?_setIfInBounds];grind
theorem upd_ne{g d i x}(h:i≠d):upd g d x i=g i:=if_neg h
theorem u3{g d x}:upd g d x d=x:=if_pos rfl
def Kn(hp:Array dr)(a:eH):=∀i ad,ev a i= .pointer (some ad)->∃o,hp[ad.block]?=some o/\An o=true
structure Sp where
 dst:Nat
 op:Op
 ty:Nat
 pre:(Nat->b2)->Prop
 spec:Array dr->(Nat->b2)->b2->Prop
 ok:∀hp a,Kn hp a->pre (ev a)->DP CQ.Q hp (λ y=>∃x,y=gw x/\spec hp (ev a) x) (eg a.eval (oo dst op ty))
def Sp.oper(s:Sp):=oo s.dst s.op s.ty
theorem oh{P hp Φ s}(h:DP P hp Φ s):DP P hp (λ y=>∃x,y=gw x/\Φ x) (s>>=λ v=>eQ (gw v)):=DP.e h λ x a=>DP.b ⟨x,rfl,a⟩
def x5(g:Nat->b2)(s:Nat):=∃m,g s= .int .i64 m
def sF(d T s f:Nat){o n:Nat}{b:Bool}(h:pM CQ.Q T f o n b=true):Sp:= ⟨d,.field T (.tmp s) f,0,λ _=>True,λ _ g x=>oL o n b (g s)=some x,λ _ a _ _=>oh (s:=hM T (a.eval (.tmp s)) f) (DP.l h)⟩
def sX(d T s k:Nat){e:Nat}(h:w8 CQ.Q T e=true):Sp:= ⟨d,ixk T s k,0,λ _=>True,λ _ g x=>oL k 1 false (g s)=some x,λ _ a _ _=>oh (s:=pX T (a.eval (.tmp s)) (.int .i64 k)) (DP.o h)⟩
def sA(d T s q:Nat){m:Nat}(h:nK CQ.Q T m=true):Sp:= ⟨d,.indexAddr T (.tmp s) (.tmp q),0,λ g=>x5 g q,λ _ g x=>∃i ad l c,g q= .int .i64 i/\g s= .slice (some ad) l c/\0<=i/\i<l/\x= .pointer (some (ad.add (i.toNat*m))),λ hp a _⟨i,b⟩=>oh (s:=gl T (a.eval (.tmp s)) (a.eval (.tmp q))) (by have b:a.eval (.tmp q)= .int .i64 i:=b;rw[b];exact(DP.h h).mono λ x⟨ad,l,c,e⟩=> ⟨i,_,l,c,b,e⟩)⟩
def sL(d e s:Nat){n:Nat}(h:oQ CQ.Q e n true=true)(j:0<n):Sp:= ⟨d,.load e (.tmp s),0,λ g=>∃ad,g s= .pointer (some ad),λ hp g x=>∃ad,g s= .pointer (some ad)/\Rc hp ad n x,λ hp a c⟨ad,b⟩=>oh (s:=hL e (a.eval (.tmp s))) (by have⟨o,f,i⟩:=c s ad b;have b:a.eval (.tmp s)= .pointer (some ad):=b;simp_all[DP.f])⟩
theorem ak7(a:eH)(s:Nat):(#[jc s]).map a.eval= #[a.eval (.tmp s)]:=by simp
def sN(d T s:Nat){m:Nat}(h:nK CQ.Q T m=true):Sp:= ⟨d,lnn T s,3,λ _=>True,λ _ g x=>∃a l c,g s= .slice a l c/\x= .int .i64 l,λ _ a _ _=>oh (s:=pz #[T] 3 ((#[jc s]).map a.eval)) (by rw[ak7];exact DP.u h)⟩
def sC(d T s:Nat){m:Nat}(h:nK CQ.Q T m=true):Sp:= ⟨d,cpp T s,3,λ _=>True,λ _ g x=>∃a l c,g s= .slice a l c/\x= .int .i64 c,λ _ a _ _=>oh (s:=hJ #[T] 3 ((#[jc s]).map a.eval)) (by rw[ak7];exact DP.cap h)⟩
def sS(d T s q:Nat){m:Nat}(h:nK CQ.Q T m=true):Sp:= ⟨d,slc T s q,T,λ g=>x5 g q,λ _ g x=>∃n a l c,g q= .int .i64 n/\g s= .slice a l c/\0<=n/\n<=c/\x= .slice (if c=0 then a else a.map (·.add (0*m))) n.toNat c,λ hp a _⟨i,b⟩=>oh (s:=hF T (a.eval (.tmp s)) none (some (a.eval (.tmp q))) none) (by have b:a.eval (.tmp q)= .int .i64 i:=b;rw[b];exact(DP.w h).mono λ x⟨ad,l,c,e⟩=> ⟨i,_,l,c,b,e⟩)⟩
def sK(d s:Nat)(k:Int):Sp:= ⟨d,n9 s k,0,λ _=>True,λ _ g x=>∃m,g s= .int .i64 m/\x= .bool (m<k),λ _ a _ _=>oh (s:=do eo .lss 3 (.tmp s) (.const (.int .i64 k)) (a.eval (.tmp s)) (.int .i64 k);en .lss 3 (a.eval (.tmp s)) (.int .i64 k)) (DP.r _ 0 _ _)⟩
def sB(o:BinOp)(s:Nat)(a:eH)(y:Go.Operand):fb Value:=do eo o 3 (.tmp s) y (a.eval (.tmp s)) (a.eval y);en o 3 (a.eval (.tmp s)) (a.eval y)
def sT(d s q:Nat):Sp:= ⟨d,lst s q,0,λ g=>x5 g q,λ _ g x=>∃n m,g q= .int .i64 n/\g s= .int .i64 m/\x= .bool (m<n),λ hp a _⟨i,b⟩=>oh (s:=sB .lss s a (.tmp q)) (by have b:a.eval (.tmp q)= .int .i64 i:=b;unfold sB;rw[b];exact(DP.r _ 0 _ _).mono λ x⟨m,e⟩=> ⟨i,m,b,e⟩)⟩
def sQ(d s q:Nat):Sp:= ⟨d,.binOp .neq 3 (.tmp s) (.tmp q) 3,0,λ g=>x5 g s/\x5 g q,λ _ g x=>∃n m,g s= .int .i64 n/\g q= .int .i64 m/\x= .bool (n !=m),λ hp a _⟨⟨i,b⟩,j,c⟩=>oh (s:=sB .neq s a (.tmp q)) (by have b:a.eval (.tmp s)= .int .i64 i:=b;have c:a.eval (.tmp q)= .int .i64 j:=c;unfold sB;rw[b,c];exact(DP.q _ 0 _ _).mono (by grind))⟩
def sE(d T s:Nat)(h:CQ.Q.underlying T=some .string):Sp:= ⟨d,.binOp .eql T (.tmp s) (.const (.string ⟨⟨[]⟩⟩)) T,0,λ _=>True,λ _ g x=>∃r,g s= .string r,λ _ a _ _=>oh (s:=do eo .eql T (.tmp s) (.const (.string ⟨⟨[]⟩⟩)) (a.eval (.tmp s)) (.string ⟨⟨[]⟩⟩);en .eql T (a.eval (.tmp s)) (.string ⟨⟨[]⟩⟩)) (DP.s h _ _)⟩
def sI(d:Nat)(k:Int):Sp:= ⟨d,ak2 d k,0,λ g=>x5 g d,λ _ g x=>∃m,g d= .int .i64 m/\x= .int .i64 (IntKind.i64.wrap (m+k)),λ hp a _⟨i,b⟩=>oh (s:=sB .add d a (.const (.int .i64 k))) (by have b:a.eval (.tmp d)= .int .i64 i:=b;unfold sB;rw[b];exact(DP.t _ 0 _ _).mono (by grind))⟩
def sM(d:Nat)(v:b2):Sp:= ⟨d,K6 v,0,λ _=>True,λ _ _ x=>x=v,λ _ _ _ _=>DP.b ⟨v,rfl,rfl⟩⟩
def Pre(hp:Array dr):List Sp->(Nat->b2)->Prop| [],_=>True|s::l,g=>s.pre g/\∀x,s.spec hp g x->Pre hp l (upd g s.dst x)
def b9(hp:Array dr):List Sp->(Nat->b2)->(Nat->b2)->Prop| [],g,g'=>g'=g|s::l,g,g'=>∃x,s.spec hp g x/\b9 hp l (upd g s.dst x) g'
theorem b9.keep{hp j}:∀{l:List Sp}{g g':Nat->b2},b9 hp l g g'->(∀s∈l,s.dst≠j)->g' j=g j| [],_,_,h,_=>by rw[(h)]|s::l,g,g',⟨x,h1,h2⟩,h=>by rw[h2.keep (by grind),upd,if_neg (by grind)]
theorem b9.last{hp s}:∀{l:List Sp}{g g':Nat->b2},b9 hp (l++[s]) g g'->∃a x,b9 hp l g a/\s.spec hp a x/\g'=upd a s.dst x| [],g,g',⟨x,b,c⟩=> ⟨g,x,rfl,b,c⟩|q::l,g,g',⟨x,b,c⟩=>have⟨a,y,k1,d⟩:=b9.last c;⟨_,y,⟨x,b,k1⟩,d⟩
def ak6(id n:Nat)(B:List Sp):Code:= .seq (rg (id+1) [oo 44 (lst 43 n)]) (.seq (.cond (.tmp 44) .skip (.exit id)) (.seq (rg (id+2) (B.map Sp.oper)) (xI 52)))
section
variable[aW]{X:cS}{F:Nat->Bool}{R:Frame->World->Prop}
variable{cs:List Frame}{hp:Array Obj}{b:Frame}{a:Go.Act}{k:List Item}
theorem At.kn{it}(h:At CQ X F R cs hp (b.at a it)):Kn hp a:=λ i ad e=>by
 have d:a.tmps[i]?=some (.pointer (some ad)):=by have c:a.tmps.getD i df= .pointer (some ad):=e;rw[hz]at c;cases e:a.tmps[i]? with|none=>rw[e]at c;trivial|some v=>grind
 exact h.E (fr:=b.at a _) (i:=i) d rfl
variable(OK:CQ.a)(hX:X.b)
include OK hX
theorem At.ops{L}:∀l pre a,L=pre++l->(∀s∈l,s.dst<64)->a.tmps.size=64->Pre hp l (ev a)->At CQ X F R cs hp (b.at a (.inRegion ⟨L.map Sp.oper⟩ (qn pre.length l.length)::k))->∃a',b9 hp l (ev a) (ev a')/\a'.tmps.size=64/\At CQ X F R cs hp (b.at a' k):=by
 intro l
 induction l with|nil=>exact λ _ a _ _ d _ h=> ⟨a,rfl,d,h.d OK hX λ _=>rfl⟩|cons s l t=>
  intro pre a e p d f h;have r:s.dst<a.tmps.size:=by grind
  obtain⟨y,w2,⟨rfl,x,rfl,i⟩,c⟩:=h.M OK hX (λ _=>rfl) (o:=s.oper) (Ψ:=λ y w2=>w2.heap=hp/\∃x,y=gw x/\s.spec hp (ev a) x) (by grind) (λ _=>rfl) λ w g=>(s.ok hp a h.kn f.1 w g).imp (λ⟨y,n,c⟩=> ⟨y,w,n,g,c⟩) id;have⟨a',u,j,m⟩:=t (pre++[s]) (a.put (some s.dst) x) (by simp[e]) (λ q v=>p q (by grind)) (by simp[ep,d]) (by rw[acM r];exact f.2 x i) (by rw[List.length_append];exact c x rfl);exact⟨_,⟨x,i,by grind[acM]⟩,j,m⟩
theorem At.h{id}(l)(h:At CQ X F R cs hp (b.at a (.code (rg id (l.map Sp.oper))::k)))(d:a.tmps.size=64)(e:(l.all λ s=>hU s.dst 64)=true)(c:Pre hp l (ev a)):∃a',b9 hp l (ev a) (ev a')/\a'.tmps.size=64/\At CQ X F R cs hp (b.at a' k):=have h:=h.e OK hX (λ _=>rfl);At.ops OK hX (L:=l) l [] a rfl (λ s f=>by simp_all) d c (by grind[hS,Sp.oper,qn,List.range_eq_range'])
theorem At.must{c}(h:At CQ X F R cs hp (b.at a (.code (xI c)::k))):ev a c= .bool true/\At CQ X F R cs hp (b.at a k):=by have d:∀f,CQ.b f=false:=λ _=>rfl;have⟨t,e,h⟩:=h.l OK hX d;cases t with|true=>exact⟨e,h.o OK hX d⟩|false=>exact(h.u OK hX d).elim
theorem At.i{c}(h:At CQ X F R cs hp (b.at a (.code (akS c)::k))):ev a c= .bool false/\At CQ X F R cs hp (b.at a k):=by have d:∀f,CQ.b f=false:=λ _=>rfl;have⟨t,e,h⟩:=h.l OK hX d;cases t with|false=>exact⟨e,h.o OK hX d⟩|true=>exact(h.u OK hX d).elim
theorem At.m{id s n T e m z N}{hT:nK CQ.Q T m=true}{hE}{h0:0<z}{l}(Z:n<43)(ah:N<1000000)
 (V:(l.all λ s=>hU s.dst 64&&hU 43 s.dst)=true) (d:∀g,x5 g 43->Pre hp (sA 45 T s 43 hT::sL 46 e 45 hE h0::l++[sI 43 1]) g)
 (body:Array dr->(Nat->b2)->Prop) (U:∀g g',b9 hp (sA 45 T s 43 hT::sL 46 e 45 hE h0::l++[sI 43 1]) g g'->g' 52= .bool true->body hp g):
 ∀(B i:Nat)(a:eH),i+B=N->a.tmps.size=64->ev a n= .int .i64 N->ev a 43= .int .i64 i->
 At CQ X F R cs hp (b.at a (.code (ak6 id n (sA 45 T s 43 hT::sL 46 e 45 hE h0::l++[sI 43 1]))::.inLoop (ak6 id n (sA 45 T s 43 hT::sL 46 e 45 hE h0::l++[sI 43 1])):: .inBlock id::k))->
 (∀j,i<=j->j<N->∃g,(∀x,x<43->g x=ev a x)/\g 43= .int .i64 j/\body hp g)/\∃a',(∀x,x<43->ev a' x=ev a x)/\a'.tmps.size=64/\At CQ X F R cs hp (b.at a' k):=by
 have o:∀f,CQ.b f=false:=λ _=>rfl
 intro B
 induction B with
 |zero=>
  intro i a W E r u h;obtain⟨v,⟨x,⟨ab,m',w,y,rfl⟩,A⟩,G,h⟩:=At.h OK hX [sT 44 43 n] (h.f OK hX o) E rfl ⟨⟨_,r⟩,λ _ _=>trivial⟩
  rw[r]at w;rw[u]at y;cases w;cases y;have⟨t,c,h⟩:=(h.f OK hX o).l OK hX o;have c:ev v 44= .bool t:=c
  rw[A]at c;have c:=(u3 (g:=ev a)).symm.trans c;have:t=false:=by grind
  subst this;have h:=h.A OK hX o (k':=k) (by simp[exitTo]);exact⟨by omega,_,λ x p=>by rw[A];exact upd_ne (show x≠44 by omega),G,h⟩
 |succ B aa=>
  intro i a W E r u h;obtain⟨v,⟨x,⟨ab,m',w,y,rfl⟩,A⟩,G,h⟩:=At.h OK hX [sT 44 43 n] (h.f OK hX o) E rfl ⟨⟨_,r⟩,λ _ _=>trivial⟩
  rw[r]at w;rw[u]at y;cases w;cases y;have⟨t,c,h⟩:=(h.f OK hX o).l OK hX o;have c:ev v 44= .bool t:=c
  rw[A]at c;have c:=(u3 (g:=ev a)).symm.trans c;have:t=true:=by grind
  subst this;have lo:∀x,x<44->ev v x=ev a x:=λ x p=>by rw[A];exact upd_ne (show x≠44 by omega)
  have⟨C,D,ae,h⟩:=At.h OK hX _ ((h.o OK hX o).f OK hX o) G (by
   simp only[List.all_append,p6,List.all_nil,Bool.and_true,hD];refine⟨⟨rfl,rfl,?_⟩,rfl⟩;grind) (d _ ⟨_,(lo 43 (by omega)).trans u⟩)
  have⟨S,h⟩:=h.must OK hX;have dst:∀q∈l,43<q.dst:=λ q d=>Nat.le_of_ble_eq_true (Bool.and_eq_true_iff.1 (o2.1 V q d)).2
  have key:ev C 43= .int .i64 (i+1:Nat):=by
   obtain⟨P,x,ac,⟨m,I,rfl⟩,ad⟩:=b9.last (l:=sA 45 T s 43 hT::sL 46 e 45 hE h0::l) D
   rw[ac.keep (j:=43) (by
    intro q d;simp[hN]at d;obtain rfl|rfl|d:=d
    exact hP (show 43<45 by omega);exact hP (show 43<46 by omega)
    grind),lo 43 (by omega),u]at I
   cases I;rw[ad];refine u3.trans ?_;grind[Abs.nu]
  have H:∀x,x<43->ev C x=ev v x:=λ x p=>D.keep (by
   intro q d;simp[pc,hN,List.mem_append,List.not_mem_nil,or_false]at d;obtain rfl|rfl|d|rfl:=d
   exact hP (show x<45 by omega);exact hP (show x<46 by omega)
   grind
   exact hP p)
  have⟨K,J,L,M,O⟩:=aa (i+1) C (by omega) ae ((H n Z).trans ((lo n (by omega)).trans r)) key (h.q OK hX o)
  refine⟨λ j ag Q=>?_,J,λ x p=>(L x p).trans ((H x p).trans (lo x (by omega))),M,O⟩
  rcases qc i j with Y|ai
  have⟨g,P,af⟩:=K j Y Q;grind;have:j=i:=by omega
  subst this;exact⟨_,λ x p=>lo x (by omega),by grind,U _ _ D S⟩
theorem At.j{id s n T e m z N:Nat}{hT:nK CQ.Q T m=true}{hE}{h0:0<z}{l}(h:At CQ X F R cs hp (b.at a (.code (ae4 id s n T e (l.map Sp.oper))::k)))(w:a.tmps.size=64)(r:ev a n= .int .i64 N)(o:n<43)(q:N<1000000) (u:(l.all λ s=>hU s.dst 64&&hU 43 s.dst)=true) (v:∀g,x5 g 43->Pre hp (sA 45 T s 43 hT::sL 46 e 45 hE h0::l++[sI 43 1]) g) (body:Array dr->(Nat->b2)->Prop) (t:∀g g',b9 hp (sA 45 T s 43 hT::sL 46 e 45 hE h0::l++[sI 43 1]) g g'->g' 52= .bool true->body hp g):(∀j,j<N->∃g,(∀x,x<43->g x=ev a x)/\g 43= .int .i64 j/\body hp g)/\∃a',(∀x,x<43->ev a' x=ev a x)/\a'.tmps.size=64/\At CQ X F R cs hp (b.at a' k):=by
 have c:∀f,CQ.b f=false:=λ _=>rfl;have⟨d,⟨_,rfl,i⟩,y,h⟩:=At.h OK hX [sM 43 (.int .i64 0)] (h.f OK hX c) w rfl ⟨trivial,λ _ _=>trivial⟩;have lo:∀x,x<43->ev d x=ev a x:=λ x G=>by rw[i];exact upd_ne (show x≠43 by omega)
 obtain⟨B,A,C,D,E⟩:=At.m OK hX o q u v body t N 0 d (by omega) y ((lo n o).trans r) (by rw[i];rfl) (by
  have p:(l++[sI 43 1]).map Sp.oper=l.map Sp.oper++[oo 43 (inc 43)]:=by simp[sI,Sp.oper,inc]
  unfold ak6;simp[pc,List.map_cons,p];exact (h.s OK hX c).z OK hX c);grind
end
end
section
open Go.Abs (aX dW)
local instance:Abs.Dr:= ⟨false⟩
theorem XB:pM CQ.Q 138 0 0 2 true=true:=by kernel_rfl
theorem agi:pM CQ.Q 25 0 0 1 false=true:=by kernel_rfl
theorem aeh:pM CQ.Q 25 1 1 1 false=true:=by kernel_rfl
theorem ai1:pM CQ.Q 136 0 0 1 false=true:=by kernel_rfl
theorem aaa:pM CQ.Q 136 1 1 1 false=true:=by kernel_rfl
theorem adQ:pM CQ.Q 149 0 0 6 true=true:=by kernel_rfl
theorem VX:pM CQ.Q 149 1 6 6 true=true:=by kernel_rfl
theorem Di:w8 CQ.Q 168 3=true:=by kernel_rfl
theorem oe:w8 CQ.Q 147 3=true:=by kernel_rfl
theorem Dw:nK CQ.Q 22 2=true:=by kernel_rfl
theorem Da:nK CQ.Q 23 2=true:=by kernel_rfl
theorem BQ:nK CQ.Q 191 12=true:=by kernel_rfl
theorem Yw:oQ CQ.Q 136 2 true=true:=by kernel_rfl
theorem aaA:oQ CQ.Q 168 2 true=true:=by kernel_rfl
theorem ahv:oQ CQ.Q 149 12 true=true:=by kernel_rfl
theorem Wo:oQ CQ.Q 138 2 true=true:=by kernel_rfl
theorem cU9:CQ.Q.underlying 9=some .string:=by kernel_rfl
variable{hp:Array Obj}{g g':Nat->Value}
def o6(hp:Array dr)(t:Abs.Ty)(Φ:t.b->Prop)(v:b2)(i:Nat):=∃ad l c C ty fr x,v= .slice (some ad) l c/\hp[ad.block]?=some (.cells C ty fr)/\(ad.add (i*t.a)).spot=none/\(∀j,j<t.a->C[ad.off+i*t.a+j]?=(aX t x)[j]?)/\Φ x
theorem aki{s T e m z}{hT:nK CQ.Q T m=true}{hE}{h0:0<z}{l}(t:s≠45)(a:b9 hp (sA 45 T s 43 hT::sL 46 e 45 hE h0::l) g g'){i:Nat}(k:g 43= .int .i64 i):∃ad n c C ty fr vs x,g s= .slice (some ad) n c/\hp[ad.block]?=some (.cells C ty fr)/\(ad.add (i*m)).spot=none/\vs.size=z/\(∀j,j<z->C[ad.off+i*m+j]?=vs[j]?)/\b9 hp l (upd (upd g 45 x) 46 (.agg vs)) g':=by have⟨_,⟨u,ad,n,c,b,h,_,_,rfl⟩,_,⟨q,d,vs,C,ty,fr,rfl,o,f,p,v⟩,a⟩:=a;rw[k]at b;cases b;simp only[upd,sA,if_true,Value.pointer.injEq,Option.some.injEq]at d;subst d;rw[k7,(qT _ _).2]at f;refine⟨ad,n,c,C,ty,fr,vs,_,h,f,p,o,λ j r=>?_,a⟩;grind[k7,qT]
def s6(s:Nat):= [0,1,2,3,4,5].flatMap λ k=>[sX 62 147 s k oe,sK 63 62 0]
theorem six{s}(h1:s≠62)(h2:s≠63){l}(a:b9 hp (s6 s++l) g g'):∃z:Nat->Int,(∀k,k<6->oL k 1 false (g s)=some (.int .i64 (z k)))/\∃i,(∀j,j<62->i j=g j)/\b9 hp l i g':=by
 have⟨_,m,_,⟨p,b,_⟩,_,n,_,⟨q,c,_⟩,_,c2,_,⟨r,d,_⟩,_,c3,_,⟨t,e,_⟩,_,c4,_,⟨u,f,_⟩,_,o,_,⟨v,h,_⟩,a⟩:=a;simp[upd,sX,sK,h1,h2,if_true,if_false]at m n c2 c3 c4 o b c d e f h;subst b c d e f h;refine⟨λ k=>[p,q,r,t,u,v].getD k 0,λ k x=>?_,_,λ j w=>?_,a⟩;grind;have A:j≠62:=by omega
 have B:j≠63:=by omega
 simp[upd,sX,sK,A,B]
def bdV:= [sF 62 136 46 0 ai1,sE 63 9 62 cU9,sF 62 136 46 1 aaa,sK 63 62 0,sM 52 (.bool true)]
def bdH:= [sX 48 168 46 0 Di,sK 63 48 0,sX 49 168 46 1 Di,sK 63 49 0,sQ 52 48 49]
def bdL:=sF 53 149 46 0 adQ::sF 54 149 46 1 VX::s6 53++s6 54++[sM 52 (.bool true)]
theorem elV(l:b9 hp (sA 45 22 31 43 Dw::sL 46 136 45 Yw (by decide)::bdV++[sI 43 1]) g g'){i:Nat}(k:g 43= .int .i64 i):o6 hp DW (λ _=>True) (g 31) i:=by
 have⟨ad,n,c,C,ty,fr,vs,_,e,m,o,q,h,_,a,_,⟨r,d⟩,_,b,_,⟨z,f,_⟩,_⟩:=aki (by decide) l k;subst d f;refine⟨ad,n,c,C,ty,fr,(r.data.toList,z),e,m,o,λ j p=>?_,trivial⟩;have:j=0\/j=1:=by grind[Abs.Ty.a]
 obtain rfl|rfl:=this;exact(h 0 (by decide)).trans a;exact(h 1 (by decide)).trans b
theorem elH(p:b9 hp (sA 45 23 32 43 Da::sL 46 168 45 aaA (by decide)::bdH++[sI 43 1]) g g')(h52:g' 52= .bool true){i:Nat}(o:g 43= .int .i64 i):o6 hp CU (λ h=>h.1≠h.2) (g 32) i:=by
 obtain⟨ad,n,c,C,ty,fr,vs,_,e,q,r,t,m,_,a,_,⟨x,d,_⟩,_,b,_,⟨y,f,_⟩,_,⟨u,v,k,l,rfl⟩,_,_,rfl⟩:=aki (by decide) p o;simp[upd,sX,sK,sQ,sI,oL,if_true,if_false,reduceIte,eL,k4]at a b d f k l h52;subst d f;cases k;cases l;refine⟨ad,n,c,C,ty,fr,(x,y),e,q,r,λ j s=>?_,by grind⟩;have:j=0\/j=1:=by grind[Abs.Ty.a]
 obtain rfl|rfl:=this;exact(m 0 (by decide)).trans a;exact(m 1 (by decide)).trans b
theorem elL(a:b9 hp (sA 45 191 1 43 BQ::sL 46 149 45 ahv (by decide)::bdL++[sI 43 1]) g g'){i:Nat}(p:g 43= .int .i64 i):o6 hp dW (λ _=>True) (g 1) i:=by
 have⟨ad,n,c,C,ty,fr,vs,_,e,u,v,y,w,_,b,_,d,a⟩:=aki (by decide) a p;simp[upd,sF,oL,if_true,reduceIte,eL,if_false,Option.some.injEq]at b d;subst b d;have⟨f,o,x,t,a⟩:=six (s:=53) (by decide) (by decide) (l:=s6 54++ ([sM 52 (.bool true)]++[sI 43 1])) a;have⟨h,m,_⟩:=six (s:=54) (by decide) (by decide) a;rw[t 54 (by decide)]at m;simp[upd,sF,if_true,reduceIte,eL,if_false,oL,Array.getElem?_extract,k4]at o m;refine⟨ad,n,c,C,ty,fr,((f 0,f 1,f 2,f 3,f 4,f 5),(h 0,h 1,h 2,h 3,h 4,h 5)),e,u,v,λ j q=>(w j q).trans ?_,trivial⟩;have F:∀k,k<6->vs[k]?=some (.int .i64 (f k)):=λ k r=>by grind
 have H:∀k,k<6->vs[6+k]?=some (.int .i64 (h k)):=λ k r=>by grind
 have:j=0\/j=1\/j=2\/j=3\/j=4\/j=5\/j=6\/j=7\/j=8\/j=9\/j=10\/j=11:=by grind[Abs.Ty.a]
 obtain rfl|rfl|rfl|rfl|rfl|rfl|rfl|rfl|rfl|rfl|rfl|rfl:=this;exact F 0 (by decide);exact F 1 (by decide);exact F 2 (by decide);exact F 3 (by decide);exact F 4 (by decide);exact F 5 (by decide);exact H 0 (by decide);exact H 1 (by decide);exact H 2 (by decide);exact H 3 (by decide);exact H 4 (by decide);exact H 5 (by decide)
def aaw(hp:Array dr)(z:Nat)(a:Option hy)(c:Nat):=c=0\/∃ad C ty fr,a=some ad/\hp[ad.block]?=some (.cells C ty fr)/\ad.spot=none/\ad.off+c*z<=C.size/\c<=hs
structure I2(hp:Array dr)(a:eH)(vV vH l:b2)(j k b:Nat)(num:Int)(cs0:Array b2):Prop where
 m:ev a 0= .agg cs0
 q:cs0[0]?=some vV
 o:cs0[1]?=some vH
 u:ev a 1=l
 g:ev a 2= .int .i64 num
 lV:∃a c,vV= .slice a j c/\j<=c/\aaw hp 2 a c
 lH:∃a c,vH= .slice a k c/\k<=c/\aaw hp 2 a c
 lL:∃a c,l= .slice a b c/\b<=c/\aaw hp 12 a c
 d:0<j/\j<7
 f:k<1000000
 e:0<b/\b<1000000
 c:cs0.size=2
 p:∀i,i<j->o6 hp DW (λ _=>True) vV i
 h:∀i,i<k->o6 hp CU (λ h=>h.1≠h.2) vH i
 n:∀i,i<b->o6 hp dW (λ _=>True) l i
section
variable[aW]{X:cS}{F:Nat->Bool}{R:Frame->World->Prop}
variable{cs:List Frame}{b:Frame}{a:Go.Act}{k:List Item}
variable(OK:CQ.a)(hX:X.b)
include OK hX
theorem XV(h:At CQ X F R cs hp (b.at a (.code Pd::k)))(g:a.tmps.size=64){cs0}(p:ev a 0= .agg cs0):cs0.size=2:=by
 have c:∀f,CQ.b f=false:=λ _=>rfl;have h:=h.e OK hX c;have h:At CQ X F R cs hp (b.at a (.inRegion _ [0,1]::_)):=h;have⟨_,i,d,m⟩:=EG Wo;obtain⟨y,w2,⟨ad,rfl⟩,h⟩:=h.M OK hX c (o:=oo 59 (.alloc 138)) (Ψ:=λ y _=>∃ad,y=gw (.pointer (some ad))) rfl (λ _=>rfl) λ w q=>by
  have g:(zeroValue 138).run CQ.Q w=match i.zero with|some z=> .ok z w|none=> .halt (.unsupported (.resourceLimit "a value of more than 2^22 cells")) w:=by unfold zeroValue;rw[dk,Ll d];simp[kV];cases i.zero<;>rfl
  show(∃y w2,(lB _ _ _>>=λ v=>eQ _).run _ w= .ok y _/\_)\/∃y u,(lB _ _ _>>=λ v=>eQ _).run _ w= .halt y u/\_;unfold lB;rw[dk,dk,g];cases i.zero with
  |none=>exact .inr ⟨_,_,rfl,rfl⟩|some z=>exact .inl ⟨_,_,rfl,_,rfl⟩
 refine Decidable.byContradiction λ n=>?_;have e:59<a.tmps.size:=by omega
 have j:(a.put (some 59) (.pointer (some ad))).eval (.tmp 59)= .pointer (some ad):=congrFun (acM (x:= .pointer (some ad)) e) 59;have l:(a.put (some 59) (.pointer (some ad))).eval (.tmp 0)= .agg cs0:=(congrFun (acM (x:= .pointer (some ad)) e) 0).trans p;have⟨_,_,f,_⟩:=(h _ rfl).M OK hX c (o:= ⟨none,.store 138 (.tmp 59) (.tmp 0),0,"x",#[],none⟩) (Ψ:=λ _ _=>False) rfl (λ _=>rfl) λ w q=> .inr ⟨.stuck "storeVar: the value has not the size of the variable",w,by
  show(do lf _ ((a.put (some 59) _).eval _) ((a.put (some 59) _).eval _);eQ _:fb _).run _ w=_;have r:(lf 138 (.pointer (some ad)) (.agg cs0)).run CQ.Q w= .halt (.stuck "storeVar: the value has not the size of the variable") w:=by unfold lf Instr.sureAddr storeVar;rw[dk];show Result.andThen (.ok _ w) _=_;simp only[kV];rw[dk,vK d];simp only[kV,m];rw[if_pos (show(Value.agg _).cells.size≠2 from n)];rfl
  simp_all,rfl⟩;exact f
theorem At.c{id T e s z}(hT:nK CQ.Q T z=true)(hE:oQ CQ.Q e z true=true)(h0:0<z)(al:s<59)(h:At CQ X F R cs hp (b.at a (.code (aaE id T e s)::k)))(aa:a.tmps.size=64):∃G l c,ev a s= .slice G l c/\aaw hp z G c/\∃a',(∀j,j<59->ev a' j=ev a j)/\a'.tmps.size=64/\At CQ X F R cs hp (b.at a' k):=by
 have y:∀f,CQ.b f=false:=λ _=>rfl;have⟨r,⟨_,⟨aH,l,c,K,rfl⟩,_,⟨n,U,l',c',I,v,_,_,rfl⟩,_,⟨m,J,rfl⟩,_,⟨m',g,rfl⟩,o⟩,S,h⟩:=At.h OK hX [sC 59 T s hT,sS 60 T s 59 hT,sK 61 59 1,sK 62 59 9223372036854775808] (h.f OK hX y) aa rfl ⟨trivial,λ x⟨_,_,c,_,e⟩=> ⟨⟨c,e⟩,λ _ _=> ⟨trivial,λ _ _=> ⟨trivial,λ _ _=>trivial⟩⟩⟩⟩;have o:ev r=_:=o;have v:ev a s= .slice U l' c':=(upd_ne (d:=59) (show s≠59 by omega)).symm.trans v;simp only[upd,sC,sS,sK,if_true,if_false,reduceIte,eL]at I J g o;rw[K]at v;cases v;cases I;cases J;cases g;have lo:∀j,j<59->ev r j=ev a j:=λ j Y=>by rw[o,upd_ne (by omega),upd_ne (by omega),upd_ne (by omega),upd_ne (by omega)]
 refine⟨aH,l,c,K,?_⟩;have⟨A,h⟩:=(h.f OK hX y).must OK hX;rw[o,u3]at A;have A:=of_decide_eq_true (n2 A);have⟨t,g,h⟩:=h.l OK hX y;have g:ev r 61= .bool t:=g;rw[o,upd_ne (by omega),u3]at g;have g:=n2 g;cases t with
 |true=>have:=of_decide_eq_true g;exact⟨.inl (by omega),r,lo,S,h.o OK hX y⟩|false=>
  have ak:=of_decide_eq_false g;have E:ev r 59= .int .i64 c:=by rw[o,upd_ne (by omega),upd_ne (by omega),upd_ne (by omega),u3]
  obtain⟨H,⟨_,rfl,_,⟨am,ae,l0,ah,N,q,_,_,rfl⟩,aq,⟨af,O,_,_,_,_,_,_,_,aj,_⟩,_,⟨m,B,rfl⟩,_,⟨i,ad,an,c2,L,p,_,_,rfl⟩,u,⟨ag,M,vs,C,ty,fr,rfl,ao,D,ab,P⟩,w⟩,ac,h⟩:=At.h OK hX [sM 63 (.int .i64 0),sA 61 T 60 63 hT,sL 62 e 61 hE h0,sI 59 (-1),sA 61 T 60 59 hT,sL 62 e 61 hE h0] h S rfl
   ⟨trivial,λ x e=> ⟨⟨0,e⟩,λ x⟨_,_,_,_,_,_,_,_,e⟩=> ⟨⟨_,e⟩,λ _ _=> ⟨⟨_,E⟩,λ x⟨_,_,e⟩=> ⟨⟨_,e⟩,λ x⟨_,_,_,_,_,_,_,_,e⟩=> ⟨⟨_,e⟩,λ _ _=>trivial⟩⟩⟩⟩⟩⟩;have w:ev H=_:=w;simp[upd,sI,sA,sL,sM,if_true,if_false,reduceIte,eL]at L p M N q O B w;rw[E]at B;cases B;cases L;cases N;rw[o,upd_ne (by omega),upd_ne (by omega),u3,if_neg (by omega)]at p q;cases M;cases O;have W:(IntKind.i64.wrap ((c:Int)+ -1)).toNat=c-1:=by rw[Abs.nu (by omega) (by omega)];omega
  rw[W]at D ab P;cases aH with|none=>simp at p|some aH=>
   simp only[pH,Value.slice.injEq,Option.some.injEq]at p q;have⟨p,_⟩:=p;have⟨q,_⟩:=q;have V:aH.add (0*z)=aH:=by simp[l7]
   rw[V]at p q;subst p q;have Z:aH.spot=none:=by grind
   rw[(qT _ _).2]at D;have Q:=P (z-1) (by omega);rw[show vs[z-1]?=some (vs[z-1]'(by omega))from fu (by omega),(qT _ _).1]at Q;have ap:=(fl.1 Q).1;have ai:c*z=(c-1)*z+z:=by
    conv=>lhs;rw[show c=(c-1)+1 by omega]
    grind
   refine⟨.inr ⟨aH,C,ty,fr,rfl,D,Z,by omega,by unfold hs;omega⟩,H,λ j Y=>?_,ac,h⟩;rw[w,upd_ne (by omega),upd_ne (by omega),upd_ne (by omega),upd_ne (by omega),upd_ne (by omega),upd_ne (by omega)];grind
theorem adl(h:At CQ X F R cs hp (b.at a (.code qC::k)))(aB:a.tmps.size=64):∃ai vH aJ C A B num cs0,I2 hp a ai vH aJ C A B num cs0:=by
 have c:∀f,CQ.b f=false:=λ _=>rfl;have⟨am,⟨p,u,ai,t,vH,s,r⟩,aK,h⟩:=At.h OK hX [sF 30 138 0 0 XB,sF 31 25 30 0 agi,sF 32 25 30 1 aeh] ((h.f OK hX c).f OK hX c) aB rfl ⟨trivial,λ _ _=> ⟨trivial,λ _ _=> ⟨trivial,λ _ _=>trivial⟩⟩⟩;have r:ev am=_:=r;simp[upd,sF,if_true,if_false,reduceIte,eL]at u t s r;have⟨al,C,ap,U,au,a5,W,aM,h⟩:=At.c OK hX Dw Yw (by decide) (by decide) (h.f OK hX c) aK;have⟨aH,A,an,T,aq,a6,aC,aN,h⟩:=At.c OK hX Da aaA (by decide) (by decide) (h.f OK hX c) aM;have⟨ak,B,ao,E,ar,aj,aD,aO,h⟩:=At.c OK hX BQ ahv (by decide) (by decide) h aN;rw[W 32 (by decide),r,u3]at T;rw[r,upd_ne (by decide),u3]at U;have G:∀j,j<30->ev aj j=ev a j:=λ j V=>by rw[aD j (by omega),aC j (by omega),W j (by omega),r,upd_ne (by omega),upd_ne (by omega),upd_ne (by omega)]
 have E:ev a 1= .slice ak B ao:=by grind
 subst U T;have h:=((h.f OK hX c).f OK hX c).f OK hX c;obtain⟨P,⟨p',K,bi,M,bh,L,_,⟨aZ,bd,a9,rfl,rfl⟩,_,⟨aX,bb,a7,rfl,rfl⟩,_,⟨aY,bc,a8,I,rfl⟩,_,⟨num,D,_⟩,_,⟨_,m1,rfl⟩,_,⟨_,m2,rfl⟩,_,⟨_,Z,rfl⟩,_,⟨_,aa,rfl⟩,_,⟨_,ab,rfl⟩,_,⟨_,_,_,_,ac,ad,_,be,_⟩,_,⟨_,_,_,_,ae,af,_,bf,_⟩,_,⟨_,_,_,_,ag,O,_,bg,_⟩,o⟩,aP,h⟩:=At.h OK hX [sF 30 138 0 0 XB,sF 31 25 30 0 agi,sF 32 25 30 1 aeh,sN 33 22 31 Dw,sN 34 23 32 Da,sN 35 191 1 BQ,sK 36 2 0,sK 37 33 7,sK 38 33 1,sK 39 34 1000000,sK 41 35 1000000,sK 42 35 1,sS 56 22 31 33 Dw,sS 57 23 32 34 Da,sS 58 191 1 35 BQ] h aO rfl
  ⟨trivial,λ _ _=> ⟨trivial,λ _ _=> ⟨trivial,λ _ _=> ⟨trivial,λ _⟨_,_,_,_,aw⟩=> ⟨trivial,λ _⟨_,_,_,_,ax⟩=> ⟨trivial,λ _⟨_,_,_,_,ay⟩=> ⟨trivial,λ _ _=> ⟨trivial,λ _ _=> ⟨trivial,λ _ _=> ⟨trivial,λ _ _=> ⟨trivial,λ _ _=> ⟨trivial,λ _ _=> ⟨⟨_,aw⟩,λ _ _=> ⟨⟨_,ax⟩,λ _ _=> ⟨⟨_,ay⟩,λ _ _=>trivial⟩⟩⟩⟩⟩⟩⟩⟩⟩⟩⟩⟩⟩⟩⟩;simp[upd,sF,sN,sK,sS,if_true,if_false,reduceIte,eL]at K M L I D m1 m2 Z aa ab ac ad ae af ag O o;have o:ev P=_:=o;cases m1;cases m2;cases Z;cases aa;cases ab;cases ac;cases ad;cases ae;cases af;cases ag;rw[G 1 (by decide),E]at O I;cases O;cases I;rw[G 0 (by decide),u]at K;cases K;rw[s]at L;cases L;rw[t]at M;cases M;have⟨Q,h⟩:=(h.f OK hX c).must OK hX;have⟨c2,h⟩:=(h.f OK hX c).i OK hX;have⟨c3,h⟩:=(h.f OK hX c).must OK hX;have⟨c4,h⟩:=(h.f OK hX c).must OK hX;have⟨S,h⟩:=h.i OK hX;rw[o]at Q c2 c3 c4 S;simp[upd]at Q c2 c3 c4 S;have aE:∀j,j<30->ev P j=ev a j:=λ j V=>by
  rw[<-G j V,o];iterate 15 rw[upd_ne (by omega)]
 have⟨aI,aT,H,aQ,h⟩:=At.j OK hX (l:=bdV) (hT:=Dw) (hE:=Yw) (h0:=by decide) (N:=C) (h.f OK hX c) aP (by rw[o];rfl) (by decide) (by omega) rfl (λ g q=> ⟨q,λ x⟨_,_,_,_,_,_,_,_,e⟩=> ⟨⟨_,e⟩,λ _ _=> ⟨trivial,λ _ _=> ⟨trivial,λ _ _=> ⟨trivial,λ _ _=> ⟨trivial,λ _ _=> ⟨trivial,λ _ _=> ⟨q,λ _ _=>trivial⟩⟩⟩⟩⟩⟩⟩⟩) (λ hp g=>∀i:Nat,g 43= .int .i64 i->o6 hp DW (λ _=>True) (g 31) i) λ g g' z _ i d=>elV z d;have⟨aF,aU,Y,aR,h⟩:=At.j OK hX (l:=bdH) (hT:=Da) (hE:=aaA) (h0:=by decide) (N:=A) (h.f OK hX c) aQ (by rw[H _ (by decide),o];rfl) (by decide) (by omega) rfl (λ g q=> ⟨q,λ x⟨_,_,_,_,_,_,_,_,e⟩=> ⟨⟨_,e⟩,λ _ _=> ⟨trivial,λ _ _=> ⟨trivial,λ _⟨m,av,_⟩=> ⟨trivial,λ _ _=> ⟨trivial,λ _⟨n,D,_⟩=> ⟨⟨⟨m,av⟩,n,D⟩,λ _ _=> ⟨q,λ _ _=>trivial⟩⟩⟩⟩⟩⟩⟩⟩) (λ hp g=>∀i:Nat,g 43= .int .i64 i->o6 hp CU (λ h=>h.1≠h.2) (g 32) i) λ g g' z az i d=>elH z az d;have⟨aG,aW,ba,aS,h⟩:=At.j OK hX (l:=bdL) (hT:=BQ) (hE:=ahv) (h0:=by decide) (N:=B) (h.f OK hX c) aR (by rw[Y _ (by decide),H _ (by decide),o];rfl) (by decide) (by omega) rfl (λ g q=>by
  refine⟨q,λ x⟨_,_,_,_,_,_,_,_,e⟩=> ⟨⟨_,e⟩,λ _ _=>?_⟩⟩;iterate 27 refine⟨trivial,λ _ _=>?_⟩
  exact⟨q,λ _ _=>trivial⟩) (λ hp g=>∀i:Nat,g 43= .int .i64 i->o6 hp dW (λ _=>True) (g 1) i) λ g g' z _ i d=>elL z d
 cases J:ev a 0 with
 |agg cs0=>
  rw[J]at u;cases u;have ah:=XV OK hX (h.f OK hX c) aS (cs0:=cs0) (by grind);have aA:cs0.extract 0 2=cs0:=by rw[<-ah];simp
  have t:(cs0.extract 0 2)[0]?=some (.slice al C ap):=t;have s:(cs0.extract 0 2)[1]?=some (.slice aH A an):=s;rw[aA]at t s;exact⟨_,_,_,C,A,B,num,cs0,J,t,s,E,(G 2 (by decide)).symm.trans D,⟨_,_,rfl,by omega,au⟩,⟨_,_,rfl,by omega,aq⟩,⟨_,_,rfl,by omega,ar⟩,by omega,by omega,by omega,ah,
   λ i d=>let⟨g,v,w,y⟩:=aI i d;by have:=y i w;rw[v 31 (by decide),o]at this;exact this,
   λ i d=>let⟨g,v,w,y⟩:=aF i d;by have:=y i w;rw[v 32 (by decide),H 32 (by decide),o]at this;exact this,
   λ i d=>let⟨g,v,w,y⟩:=aG i d;by have:=y i w;rw[v 1 (by decide),Y 1 (by decide),H 1 (by decide),aE 1 (by decide),E]at this;exact this⟩
 |_=>rw[J]at u;cases u
end
end
section
local instance:Abs.Dr:= ⟨false⟩
open Go.Abs (aX dW iT)
variable{a:Go.Act}{w:World}
theorem fw{L d ty o i l x s Post}(f:L[i]?=some (oo d o ty))(c:eg a.eval (oo d o ty)=s>>=λ v=>eQ (gw v))(b:s.run CM.Q w= .ok x w)(g:a.tmps.size=64)(e:d<64) (h:∀a',a'.tmps.size=64->a'.defers=a.defers->ev a'=upd (ev a) d x->ht CM.Q ⟨L⟩ Post l a' w):ht CM.Q ⟨L⟩ Post (i::l) a w:=by rw[l4];unfold wpOp;rw[show(⟨L⟩:Array _)[i]?=some (oo d o ty)by grind];refine .inl ?_;unfold l9;rw[c,dk,b];show(oo d o _).upon _ _ _ _ (qi _ w);grind[hY,ep,oo,acM]
section
variable{T e s z id:Nat}(hT:nK CM.Q T z=true)
include hT
theorem aoF(x)(n c ty:Nat):(hJ #[T] ty #[.slice x n c]).run CM.Q w= .ok (.int .i64 c) w:=by unfold nK at hT;split at hT;all_goals simp_all[hJ,dk,rC,goInt]
theorem anR(x)(n c):(hF T (.slice x n c) none (some (.int .i64 c)) none).run CM.Q w= .ok (.slice x c c) w:=by
 unfold nK at hT;split at hT
 ·rename_i t a;split at hT;all_goals simp_all[hF,Instr.slice,Instr.sliceBounds,Instr.sliceBound,asIntOf,dk,rC,vK,l7]
 trivial
theorem al0(ad)(n c:Nat)(i:Int)(h0:0<=i)(h1:i<n):(gl T (.slice (some ad) n c) (.int .i64 i)).run CM.Q w= .ok (.pointer (some (ad.add (i.toNat*z)))) w:=by unfold nK at hT;split at hT;rename_i t a;split at hT;rename_i j b;simp_all[gl,asIntOf,dk,rC,vK];trivial;trivial
theorem akT{t}{l:List t.b}{ok y}(hE:Abs.je CM.Q e y)(P:y.a=t)(Q:t.a=z)(h0:0<z)(am:Abs.u8T t=false)(al:s<59)(R:a.tmps.size=64)(L:Abs.aw CM.Q (.aH t) w ok [ev a s] l):(aaE id T e s).wp CM.Q (λ ex a' w'=>ex= .normal/\w'=w/\a'.tmps.size=64/\a'.defers=a.defers/\∀j,j<59->ev a' j=ev a j) a w:=by
 have⟨x,c,q,aj,K⟩:=L;have q:ev a s= .slice x l.length c:=by grind
 have ak:(c:Int)<9223372036854775808:=by
  grind[hs]
 refine et (j2 ?_);refine fw (s:=hJ #[T] 3 ((#[jc s]).map a.eval)) (x:= .int .i64 c) rfl rfl (by rw[ak7,show a.eval _=_ from q];grind[aoF]) R (by decide) λ h ac d1 k1=>?_;refine fw (s:=hF T (h.eval (.tmp s)) none (some (h.eval (.tmp 59))) none) (x:= .slice x c c) rfl rfl (by
  rw[show h.eval _=_ from (congrFun k1 s).trans ((upd_ne (by omega)).trans q),show h.eval _= .int _ c from congrFun k1 59];exact anR hT x _ c) ac (by decide) λ o ae d2 g=>?_;refine fw (s:=do eo .lss 3 (.tmp 59) (.const (.int .i64 1)) (o.eval (.tmp 59)) (.int .i64 1);en .lss 3 (o.eval (.tmp 59)) (.int .i64 1)) (x:= .bool ((c:Int)<1)) rfl rfl (by
  rw[show o.eval _= .int _ c from (congrFun g 59).trans (congrFun k1 _)];rfl) ae (by decide) λ p af d3 d=>?_;refine fw (s:=do eo .lss 3 (.tmp 59) (.const (.int .i64 9223372036854775808)) (p.eval (.tmp 59)) (.int .i64 9223372036854775808);en .lss 3 (p.eval (.tmp 59)) (.int .i64 9223372036854775808)) (x:= .bool ((c:Int)<9223372036854775808)) rfl rfl (by
  rw[show p.eval _= .int _ c from (congrFun d 59).trans ((congrFun g _).trans (congrFun k1 _))];rfl) af (by decide) λ k ag d4 f=>?_;have lo:∀j,j<59->ev k j=ev a j:=λ j O=>by rw[f,d,g,k1,upd_ne (by omega),upd_ne (by omega),upd_ne (by omega),upd_ne (by omega)]
 refine et (kp (t:=true) ((congrFun f _).trans (congrArg p7 (by grind))) (wp_skip ?_));have dd:k.defers=a.defers:=d4.trans (d3.trans (d2.trans d1));have A:ev k 60= .slice x c c:=(congrFun f 60).trans ((congrFun d 60).trans (congrFun g 60));obtain rfl| ⟨b,off,cs,U,fr,rfl,_,J,ai,_,_⟩:=K;refine kp (t:=true) ((congrFun f _).trans (congrFun d _)) (wp_skip (by grind));by_cases M:c=0;subst M;refine kp (t:=true) ((congrFun f _).trans (congrFun d _)) (wp_skip (by grind));refine kp (t:=false) ((congrFun f _).trans ((congrFun d _).trans (congrArg p7 (by grind)))) (j2 ?_);have E:∀ad,(∃i,i<c/\ad=(⟨b,off,none⟩:hy).add (i*z))->∃v,(hL e (.pointer (some ad))).run CM.Q w= .ok v w:=λ ad⟨i,N,e⟩=>by
  subst e;rw[Abs.qf];exact⟨_,Abs.acy hE J (by subst P Q;have:=nv y.a.a (show i+1<=c from N);grind)⟩
 have⟨v0,l0⟩:=E _ ⟨0,by omega,rfl⟩;have⟨v1,S⟩:=E _ ⟨c-1,by omega,rfl⟩;refine fw (s:=eQ (.int .i64 0)) (x:= .int .i64 0) rfl rfl rfl ag (by decide) λ m W d1 m1=>?_;refine fw (s:=gl T (m.eval (.tmp 60)) (m.eval (.tmp 63))) (x:= .pointer (some ((⟨b,off,none⟩:hy).add (0*z)))) rfl rfl (by
  rw[show m.eval _=_ from (congrFun m1 60).trans A,show m.eval _= .int _ 0 from congrFun m1 63];exact al0 hT _ c c 0 (by omega) (by omega)) W (by decide) λ B X d2 m2=>?_;refine fw (s:=hL e (B.eval (.tmp 61))) (x:=v0) rfl rfl (by rw[show B.eval _=_ from congrFun m2 61];exact l0) X (by decide) λ C Y d3 r=>?_;refine fw (s:=sB .add 59 C (.const (.int .i64 (-1)))) (x:= .int .i64 (c-1:Nat)) rfl rfl (by
  unfold sB;rw[show C.eval _= .int _ c from (congrFun r 59).trans ((congrFun m2 _).trans ((congrFun m1 _).trans ((congrFun f 59).trans ((congrFun d 59).trans ((congrFun g 59).trans (congrFun k1 59))))))];show qi _ w=_;grind[Abs.nu]) Y (by decide) λ n Z d4 u=>?_;refine fw (s:=gl T (n.eval (.tmp 60)) (n.eval (.tmp 59))) (x:= .pointer (some ((⟨b,off,none⟩:hy).add ((c-1)*z)))) rfl rfl (by
  rw[show n.eval _= .slice _ c c from (congrFun u 60).trans ((congrFun r _).trans ((congrFun m2 _).trans ((congrFun m1 _).trans A))),show n.eval _= .int _ _ from congrFun u 59];exact al0 hT _ c c _ (by omega) (by omega)) Z (by decide) λ D aa H F=>?_;refine fw (s:=hL e (D.eval (.tmp 61))) (x:=v1) rfl rfl (by rw[show D.eval _=_ from congrFun F 61];exact S) aa (by decide) λ ah ab I V=> ⟨rfl,rfl,ab,I.trans (H.trans (d4.trans (d3.trans (d2.trans (d1.trans dd))))),λ j O=>?_⟩;rw[V,F,u,r,m2,m1,upd_ne (by omega),upd_ne (by omega),upd_ne (by omega),upd_ne (by omega),upd_ne (by omega),upd_ne (by omega)];grind
end
theorem alR{vs ok}{g:Abs.eU}{z:List Abs.bS}{num:Int}(L:Abs.fe CM.Q w ok Abs.wM vs (g,z,num))(M:a.tmps.size=64)(r:∀i,i<3->a.tmps[i]?=vs[i]?):amc.wp CM.Q (λ ex a' w'=>ex= .normal/\w'=w/\a'.tmps.size=64/\a'.defers=a.defers/\∀j,j<3->a'.tmps[j]?=a.tmps[j]?) a w:=by
 have hE:=Abs.N.vX FM 0;obtain⟨ps,_,rfl,H,Q,_,rfl,I,_,rfl,_⟩:=L;have⟨K,J⟩:=H;have u:∀j v,a.tmps[j]?=some v->ev a j=v:=λ j v h=>by show a.tmps.getD j _=v;simp_all
 obtain⟨b,vH,rfl⟩:∃b vH,ps= [b,vH]:=by
  have⟨x,c,e,_⟩:=K;have⟨y,d,A,_⟩:=J
  match ps,e,A with| [p,q],_,_=>simp
 obtain⟨k,rfl⟩:∃k,Q= [k]:=by have⟨x,c,e,_⟩:=I;grind
 have ad:ev a 1=k:=u 1 _ (r 1 (by decide));have⟨ah,U,P⟩:=hE.b (T:=136) (t:=DW) rfl;have⟨af,R,N⟩:=hE.b (T:=168) (t:=CU) rfl;have⟨ag,S,O⟩:=hE.b (T:=149) (t:=dW) rfl;refine et (j2 ?_);refine fw (s:=hM 138 (a.eval (.tmp 0)) 0) (x:= .agg #[b,vH]) rfl rfl (by rw[show a.eval _=_ from (u 0 _ (r 0 (by decide)))];rfl) M (by decide) λ m Y d1 m1=>?_;refine fw (s:=hM 25 (m.eval (.tmp 30)) 0) (x:=b) rfl rfl (by rw[show m.eval _=_ from congrFun m1 30];rfl) Y (by decide) λ n Z d2 m2=>?_;refine fw (s:=hM 25 (n.eval (.tmp 30)) 1) (x:=vH) rfl rfl (by rw[show n.eval _= .agg _ from(congrFun m2 30).trans (congrFun m1 _)];rfl) Z (by decide) λ ab aa d3 f=>?_;refine et (fR (akT (t:=DW) rfl P U rfl (by decide) rfl (by decide) aa (l:=g.1) (ok:=ok) (by rw[show ev _ _=b from(congrFun f 31).trans (congrFun m2 _)];trivial)) ?_);rintro ex ac w1⟨rfl,rfl,V,C,o⟩;refine et (fR (akT (t:=CU) rfl N R rfl (by decide) rfl (by decide) V (l:=g.2) (ok:=ok) (by rw[o _ (by decide),show ev _ _=vH from congrFun f _];trivial)) ?_);rintro ex c2 w2⟨rfl,rfl,W,D,F⟩;refine fR (akT (t:=dW) rfl O S rfl (by decide) rfl (by decide) W (l:=z) (ok:=ok) (by simp_all[upd_ne])) ?_;rintro ex c3 w3⟨rfl,rfl,X,E,G⟩;refine⟨rfl,rfl,X,E.trans (D.trans (C.trans (d3.trans (d2.trans d1)))),λ j ae=>?_⟩;have:ev c3 j=ev a j:=by rw[G j (by omega),F j (by omega),o j (by omega),f,m2,m1,upd_ne (by omega),upd_ne (by omega),upd_ne (by omega)]
 have this:c3.tmps.getD j df=a.tmps.getD j undef:=this;simpa[show j<c3.tmps.size by omega,show j<a.tmps.size by omega]using this
end
section
variable[aW]{X:cS}{F:Nat->Bool}{R:Frame->World->Prop}{β:ah}
variable{xs:Array Value}{k:ajL}{c c':Frame}
theorem J1(c):cK CQ.Q CQ.P CQ.n c=cK CM.Q CM.P CM.n c:=((jG c).trans (oY c)).trans (jG c).symm
theorem aab(o):dV CQ.Q CQ.P CQ.n o=dV CM.Q CM.P CM.n o:=((GV o).trans (M8 o)).trans (GV o).symm
theorem agZ{x y}(h:IR CM β x y):IR CQ β x y:=by
 cases x<;>cases y<;>try exact h.elim
 case code.code c c'=>have h:c=c'/\cK CM.Q CM.P CM.n c=true:=h;show c=c'/\cK _ _ _ c=true;rw[J1];exact h
 case inBlock.inBlock i b=>trivial
 case inScope.inScope i b=>trivial
 case inLoop.inLoop c c'=>have h:c=c'/\cK CM.Q CM.P CM.n c=true:=h;show c=c'/\cK _ _ _ c=true;rw[J1];exact h
 case inRegion.inRegion o l a l'=>have h:o=a/\l=l'/\(o.all λ o=>dV CM.Q CM.P CM.n o.op)=true:=h;show o=a/\l=l'/\(o.all _)=true;grind[aab]
 all_goals trivial
theorem aau{c d l m}(h:TL CM β c d l m):TL CQ β c d l m:=
 let⟨a,b,e,f,g,j⟩:=h; ⟨a,b,e,f,g,λ i u v k n=>agZ (j i u v k n)⟩
theorem PQ{b c dl a fr fr'}(h:GF CM β b c dl a fr fr'):GF CQ β b c dl a fr fr':= ⟨h.h,h.b,aau h.g,h.a,h.f,h.e,h.c⟩
theorem UP{fr fr' cs cs'}(h:GS CM X β fr cs fr' cs'):GS CQ X β fr cs fr' cs':=by induction h with|jE g c=>exact .jE (PQ g) c|up g a hp _ d=>refine .up (PQ g) ⟨a.1,λ e=>?_,a.2.2⟩ hp d;have⟨fn,b,f⟩:=a.2.1 e;exact⟨_,b,b⟩
structure G7(X:cS)(k:ajL)(xs ys:Array b2)(c:ee)(cs0:List ee)(c':ee)(j:List ee):Prop where
 g:k.a=bk CM.Q 147 xs .normal
 i:k.c=bk CM.P 147 ys .normal
 e:k.b=c::cs0
 h:k.d=c'::j
 f:xs.size=3
 d:AV k.f xs ys
 b:na c.todo=true
 a:GS CM X k.f c cs0 c' j
theorem aeN(h:uC CM X k.f k.a k.b k.c k.d):∃xs ys c cs0 c' a,G7 X k xs ys c cs0 c' a:=by have⟨f,xs,ys,c,cs0,c',a,b,e,g,i,j,l,p,m,n,d⟩:=h;have o:f=147:=fx j;subst o;exact⟨_,_,c,_,_,_,b,e,g,i,l rfl,m,n,d⟩
theorem C0:(bk CM.Q 147 xs .normal).tmps=xs++ef (64- xs.size) undef:=by have e:CM.Q.funcs[147]?=some kh:=qa;simp[bk,e];rfl
theorem Et:(bk CM.Q 147 xs .normal).todo= [.code qC]:=by have e:CM.Q.funcs[147]?=some kh:=qa;simp[bk,e];rfl
theorem RX{ys cs0 a}(h:G7 X k xs ys c cs0 c' a)(e:cw F k.f k.v k.w)(d:Hd k.v)(b:iJ CM.Q X R k.D k.h k.a k.b k.v):tQ CQ X F R {k with c:=bk CM.Q 147 ys .normal}:=by refine⟨?_,e,d,b⟩;rw[h.g,h.e,h.h];refine .up ⟨rfl,?_,?_,⟨[],[],rfl,rfl,trivial,by simp⟩,trivial,rfl,trivial⟩ ⟨rfl,λ _=> ⟨_,qa,qa⟩,absurd rfl⟩ h.b (UP h.a);rw[C0,C0,h.d.1];exact h.d.b (AV.f _ (VR.c _));rw[Et,Et];exact TL.c.a (x:= .code _) (y:= .code _) ⟨rfl,(J1 _).trans ((jG _).trans Ko)⟩
theorem YS:∀f,CQ.b f=false:=λ _=>rfl
theorem Xh(b:CQ.a)(a:X.b){ys cs0 d}(h:G7 X k xs ys c cs0 c' d)(q:cw F k.f k.v k.w)(o:Hd k.v)(m:iJ CM.Q X R k.D k.h k.a k.b k.v):∃v vH u t r s num f,I2 k.v.heap ⟨xs++ef (64- xs.size) df,[]⟩ v vH u t r s num f:=by
 have n:k.b≠X.c:=by rw[a.a,h.e];intro e;have j:=h.a.c;rw[a.a]at j;grind
 have l:At CQ X F R k.b k.v.heap ((bk CM.Q 147 xs .normal).at ⟨xs++ef (64- xs.size) df,[]⟩ [.code qC]):=by refine⟨⟨_,RX h q o m,?_,rfl,rfl⟩,n⟩;rw[h.g];rw[<-(C0 (xs:=xs)),<-(Et (xs:=xs))];rfl
 exact adl b a l (by have:=h.f;grind)
end
section
local instance:Abs.Dr:= ⟨false⟩
open Go.Abs (bS bA eU dW bq iT aX)
variable{hp:Array Obj}
theorem akN{v a c t Φ}(r:t.h=true){n}(w:v= .slice a n c)(F:n<=c)(q:aaw hp t.a a c)(h:∀i,i<n->o6 hp t Φ v i):∃l,l.length=n/\mH hp (λ _=>True) v t l/\∀x∈l,Φ x:=by
 subst w
 classical
 obtain rfl| ⟨ad,C,ty,fr,rfl,k,g,m,p⟩:=q;exact⟨[],by grind,⟨a,0,by grind,ej _,.inl rfl⟩,by simp⟩;have d:∀i:Fin n,∃x,(∀j,j<t.a->C[ad.off+i.val*t.a+j]?=(aX t x)[j]?)/\Φ x:=λ i=>by have⟨_,_,_,_,_,_,x,e,z,_,A,B⟩:=h i.val i.isLt;grind
 have⟨f,D⟩:=Classical.axiomOfChoice d;have len:∀y,(aX t y).length=t.a:=λ y=>Abs.mz t r y;have⟨b,o,s⟩:=ad;have g:s=none:=g;subst g;refine⟨List.ofFn f,by simp,⟨_,c,by simp,by grind,.inr ⟨b,o,rfl,trivial,C,ty,fr,k,m,p,λ i x E=>?_⟩⟩,λ x d=>?_⟩;have u:i<n:=by grind
 have d:x=f ⟨i,u⟩:=by grind
 subst d;refine k8 λ j=>?_;grind[Abs.aS,qc,ng];grind
structure xZ(hp:Array dr)(k:Nat->Prop)(xs:Array b2)(j:eU)(m:List bS)(num:Int)(vV vH n:b2):Prop where
 l:xs.size=3
 b:xs[0]?=some (.agg #[vV,vH])
 a:xs[1]?=some n
 e:xs[2]?=some (.int .i64 num)
 f:mH hp k vV DW j.1
 g:mH hp k vH CU j.2
 sL:mH hp k n dW m
 d:0<j.1.length/\j.1.length<7
 c:j.2.length<1000000
 i:0<m.length/\m.length<1000000
 ends:∀h∈j.2,h.1≠h.2
theorem Ud{xs}(e:xs.size=3){vV vH a v s u num cs0} (h:I2 hp ⟨xs++ef (64- xs.size) df,[]⟩ vV vH a v s u num cs0):∃w n,xZ hp (λ _=>True) xs w n num vV vH a:=by
 have ev:∀i,i<3->xs[i]?=some (ev ⟨xs++ef (64- xs.size) df,[]⟩ i):=λ i I=>by show _=some ((xs++ef _ _).getD i _);simp_all[hz,kH,fu]
 have⟨D,G,d,j,B⟩:=h.lV;have⟨C,F,c,g,A⟩:=h.lL;have⟨aH,E,b,f,z⟩:=h.lH;have⟨lV,k,m,_⟩:=akN (t:=DW) rfl d j B h.p;have⟨lL,q,r,_⟩:=akN (t:=dW) rfl c g A h.n;have⟨lH,m1,o,p⟩:=akN (t:=CU) rfl b f z h.h;refine⟨(lV,lH),_,e,?_,(ev 1 (by decide)).trans (congrArg _ h.u),(ev 2 (by decide)).trans (congrArg _ h.g),m,o,r,by rw[k];exact h.d,by rw[m1];exact h.f,by rw[q];exact h.e,p⟩;have H:=(ev 0 (by decide)).trans (congrArg some h.m);have⟨l⟩:=cs0
 match l,h.q,h.o,h.c with
 | [x,y],K,J,_=>grind
end
section
local instance:Abs.Dr:= ⟨false⟩
open Go.Abs (bS bA eU dW bq iT aX)
section
variable[aW]{F:Nat->Bool}{β:ah}{v w:World}
variable{y:Value}
theorem FH(h:cw F β v w){b a o c t l}(H:t.h=true)(s:β b a)(z:lS v.heap b o c t l):lS w.heap a o c t l:=by
 have⟨cs,T,fr,p,G,r,q⟩:=z;have⟨I,J,g,E,k⟩:=h.b _ _ s;rw[p]at g;cases g;have key:∀{cs':Array b2}{fr':Nat×Nat},AV β cs cs'->w.heap[a]?=some (.cells cs' T fr')->lS w.heap a o c t l:=λ{cs' fr'}d B=>by
  refine⟨cs',T,fr',B,by rw[<-d.1];omega,r,λ i x u=>?_⟩;have m:=q i x u;rw[<-m];refine k8 λ j=>?_;unfold Abs.aS;rw[hZ,hZ];by_cases n:j<t.a;rw[if_pos n,if_pos n,k5,k5,kR,kR];rcases d.d (o+i*t.a+j)with⟨e,f⟩| ⟨C,K,e,f,A⟩;grind;rw[e,f];have y:C∈aX t x:=by rw[<-m];refine ny (i:=j) ?_;grind[Abs.aS]
  rw[De y A];grind
 generalize F b=D at k;cases k with|jM _ _ d=>grind|qb _ _ d=>grind
theorem akh(h:cw F β v w){k x t l}(q:t.h=true)(g:VR β x y)(s:mH v.heap k x t l):mH w.heap (λ b=>∃r,β r b) y t l:=by
 obtain⟨a,c,rfl,f,p⟩:=s;obtain⟨a',rfl,d⟩:∃a',y= .slice a' l.length c/\(c=0\/AO β a a'):=by generalize l.length=n at g;cases g with|ez a'=>simp|dz d=>grind
 obtain rfl|d:=d;exact⟨_,0,rfl,f,.inl rfl⟩;refine⟨a',c,rfl,f,p.imp id λ⟨b,o,e,_,u⟩=>?_⟩;subst e;cases a' with|none=>exact d.elim|some a'=>have⟨m,z,s'⟩:=a';have⟨k1,i,j⟩:=d;subst i j;exact⟨m,_,rfl,⟨b,k1⟩,FH h q k1 u⟩
theorem adv(h:cw F β v w){xs ys}(d:AV β xs ys){q n m num vV vH G}(T:xZ v.heap q xs n m num vV vH G):∃I E H,xZ w.heap (λ b=>∃r,β r b) ys n m num I E H:=by
 have get:∀{i:Nat}{x:b2},xs[i]?=some x->∃y,ys[i]?=some y/\VR β x y:=λ{i x}j=>by rcases d.d i with⟨c,_⟩| ⟨K,o,c,s,t⟩;rw[j]at c;cases c;rw[j]at c;cases c;exact⟨o,s,t⟩
 have⟨L,z,B⟩:=get T.b;have⟨o,A,C⟩:=get T.a;have⟨M,p2,D⟩:=get T.e;cases D;cases B with|gU k1 k=>
  rename_i p;have⟨J⟩:=p
  match J,k1.symm with| [N,O],_=>exact⟨_,_,_,{T with
    l:=d.1.symm.trans T.l
    b:=z
    a:=A
    e:=p2
    f:=akh h rfl (k 0 _ _ rfl rfl) T.f
    g:=akh h rfl (k 1 _ _ rfl rfl) T.g
    sL:=akh h rfl C T.sL}⟩
end
theorem JB:∀{c d:List bA},c.Perm d->mP c->mP d->(∀a∈c,∀b∈c,Abs.eT a=Abs.eT b->a=b)->c=d
 | [],d,hp,_,_,_=>by simp_all|a::c,[],hp,_,_,_=>by simp_all|a::c,b::d,hp,h1,h2,hk=>by
  have f:=hB.1 h1;have g:=hB.1 h2;have j:a=b:=by
   have e:b∈a::c:=hp.symm.subset (by simp);have h:a∈b::d:=hp.subset (by simp);rcases hN.1 e with rfl|k;rfl;rcases hN.1 h with rfl|i;rfl;have l:=f.1 b k;have c2:=g.1 a i;have c3:Abs.dJ b a= - Abs.dJ a b:=Abs.xG rfl;have c4:Abs.dJ a b=0:=by omega
   exact hk a (by simp) b e (Abs.LC rfl c4)
  subst j;rw[JB (List.Perm.cons_inv hp) f.2 g.2 (by grind)]
end
section
local instance:Abs.Dr:= ⟨false⟩
open Go.Abs (bS bA eU dW bq iT aX dJ)
variable{xs:Array Value}{pl:eU}{ly:List bS}
structure I8(b:ee)(hp:Array dr)(g:List bA)(fr:ee)(w:cr):Prop where
 e:∃a v L,fr=b.at a [.code (.seq rK .ret)]/\a.tmps.size=64/\a.tmps[48]?=some v/\a.defers.Nodup/\(∀d∈a.defers,∃D,d={target:= .collected D,args:= #[]}/\hp.size<=D/\w.heap[D]?=some (.deferred (some [])))/\g.Perm L/\mP L/\Abs.xe w hp.size v L
 c:hp.size<=w.heap.size
 f:∀r,r<hp.size->w.heap[r]?=hp[r]?
section
variable[aW]
theorem Xm{P v num vV vH j}(T:xZ v.heap (λ _=>True) xs pl ly num vV vH j):Abs.fe P v (λ _=>True) Abs.wM xs.toList (pl,ly,num):=by
 have row:∀{t:Abs.Ty}{l:List t.b}{x:b2},t.h=true->mH v.heap (λ _=>True) x t l->Abs.aw P (.aH t) v (λ _=>True) [x] l:=λ{t l x}k⟨a,c,e,d,f⟩=> ⟨a,c,by rw[e],d,f.imp id λ⟨b,o,e,_,cs,U,fr,k1,g,h,n⟩=> ⟨b,o,cs,U,fr,e,trivial,k1,g,.inr h,λ i y m=>by grind[Abs.kJ]⟩⟩;have⟨l⟩:=xs
 match l,T.l,T.b,T.a,T.e with
 | [p,q,r],_,h0,d,f=>obtain rfl:=fz h0;obtain rfl:=fz d;obtain rfl:=fz f;exact⟨_,_,rfl,⟨row (t:=DW) rfl T.f,row (t:=CU) rfl T.g⟩,_,_,rfl,row (t:=dW) rfl T.sL,_,rfl,rfl⟩
theorem aja{X:cS}{F:Nat->Bool}{R:ee->cr->Prop}{k num vV vH Y}{c:ee}{cs0:List ee} (j:k.a=bk CM.Q 147 xs .normal) (z:2<=k.b.length) (T:xZ k.v.heap (λ _=>True) xs pl ly num vV vH Y) (B:(ly.flatMap (b4 1000001 pl num)).length<4611686018427387904):HZ CQ.Q (λ fr cs w=>cs=k.b/\I8 k.a k.v.heap (ly.flatMap (b4 1000001 pl num)) fr w) k:=by
 intro g hT;have o:=Xm (P:=FM.Q) (v:=k.v.tp g k.D) (T:=T);have m:xs.toList.toArray++ef (64- xs.toList.toArray.size) df=k.a.tmps:=by rw[j,C0]
 have O:k.a.tmps.size=64:=by rw[<-m];simp;have:=T.l;omega
 have h:∀i,i<3->k.a.tmps[i]?=xs.toList[i]?:=λ i f=>by rw[<-m,kH (by simp;have:=T.l;omega)];simp
 have s:k.a=k.a.at ⟨k.a.tmps,[]⟩ [.code qC]:=by rw[j];rw[<-Et (xs:=xs)];rfl
 obtain⟨ac,aa,w0,⟨rfl,rfl,Z,q,k0⟩,Q⟩:=(alR (a:= ⟨k.a.tmps,[]⟩) o O h) k.a [.code (.seq jr (.seq Av (.seq rK .ret)))] k.b;have N:=Abs.Kq FM o (Abs.N.P5 (n:=1000001) (by omega) T.d.2 T.c T.ends T.d.1 num T.i.2 T.i.1) Z q λ i f=>(k0 i f).trans (h i f);obtain⟨ad,e,w1,⟨rfl,b⟩,S⟩:=N k.a [.code (.seq Av (.seq rK .ret))] k.b;have⟨own,p,I⟩:=b.f;obtain⟨ae,ab,w2,⟨rfl,rfl,_,M,E,L,G,J,H⟩,U⟩:=Q0 FM p I B k.a [.code (.seq rK .ret)] k.b;have V:Steps CQ.Q (ea k.a k.b (k.v.tp g k.D)) (ea (k.a.at e [.code (.seq Av (.seq rK .ret))]) k.b w1):=by rw[s];exact(Steps.head rfl Q).trans (.head rfl S)
 have⟨n,C⟩:=V.trans (.head step_seq U);have K:k.v.heap.size<=w1.heap.size:=b.a.f;refine⟨n,_,_,_,C,⟨rfl,?_⟩,z⟩;refine⟨⟨_,own,L,rfl,by simp[ep,b.e],?_,b.c,λ d A=>?_,G,J,H⟩,hg K M,λ r l=>?_⟩;show(e.tmps.setIfInBounds 49 _)[48]?=_;grind;have⟨D,t,af,u⟩:=b.b d A;refine⟨D,t,u,?_⟩;grind;rw[E r (by omega) (.inl l)];exact b.a.e r l
end
end
section
local instance:Abs.Dr:= ⟨false⟩
open Go.Abs (bS bA eU dW bq iT aX dJ)
section
variable[aW]
variable{Q:Program}{cs:List Frame}{X:cS}{R:Frame->World->Prop}{fr:Frame}{w:World}{c:Frame}{v:Value}
theorem DD{l}(p:iJ Q X R l.D l.h l.b l.a l.v)(e:¬jU X l.b l.a){d t fr2 a v2} (f:∀T D,gy d t T D->∃es,ew Q true (G0 l.b l.a) (l.v.tp T D)= .go (G0 fr2 a) (v2.tp T (D+d)) es):lM Q X R ⟨fr2,a,v2,l.D+d,iu l.D l.h t⟩ l:=by refine⟨λ T hT=>?_,e,d,t,f,rfl,rfl⟩;have⟨g,h⟩:=rP hT;have⟨n,o,r,j,b,k⟩:=p T g;have⟨es,q⟩:=f T l.D h;rcases td j ((gG (cs:=l.a) q).2 _ _ _ _ rfl) with⟨i,c2⟩| ⟨m,c⟩;exact absurd (by rw[<-i,<-c2];exact b) e;exact⟨m,o,r,c,b,k⟩
theorem XE{D a}(d:fr.mode= .returning)(c:fr.defers={target:= .collected D,args:= #[]}::a)(j:w.heap[D]?=some (.deferred (some []))):∃es,ew Q true (G0 fr cs) w= .go (G0 {fr with defers:=a} cs) (w.putObj D (.deferred none)) es:=by
 have⟨fn,f,g,defers,k,kind,e⟩:=fr;subst d c;have i:ew Q true (G0 ⟨fn,f,g,{target:= .collected D,args:= #[]}::a,.returning,kind,e⟩ cs) w=eV Q true ⟨fn,f,g,{target:= .collected D,args:= #[]}::a,.returning,kind,e⟩ cs none w:=rfl;rw[i];simp only[eV];have h:(gg D).run Q w= .ok [] (w.putObj D (.deferred none)):=by unfold gg getObj setObj;simp[dk,hq,j,ih]
 have b:=lv Q (gg D) w #[];rw[h]at b;generalize (gg D).runT Q w #[]=q at b;have⟨q,es⟩:=q;subst b;exact⟨_,rfl⟩
theorem YD(g:fr.mode= .returning)(d:fr.defers= [])(f:fr.kind= .normal)(e:Q.funcs[fr.fn]?=some kh)(LN:fr.tmps[51]?=some v):∃es,ew Q true (G0 fr (c::cs)) w= .go (G0 (c.finish v) cs) w es:=by
 have⟨fn,a,i,l,n,kind,h⟩:=fr;subst g d f;have k:ew Q true (G0 ⟨fn,a,i,[],.returning,.normal,h⟩ (c::cs)) w=eV Q true ⟨fn,a,i,[],.returning,.normal,h⟩ (c::cs) none w:=rfl;rw[k];simp only[eV,e];have j:(eb kh a).run Q w= .ok v w:=by
  have m:a.getD 51 df=v:=by rw[hz,LN];rfl
  unfold eb;rw[show kh.results= #[.tmp 51]from rfl,hA];simp[dk,LN]
 have b:=lv Q (eb kh a) w #[];rw[j]at b;generalize (eb kh a).runT Q w #[]=q at b;have⟨q,es⟩:=q;subst b;exact⟨_,rfl⟩
theorem QK(N:X.b){hp:Array dr}(u:c::cs≠X.c):∀g l,iJ Q X R l.D l.h l.b l.a l.v->l.a=c::cs->l.b.mode= .returning->l.b.defers=g->l.b.kind= .normal->Q.funcs[l.b.fn]?=some kh->l.b.tmps[51]?=some v->g.Nodup->(∀d∈g,∃D,d={target:= .collected D,args:= #[]}/\hp.size<=D/\l.v.heap[D]?=some (.deferred (some [])))->Hd l.v->∃a,mI Q X R a l/\iJ Q X R a.D a.h a.b a.a a.v/\a.b=c.finish v/\a.a=cs/\Hd a.v/\a.v.heap.size=l.v.heap.size/\(∀r,(r<hp.size\/∀o,l.v.heap[r]?≠some (.deferred o))->a.v.heap[r]?=l.v.heap[r]?)
 | [],l,t,j,n,w,z,x,p,_,_,y=>by
  have q:¬jU X l.b l.a:=λ h=>u (j.symm.trans h.1);have k:lM Q X R ⟨c.finish v,cs,l.v,l.D+0,iu l.D l.h λ _ _=>0⟩ l:=DD t q λ T D _=>by rw[j];exact YD n w z x p
  exact⟨_,⟨_,.ni _,k⟩,k.1,rfl,rfl,y,rfl,λ _ _=>rfl⟩|d::g,l,t,j,n,w,z,x,p,hnd,hds,y=>by
  obtain⟨D,rfl,U,s⟩:=hds d (by simp);have k:lM Q X R ⟨{l.b with defers:=g},l.a,l.v.putObj D (.deferred none),l.D+0,iu l.D l.h λ _ _=>0⟩ l:=DD t (λ h=>u (j.symm.trans h.1)) λ T m _=>XE n w s;rw[pN]at hnd;have A:∀r,r≠D->(l.v.putObj D (.deferred none)).heap[r]?=l.v.heap[r]?:=λ r b=>mb b;have S:(l.v.putObj D (.deferred none)).heap.size=l.v.heap.size:=by simp[ih]
  obtain⟨a,G,H,I,J,K,L,M⟩:=QK N u g ⟨{l.b with defers:=g},l.a,l.v.putObj D (.deferred none),l.D+0,iu l.D l.h λ _ _=>0⟩ k.1 j n rfl z x p hnd.2 (λ C B=>by have⟨m,i,E,F⟩:=hds C (nz _ B);refine⟨m,i,E,?_⟩;rw[A m λ e=>hnd.1 (by rw[<-e,<-i];exact B)];exact F) (λ r o f=>by
   by_cases b:r=D;subst b;have f:(l.v.putObj r (.deferred none)).heap[r]?=some o:=f;rw[World.putObj_heap_same ((fl.1 s).1)]at f;cases f;exact⟨λ l e=>(by cases e),rfl⟩;have f:(l.v.putObj D (.deferred none)).heap[r]?=some o:=f;rw[A r b]at f;exact y r o f);refine⟨a,G.a (.mf k (.ni _)),H,I,J,K,L.trans S,λ r b=>?_⟩;have P:r≠D:=λ e=>by
   subst e;obtain b|b:=b
   omega;exact b _ s
  have i:=A r P;rw[M r (b.imp id λ h o=>by show(l.v.putObj D (.deferred none)).heap[r]?≠_;rw[i];exact h o)];exact i
end
end
section
local instance:Abs.Dr:= ⟨false⟩
open Go.Abs (bS bA eU dW bq iT aX dJ)
variable{l:ajM}
def lg:Array Oper:= #[⟨some 50,.move (.const (.slice none 0 0)),228,"x",#[],none⟩,⟨some 51,.call {callee:= .builtin .append,args:= #[.tmp 50,.tmp 48],argTypes:= #[228,228]},228,"x",#[],none⟩]
theorem Cw:CM.Q.underlying 228=some (.slice 231):=om
theorem E2:CM.Q.info? 231=some fI:=nw
theorem KY:CM.P.info? 231=some fI:=nw
theorem Og{w}{ty:Nat}{u}(h:u= .slice none 0 0\/∃a c,u= .slice (some a) 0 c):(k6 #[228,228] ty #[.slice none 0 0,u]).run CM.Q w= .ok (.slice none 0 0) w:=by
 obtain rfl| ⟨a,c,rfl⟩:=h;simp[k6,n3 Cw,kq,kk,E2,KY,pk,np];simp[k6,n3 Cw,kq,kk,E2,KY,pk,np,loadCells,lb]
section
variable[aW]{X:cS}{R:Frame->World->Prop}
theorem xJ{Q}(c:iJ Q X R l.D l.h l.b l.a l.v)(b:¬jU X l.b l.a){fr2}(e:∀w,∃es,ew Q true (G0 l.b l.a) w= .go (G0 fr2 l.a) w es):∃a,lM Q X R a l/\a.b=fr2/\a.a=l.a/\a.v=l.v:= ⟨_,DD (d:=0) (t:=λ _ _=>0) (v2:=l.v) c b λ T D _=>e _,rfl,rfl,rfl⟩
theorem aiB(bd:X.b){b c:ee}{cs0:List ee}{hp:Array dr}{J LR:List bA}(be:iJ CM.Q X R l.D l.h l.b l.a l.v)(aC:l.a=c::cs0)(aE:c::cs0≠X.c)(aB:b.kind= .normal)(bf:b.fn=147)
 (G:I8 b hp J l.b l.v) (aD:Hd l.v) {w':cr} {U:b2} (ac:C7 w' U LR) (bB:J.Perm LR) (bE:mP LR) (bs:∀a∈J,∀b∈J,Abs.eT a=Abs.eT b->a=b) (bt:J.length<=36000000):
 ∃(p:ajM)(t:b2),mI CM.Q X R p l/\iJ CM.Q X R p.D p.h p.b p.a p.v/\p.b=c.finish t/\p.a=cs0/\Hd p.v/\hp.size<=p.v.heap.size/\(∀r,r<hp.size->p.v.heap[r]?=hp[r]?)/\
  ((t= .slice none 0 0/\U= .slice none 0 0)\/∃W g n cap z,t= .slice (some ⟨W,0,none⟩) n cap/\U= .slice (some ⟨g,0,none⟩) n cap/\hp.size<=W/\p.v.heap[W]?=some (.cells z 231 (0,0))/\w'.heap[g]?=some (.cells z 231 (0,0))/\∀y∈z,∃k m,y= .int k m):=by
 have aT:∀y:bA,(aX bq y).length=27:=λ y=>Abs.mz bq rfl y;have⟨⟨a,u,f,a0,aO,aV,bw,bv,S,bF,aL⟩,ag,bz⟩:=G;have bc:f=LR:=JB (S.symm.trans bB) bF bE λ x aj y ak=>bs x (S.symm.subset aj) y (S.symm.subset ak);subst bc;have bX:f.length<=36000000:=by rw[<-S.length_eq];exact bt
 have H:∀l':ajM,l'.a=l.a->¬jU X l'.b l'.a:=λ l' e h=>aE (aC.symm.trans (e.symm.trans h.1));have⟨aS,ap,a2,Y,v1⟩:=xJ (fr2:=b.at a [.code rK,.code .ret]) be (H l rfl) λ w=> ⟨#[],by rw[a0];rfl⟩;have⟨p,aq,a3,c2,v2⟩:=xJ (fr2:=b.at a [.inRegion lg [0,1],.code .ret]) ap.1 (H aS Y) λ w=> ⟨#[],by rw[a2];rfl⟩;have ad:b.kind≠ .early:=by rw[aB];decide
 have⟨q,V,ax,c3,bU⟩:=xJ (fr2:=b.at (a.put (some 50) (.slice none 0 0)) [.inRegion lg [1],.code .ret]) aq.1 (H p (c2.trans Y)) λ w=>by
  rw[a3];exact⟨_,k3 (ops:=lg) (i:=0) (rest:= [1]) (o:= ⟨some 50,.move (.const (.slice none 0 0)),228,"x",#[],none⟩) rfl rfl ad rfl⟩
 have F:q.v=l.v:=bU.trans (v2.trans v1);have L:q.a=l.a:=c3.trans (c2.trans Y);have aU:mI CM.Q X R q l:= ⟨aS,.mf V (.mf aq (.ni _)),ap⟩
 let A:=a.put (some 50) (.slice none 0 0)
 have bI:A.eval (.tmp 50)= .slice none 0 0:=by simp[A,ep,hQ,aO]
 have bH:A.eval (.tmp 48)=u:=by
  simp only[A,ep,hQ];rw[hz,Array.getElem?_setIfInBounds_ne (by decide),aV];rfl
 have aF:=F4 (ρ:=A.eval) (o:= ⟨some 51,.call {callee:= .builtin .append,args:= #[.tmp 50,.tmp 48],argTypes:= #[228,228]},228,"x",#[],none⟩) rfl bI bH;have rest:∀(t:b2)(v2:cr)(E:ajM),lM CM.Q X R E q->E.b=b.at (A.put (some 51) t) [.inRegion lg [],.code .ret]->E.a=q.a->E.v=v2->hp.size<=v2.heap.size->Hd v2->(∀(r:Nat)(o:dr),l.v.heap[r]?=some o->v2.heap[r]?=some o)->
  ∃p:ajM,mI CM.Q X R p l/\iJ CM.Q X R p.D p.h p.b p.a p.v/\p.b=c.finish t/\p.a=cs0/\Hd p.v/\hp.size<=p.v.heap.size/\(∀r,r<hp.size->p.v.heap[r]?=hp[r]?)/\(∀(r:Nat)(Z:Array b2)(ty:Go.TypeId)(fr:Nat×Nat),v2.heap[r]?=some (j3 Z ty fr)->p.v.heap[r]?=some (j3 Z ty fr)):=by
  intro t v2 E I aa c4 w4 bG bj aH;have⟨bQ,ar,a4,av,bV⟩:=xJ (fr2:=b.at (A.put (some 51) t) [.code .ret]) I.1 (H E (c4.trans L)) λ w=> ⟨#[],by rw[aa];rfl⟩;have⟨al,au,K,aY,v6⟩:=xJ (fr2:={b.at (A.put (some 51) t) [.code .ret]with mode:= .returning}) ar.1 (H bQ (av.trans (c4.trans L))) λ w=> ⟨#[],by rw[a4];rfl⟩;have ao:al.v=v2:=v6.trans (bV.trans w4);have⟨M,a5,a6,a7,a8,a9,ay,ab⟩:=QK bd (v:=t) (hp:=hp) aE a.defers al au.1 ((aY.trans (av.trans (c4.trans L))).trans aC) (by rw[K]) (by rw[K];rfl) (by rw[K];exact aB) (by rw[K];show CM.Q.funcs[b.fn]?=_;rw[bf];exact qa) (by
   rw[K];show((a.tmps.setIfInBounds 50 (.slice none 0 0)).setIfInBounds 51 t)[51]?=_;simp[aO]) bw (λ d bl=>by
   have⟨D,am,an,bR⟩:=bv d bl;exact⟨D,am,an,by rw[ao];exact aH _ _ bR⟩) (by rw[ao];exact bj)
  rw[ao]at ay ab;refine⟨M,a5.a (.mf au (.mf ar (.mf I ?_))),a6,a7,a8,a9,by rw[ay];exact bG,λ r af=>?_,λ r Z ty fr aK=>?_⟩
  have⟨m,am,an⟩:=aU;exact am.a (.mf an (.ni _));rw[ab r (.inl af)];have aw:=fu (nV af ag);rw[aH r _ aw,<-aw];exact bz r af;rw[ab r (.inr λ o e=>by rw[aK]at e;cases e)];exact aK
 have aQ:∀bT,r1 (⟨some 51,.call {callee:= .builtin .append,args:= #[.tmp 50,.tmp 48],argTypes:= #[228,228]},228,"x",#[],none⟩:Go.Oper) (yielded lg bT)=true:=λ _=>rfl;by_cases h0:f.length=0
 have ah:u= .slice none 0 0\/∃a c,u= .slice (some a) 0 c:=by
  obtain⟨s,_⟩| ⟨N,off,cap,cs,T,s,_⟩:=aL;exact .inl s;rw[h0]at s;exact .inr ⟨_,_,s⟩
 have ai:U= .slice none 0 0:=by
  obtain⟨s,_⟩| ⟨g,cap,z,s,_⟩:=ac.b;exact s;have:=ac.a g _ cap s;omega
 have⟨E,I,aa,c4,v4⟩:=xJ (fr2:=b.at (A.put (some 51) (.slice none 0 0)) [.inRegion lg [],.code .ret]) V.1 (H q L) λ w=>by
  rw[ax];refine⟨_,k3 (ops:=lg) (i:=1) (rest:= []) (o:= ⟨some 51,.call {callee:= .builtin .append,args:= #[.tmp 50,.tmp 48],argTypes:= #[228,228]},228,"x",#[],none⟩) rfl (aQ _) ad ?_⟩;rw[aF,dk,Og ah];rfl
 have⟨M,g⟩:=rest (.slice none 0 0) l.v E I aa c4 (v4.trans F) ag aD λ r o h=>h;exact⟨M,_,g.1,g.2.1,g.2.2.1,g.2.2.2.1,g.2.2.2.2.1,g.2.2.2.2.2.1,g.2.2.2.2.2.2.1,.inl ⟨rfl,ai⟩⟩;obtain⟨_,s⟩| ⟨N,off,aZ,cs,aW,ah,bZ,bm,bi⟩:=aL;exact absurd (by rw[s];rfl) h0;obtain⟨_,s⟩| ⟨g,B,z,ai,bn,bY,bu,bW,aP,aN⟩:=ac.b;exact absurd (by rw[s];rfl) h0;have ae:(f.flatMap (aX bq)).length=f.length*27:=uE aT;have cell:∀j,j<f.length*27->cs[off+j]?=(f.flatMap (aX bq))[j]?:=λ j C=>by
  have aG:j/27<f.length:=by omega
  have aI:j%27<27:=qF _ (by omega);have s:=bi (j/27) _ (gf aG);have az:=tq aT f (j/27) (j%27) _ (gf aG) aI;rw[show j/27*27+j%27=j from by omega]at az;rw[az,<-s];unfold Abs.aS;rw[hZ,if_pos aI,k5,kR]
  congr 1
  omega
 have aR:(gk fZ.cells (B- f.length)).size=(B- f.length)*27:=by
  rw[oj,FN]
 have bh:(f.flatMap (aX bq)).toArray++gk fZ.cells (B- f.length)=z:=by
  refine Array.ext_getElem? λ j=>?_;rw[Array.getElem?_append];simp only[o0,ae];by_cases C:j<f.length*27;rw[if_pos C,aP j C,List.getElem?_toArray];rw[if_neg C];by_cases br:j<z.size;rw[aN j (by omega) br];have ba:j- f.length*27< (gk fZ.cells (B- f.length)).size:=by
   rw[aR,qq];omega
  have aA:=fu ba;rw[aA,Nj aA];rw[ml (xs:=z) (by omega),ml];rw[aR,qq];omega
 have bp:∀y∈z,∃k m,y= .int k m:=λ y ak=>by
  obtain⟨j,C,rfl⟩:=Array.mem_iff_getElem.1 ak;have O:=fu C;by_cases Q:j<f.length*27;rw[aP j Q]at O;have⟨x,_,aj⟩:=hG.1 (ny O);exact GD aj;rw[aN j (by omega) C]at O;exact⟨_,_,(fz O).symm⟩
 let v4:World:={q.v with heap:=q.v.heap.push (.cells z 231 (0,0))}
 let t:Value:= .slice (some ⟨q.v.heap.size,0,none⟩) f.length B
 let bS:Nat->Go.Question->Nat:=λ _ _=>B- f.length
 have I:lM CM.Q X R ⟨b.at (A.put (some 51) t) [.inRegion lg [],.code .ret],q.a,v4,q.D+1,iu q.D q.h bS⟩ q:=DD V.1 (H q L) λ T D hT=>by
  rw[ax];have bo:grownCap (q.v.tp T D) f.length 0 231=B:=by
   have s:T D (.appendCap f.length 0 231)=B- f.length:=by
    have:=hT 0 (by omega);rw[Nat.add_zero]at this;rw[this]
   show(Question.appendCap f.length 0 231).cut (T D (.appendCap f.length 0 231))=B;rw[s];unfold Question.cut;simp;rw[Nat.mod_eq_of_lt (by unfold hs at bu;omega)];omega
  have aM:=o1 (P:=CM.Q) (w:=q.v.tp T D) 228 228 231 fI fZ Cw E2 fI_z ⟨N,off,none⟩ f.length aZ (f.flatMap (aX bq)) (by rw[lW];exact ae) (λ j v C=>by
   have Q:j<f.length*27:=by rw[<-ae];exact(fv.1 C).1
   rw[pS,l1 (q.v.tp T D) N (off+j) cs aW (0,0) (by show q.v.heap[N]?=_;rw[F];exact bm),cell j Q,C]) (by omega) (by omega) (by rw[se];omega)
  rw[bo,bh]at aM;refine⟨_,k3 (ops:=lg) (i:=1) (rest:= []) (o:= ⟨some 51,.call {callee:= .builtin .append,args:= #[.tmp 50,.tmp 48],argTypes:= #[228,228]},228,"x",#[],none⟩) rfl (aQ _) ad (w':=v4.tp T (D+1)) (v:=t) ?_⟩;rw[aF,ah,dk]
  erw[aM]
  rfl
 have bC:∀r o,l.v.heap[r]?=some o->v4.heap[r]?=some o:=λ r o aJ=>by
  have Q:r<q.v.heap.size:=by rw[F];exact(fl.1 aJ).1
  show(q.v.heap.push _)[r]?=_;rw[nH,if_neg (by omega),F];exact aJ
 have bx:v4.heap[q.v.heap.size]?=some (.cells z 231 (0,0)):=by
  show(q.v.heap.push _)[q.v.heap.size]?=_;simp
 have⟨M,k1,bJ,bK,bL,bM,bN,bO,bP⟩:=rest t v4 _ I rfl rfl rfl (by
  show hp.size<=(q.v.heap.push _).size;rw[pV,F];omega) (Hd.a (by rw[F];exact aD) ⟨λ l e=>(by cases e),rfl⟩) bC
 refine⟨M,t,k1,bJ,bK,bL,bM,bN,bO,.inr ⟨q.v.heap.size,g,f.length,B,z,rfl,ai,by rw[F];exact ag,bP _ _ _ _ bx,bn,bp⟩⟩
end
end
section
local instance:Abs.Dr:= ⟨false⟩
open Go.Abs (bS bA eU dW bq iT aX dJ)
theorem aek(A):G0 (bk TP 147 #[A.g,A.k,A.h] .normal) A.j=PE A:=by kernel_rfl
theorem ajc{K aq X F R}(B:X.b)(aU:X.a= []/\X.d= []): @TD (oT K aq) Bf pQ CM X F R:=by
 letI bs:aW:=oT K aq
 intro k S bp w sl t q aE hE;obtain⟨rfl,h0,aJ,aK,al,i,ap,am⟩:=aE;have⟨xs,ys,c,cs0,c',L,E⟩:=aeN hE;have⟨bD,vH,Z,bz,bw,bx,num,bj,aF⟩:=Xh OM B E i ap am;have⟨C,J,T⟩:=Ud E.f aF;have⟨aa,Y,au,z⟩:=adv i E.d T;have Q:(1000000:Nat)<1000001:=by omega
 have⟨aw⟩:=ys;have bc:∃av,aw= [.agg #[aa,Y],au,av]/\av= .int .i64 num:=by
  match aw,z.l,z.b,z.a,z.e with
  | [bg,bh,bi],_,bA,bB,p2=>
   grind
 obtain⟨_,rfl,rfl⟩:=bc
 let A:Ar:= ⟨0,0,0,0,0,0,0,0,.agg #[aa,Y],au,.int .i64 num,k.d⟩
 have bq:G0 k.c k.d=PE A:=by
  rw[E.i];exact aek A
 have bd:∀x,(b4 1000001 C num x).length<=36:=λ x=>Abs.N.NA Q T.d.2 T.c T.ends num x;have ba:(J.flatMap (b4 1000001 C num)).length<=36000000:=by
  have O:∀l:List bS,(l.flatMap (b4 1000001 C num)).length<=l.length*36:=λ l=>by
   induction l with
   |nil=>simp
   |cons a l bt=>
    grind
  have:=O J;have:=T.i.2;omega
 have aI:Ie A (j7 F k.f).a k.w C J num (b4 1000001 C num) 1000001 aa Y:={
  b:= ⟨⟨[],rfl⟩,z.f,z.g⟩
  c:=z.sL
  g:=rfl
  f:=λ x _=>Abs.N.af4 Q T.d.2 T.c T.ends num x
  d:=by have:=T.i.2;omega
  a:=by omega}
 have⟨N,ak,w',ar,t',q',ab,v,be,ae,af,ag,ai,D,bm,I,a5,a9,a8,a4⟩:=
  abN sl (S0:=S) (ps:=j7 F k.f) aI (c:=c') (cs:=L) E.h i.d.2 (by grind) aJ aK (λ b j=> ⟨(al b j).1,λ⟨r,e⟩=>(al b j).2 r e⟩) (λ b⟨r,e⟩=>(i.f e).2) (λ b⟨r,e,_⟩=> ⟨r,e⟩)
 have aX:2<=k.b.length:=by
  have O:=E.a.c;rw[B.a]at O;rw[E.e];grind
 have⟨V,aj,aB,bf,bo,aC,M⟩:=adO OM B aU YS (RX E i ap am) (aja (X:=X) (F:=F) (R:=R) (k:={k with c:=bk CM.Q 147 _ .normal}) (c:=c) (cs0:=cs0) E.g aX T (by omega));have aO:c::cs0≠X.c:=by
  rw[B.a,<-E.e];grind
 have aD:I8 k.a k.v.heap (J.flatMap (b4 1000001 C num)) V.a V.v:= ⟨M.e,M.c,M.f⟩;have⟨h,Z,d1,d2,d3,d4,ad,H,ax,ay⟩:=aiB (l:=V.e) B aj.a (aC.trans E.e) aO (b:=k.a) (by rw[E.g];rfl) (by rw[E.g];rfl) aD aj.c a8 a5 a9 (λ a aL b j aT=>by
  have⟨x,_,bb⟩:=hG.1 aL;have⟨y,_,U⟩:=hG.1 j;exact Abs.N.RQ Q T.d.2 T.c T.ends bb U aT) ba
 have br:mI CM.Q X R h k.e:=d1.a aB;have ac:iJ CM.Q X R h.D h.h (c.finish Z) cs0 h.v:=by grind
 have bC:(⟨c.finish Z,cs0,h.v,h.D,h.h⟩:ajM)=h:=by rw[<-d3,<-d4]
 have H:k.v.heap.size<=h.v.heap.size:=H;have old:∀(u:ah),bF k.f u->∀r a,k.f r a->∃o W,h.v.heap[r]?=some o/\w'.heap[a]?=some W/\OR u (F r) o W:=λu P r a e=>by
  have⟨o,W,bn,az,aA⟩:=i.b r a e;exact⟨o,_,by grind,(I.d a (i.f e).2).trans az,aA.a P⟩
 have ao:∀r,F r=true->r<h.v.heap.size:=λ r e=>nV (i.c r e) H;have an:aW.n<=h.v.heap.size/\aW.n<=w'.heap.size:= ⟨hg i.d.1 H,hg i.d.2 I.b⟩;obtain⟨rfl,rfl⟩| ⟨p,g,n,cap,bl,rfl,rfl,aM,aV,a6,aS⟩:=ay
 refine⟨N,ak,w',ar,t',q',⟨c.finish (.slice none 0 0),cs0,h.v,k.f,c'.finish (.slice none 0 0),L,w',h.D,h.h⟩,ab,ae,⟨rfl,af,ag,ai,λ b j=> ⟨(D b j).1,λ r e=>?_⟩,⟨old k.f (bF.b _),ao,an⟩,ad,ac⟩,E.a.a B E.b (.dz (a:=none) (a':=none) trivial 0 0),?_,I,λ r a e _=> .inl e⟩;rcases(D b j).2 with G| ⟨G,_⟩
 grind
 have:=(i.f e).2;omega;show mI _ X R ⟨_,_,_,_,_⟩ _;grind;have aR:k.w.heap.size<=g:=a4 g rfl;have aQ:∀s b,k.f s b->s≠p/\b≠g:=λ s b e=>by
  have:=i.f e;omega
 have aN:k.v.heap.size<=p:=aM
 let u:ah:=k.f.i p g aQ ⟨hg i.d.1 aN,hg i.d.2 aR⟩
 have P:bF k.f u:=λ r a e=> .inl e;have a3:u p g:= .inr ⟨rfl,rfl⟩;have aG:F p=false:=by
  cases aP:F _ with
  |false=>rfl
  |true=>
   have:=i.c p aP;omega
 have a7:cw F u h.v w':= ⟨λ r a e=>by
  obtain e| ⟨rfl,rfl⟩:=e
  grind
  refine⟨_,_,aV,a6,?_⟩;rw[aG];exact .jM _ _ (AV.i λ y U=>by
   obtain⟨bu,m,rfl⟩:=aS y U;exact .cx _ m),ao,an⟩
 refine⟨N,ak,w',ar,t',q',⟨c.finish (.slice (some ⟨p,0,none⟩) n cap),cs0,h.v,u,c'.finish (.slice (some ⟨g,0,none⟩) n cap),L,w',h.D,h.h⟩,ab,ae,⟨rfl,af,ag,ai,λ b j=> ⟨(D b j).1,λ r e=>?_⟩,a7,ad,ac⟩,
  (E.a.b P).a B E.b (.dz (a:=some ⟨p,0,none⟩) (a':=some ⟨g,0,none⟩) ⟨a3,rfl,rfl⟩ n cap),?_,I,λ r a e _=>?_⟩
 obtain e| ⟨_,rfl⟩:=e;rcases(D b j).2 with G| ⟨G,_⟩
 grind
 have:=(i.f e).2;omega;rcases(D b j).2 with G| ⟨_,G⟩
 grind
 trivial;show mI _ X R ⟨_,_,_,_,_⟩ _;grind;obtain e| ⟨_,rfl⟩:=e
 all_goals grind
end
theorem Vb{P fs fr u}[aW](p:Hd u)(t:fr.mode= .returning)(r:fr.defers= [])(w:fr.roundOf=none):∀{n:Nat}{g:ee}{i:cr},ei (lp P fs) n (ea fr [gd] u)= .next (ea g [gd] i)->g=fr/\i=u:=by intro n g i h;cases n with
 |zero=>simp[ei,Stepped.next.injEq]at h;have⟨j,_,z⟩:=kt h;exact⟨j.symm,z.symm⟩|succ n=>
  exfalso;have⟨fn,d,k,B,D,kind,E⟩:=fr;subst t r w;have A:∀m b,Hd b->∀g i,ei (lp P fs) m (ea gd [] b)= .next (ea g [gd] i)->False:=λ m b l g i e=>by cases m with
   |zero=>simp[ei,Stepped.next.injEq]at e;have:=(kt e).2.1;cases this|succ m=>simp[ei,GM]at e;cases m with
    |zero=>
     simp[ei,Stepped.next.injEq]at e;have:=(kt e).2.1;cases this
    |succ m=>
     have⟨o,F,y⟩:=H5 (Q:=lp P fs) l;simp only[ei,y]at e;cases e
  have key:(∃o b,step (lp P fs) (ea ⟨fn,d,k,[],.returning,kind,none⟩ [gd] u)= .ended o b)\/∃b,Hd b/\step (lp P fs) (ea ⟨fn,d,k,[],.returning,kind,none⟩ [gd] u)= .next (ea gd [] b):=by
   have ret:∀v b,l8 (lp P fs) true ⟨fn,d,k,[],.returning,kind,none⟩ [gd] none v b= .go (G0 gd []) b:=λ v b=>by
    cases kind<;>rfl
   have c:ew (lp P fs) true (G0 ⟨fn,d,k,[],.returning,kind,none⟩ [gd]) u=eV (lp P fs) true ⟨fn,d,k,[],.returning,kind,none⟩ [gd] none u:=rfl;simp only[eV]at c;cases s:(lp P fs).funcs[fn]? with
   |none=>
    rw[s]at c;simp[ret]at c;exact .inr ⟨u,p,(gG c).2 _ _ _ _ rfl⟩|some f=>
    rw[s]at c;simp only at c;have j:=lv (lp P fs) (eb f d) u #[];generalize C:(eb f d).runT (lp P fs) u #[]=q at c j;have⟨q,es⟩:=q;cases q with
    |ok a b=>
     simp[ret,p1]at c;have:=RO.d (P:=P) (fs:=fs) f d u a b j.symm;subst this;exact .inr ⟨_,p,(gG c).2 _ _ _ _ rfl⟩
    |halt x b=>cases x<;>exact .inl ((gG c).1 _ _ _ rfl)
  obtain⟨o,b,e⟩| ⟨b,l,e⟩:=key;simp only[ei,e]at h;cases h;simp only[ei,e]at h;exact A n b l _ _ h
def Ib(f r:Nat)(fr:ee)(w:cr):=fr.fn=f/\fr.kind= .normal/\fr.tmps[r]?=some (.bool true)
def TX:cS:= ⟨[],[],[],[],[gd],[]⟩
theorem HI[aW][ck]:TX.b:= ⟨rfl,rfl,rfl,λ id=>rfl,λ _=>rfl⟩
@[reducible] def Gh:aW:=oT (λ _ _=>False) (λ _ _ _ h=>h.elim)
section
noncomputable local instance:aW:=Gh
theorem UI{f r:Nat}{fn:Go.Func}(K:TP.funcs[f]?=some fn)(ak:jS[f]?=some fn)(aK:f≠147)(aQ:fn.results= #[.tmp r])(af:fn.body.isNone=false)(aN:TP.inits.idxOf? f=none){W v0:cr}{args xs:Array b2}
 {β0:ah} {F:Nat->Bool} (aP:cw F β0 v0 W) (aF:Hd v0) (ae:AV β0 xs args)
 (ay:∀r a,β0 r a->F r=true)
 (aD:∀T,∃n fr w,ei CM.Q n (ea (bk CM.Q f xs .normal) [gd] (v0.tp T 0))= .next (ea fr [gd] w)/\fr.mode= .returning/\fr.defers= []/\Ib f r fr w):
 ∃M last o w' t',runNT TP (M+1) (solo (ma (bk TP f args .normal) []) W) #[]=(.ended o w',t')/\ei TP M (solo (ma (bk TP f args .normal) []) W)= .next last/\
  step TP last= .ended o w'/\Conc.Good TP (λ v H=>v= .bool true/\mq W H) last o w' t':=by
 obtain⟨q,ag⟩:∃c,fn.body=some c:=by
  cases h:fn.body with
  |none=>rw[h]at af;cases af
  |some c=>exact⟨c,rfl⟩
 let k:ajL:= ⟨bk CM.Q f xs .normal,[gd],v0,β0,bk TP f args .normal,[],W,0,λ _ _=>0⟩
 have ab:CM.Q.funcs[f]?=some fn:=ak;have aO:cK CM.Q CM.P CM.n q=true:=P4.b f fn q ak (by
  show gb f 147=false;cases h:gb f 147 with
  |false=>rfl
  |true=>exact absurd (fx h) aK) ag
 have aL:GS CM TX k.f k.a k.b k.c k.d:=by
  refine .jE ⟨rfl,?_,?_,⟨[],[],rfl,rfl,trivial,by simp⟩,trivial,rfl,trivial⟩ rfl
  show AV β0 (bk CM.Q f xs .normal).tmps (bk TP f args .normal).tmps;simp[bk,ab,K,pH,pn,ae.1];exact ae.b (AV.f _ (VR.c _));show TL CM β0 [] [] (bk CM.Q f xs .normal).todo (bk TP f args .normal).todo;simp[bk,ab,K,Option.bind_some,ag,pn];exact TL.c.a (x:= .code q) (y:= .code q) ⟨rfl,aO⟩
 have ad:iJ CM.Q TX (Ib f r) k.D k.h k.a k.b k.v:=λ T _=>by
  have⟨n,fr,w,s,au,av,aw⟩:=aD T;exact⟨n,fr,w,s,⟨rfl,.inr ⟨au,av⟩⟩,aw⟩
 have ax:xT CM TX F (Ib f r) (λ _=>False) k #[G0 k.c k.d] W #[] (λ _=>0):=by
  refine⟨rfl,rfl,⟨λ i g z A=>?_,λ j _=>rfl⟩,?_,λ b h=>h.elim,aP,aF,ad⟩
  have:i<1:=by simpa using(fl.1 A).1
  omega;exact⟨past_nil.clean,λ i a h C=>(past_nil.known i a h C).imp id λ x=>x.1.elim,past_nil.over,past_nil.hears,λ op h=>by simp at h⟩
 have⟨N,ac,w',V,t',q',k',ao,s,ap,l,aa,m⟩:=ZF P4 HI (ajc HI ⟨rfl,rfl⟩) k.e (HV HI ad) k (.ni _) (λ _=>False) #[G0 k.c k.d] W none #[] (λ _=>0) ax aL (mq.g W) (λ r a R aj=>by
  rw[ay r a R]at aj;cases aj)
 have⟨ba,h0,az,aA,a7,a8,aG,aB⟩:=ap;obtain⟨I,C,ai⟩:k'.b= [gd]/\k'.a.mode= .returning/\k'.a.defers= []:=by
  refine⟨aa.1,?_⟩;obtain⟨_,_,x|x⟩|x:=aa.2
  exact absurd rfl x;exact absurd rfl x;exact x
 obtain⟨G,aS,aE⟩:GF CM k'.f [] [] [] [] k'.a k'.c/\k'.a.roundOf=none/\k'.d= []:=by
  generalize k'.b=a2 at l I;generalize k'.d=a3 at l;generalize k'.a=a5 at l;generalize k'.c=fr2 at l;cases l with
  |jE g R=>exact⟨g,R,rfl⟩
  |up g a9 hp aC=>
   exfalso;have z:=aC.c;have A:=congrArg hh I;simp[TX]at z A;rw[A]at z;simp at z
 have⟨n,a6,bc,am,_,aV⟩:=aB k'.h λ j _=>by rw[kg]
 rw[I]at am;obtain⟨rfl,_⟩:=Vb (P:=TP) (fs:=jS) (u:=k'.v.tp k'.h k'.D) aG C ai aS am;have⟨aJ,aM,al⟩:=aV;have L:k'.c.fn=f:=G.h.symm.trans aJ;have O:k'.c.kind= .normal:=G.e.symm.trans aM;have Q:k'.c.mode= .returning:=G.f.a C;have J:k'.c.defers= []:=by
  have⟨d,aq,p,Y,Z,_⟩:=G.a;rw[ai,gu]at p;subst p;cases aq with
  |nil=>exact Y
  |cons _ _=>exact Z.elim
 have S:k'.c.tmps[r]?=some (.bool true):=by
  rcases G.b.d r with⟨x,_⟩| ⟨x,y,p,Y,Z⟩
  rw[al]at x;cases x;rw[al]at p;cases p;cases Z;exact Y
 have aI:∀w1:cr,ew TP true (G0 k'.c k'.d) w1= .ended (.done (.bool true)) w1 #[]:=λ w1=>by
  rw[aE];generalize k'.c=fr' at L O Q J S;have⟨t,E,X,a4,bb,kind,U⟩:=fr';subst L O Q J;have aR:eb fn E=eQ (.bool true):=by
   unfold eb;rw[aQ,hA];simp[S]
  have aT:ew TP true (G0 ⟨t,E,X,[],.returning,.normal,U⟩ []) w1=eV TP true ⟨t,E,X,[],.returning,.normal,U⟩ [] none w1:=rfl;rw[aT];simp[eV,K,aR];show p1 (seen TP t #[]) (l8 TP true ⟨t,E,X,[],.returning,.normal,U⟩ [] none (.bool true) w1)=_;simp only[l8,aN];rfl
 obtain⟨an,last,o,w2,aW,aX,aY,aZ,a0⟩:=beside_ends (P:=TP) (Shun:=eG ao) (B:=w'.heap.size) (D:=λ _ _ _=>False) (Post:=λ v H=>v= .bool true/\mq W H) (λ _ _ _ h=>h.elim) (n:=0) (sl:=V) h0 az aA (λ w1 aU=>by
  obtain⟨d,rfl⟩:=aU;exact⟨rfl,_,_,aI _,λ e aH=>by simp at aH,rfl,m.b,m.d,m.f,m.c,m.e⟩)
 have es:solo (ma (bk TP f args .normal) []) W=gE #[G0 k.c k.d] W none:=rfl;refine⟨N+an,last,o,w2,aW,?_,?_,aZ,a0⟩
 rw[es,Nat.add_assoc];exact zA s aX;rw[es,runN_add];have ar:runNT TP N (gE #[G0 k.c k.d] W none) #[]=(.next (gE ac w' V),t'):=s;have:=runNT_fst TP N (gE #[G0 k.c k.d] W none) #[];rw[ar]at this;rw[this.symm];exact aY
end
section
local instance:Abs.Dr:= ⟨false⟩
def pC(W:cr)(r:Nat):Bool:=match W.heap[r]? with|some (.cells ..)=>true|_=>false
theorem SB{W r}(h:pC W r=true):∃cs ty fr,W.heap[r]?=some (.cells cs ty fr):=by grind[pC]
theorem S8{W r cs ty fr}(h:W.heap[r]?=some (.cells cs ty fr)):pC W r=true:=by unfold pC;rw[h]
section
noncomputable local instance:aW:=Gh
abbrev kU(W:cr):=nP λ r=>pC W r=true
def py(W:cr)(y:b2):Value:=match y with| .agg cs=> .agg (cs.map (kU W))|y=>kU W y
def vx(W:cr):=∀g,Gl.a g=true->pC W g=true
def A4(W:cr)(i:vx W):ah where
 h:=λ r a=>r=a/\pC W r=true
 f:=λ r a b h k=>h.1.symm.trans k.1
 e:=λ r s a h k=>h.1.trans k.1.symm
 d:=λ r a h=>by rw[h.1]
 c:=λ g h=> ⟨rfl,i g h⟩
theorem Hf{W a β}(c:bF (A4 W a) β)(y):VR β (kU W y) y:=Yy (S:=λ r=>pC W r=true) (λ b h=>c _ _ ⟨rfl,h⟩) y
theorem afp{W a β}(b:bF (A4 W a) β)(y):VR β (py W y) y:=by unfold py;split;refine .gU (by simp) λ i v v' c d=>?_;grind[Hf];exact Hf b _
def Ee(W:cr):dr->dr| .cells cs ty _=> .cells (cs.map (kU W)) ty (0,cs.size)|_=> .cells #[] 0 (0,0)
def oJ(W:cr):={W with heap:=W.heap.map (Ee W)}
theorem QH{W}{r:Nat}{o}(h:W.heap[r]?=some o):(oJ W).heap[r]?=some (Ee W o):=by simp[oJ,h]
theorem Zl{W}(h:aW.n<=W.heap.size)(d):cw (pC W) (A4 W d) (oJ W) W:=by refine⟨λ r a b=>?_,λ r b=>?_,by simp[oJ];omega⟩;have⟨rfl,b⟩:=b;have⟨cs,ty,fr,e⟩:=SB b;refine⟨_,_,QH e,e,?_⟩;show OR _ _ (.cells _ _ _) _;have:=OR.qb (β:=A4 W d) (c:=cs.map (kU W)) (c':=cs) ty fr ⟨by simp,λ i v v' f g=>by grind[Hf,bF.b]⟩;grind;grind[SB,oJ,Array.size_map,fl]
theorem agd(W):Hd (oJ W):=by
 intro r o a;simp only[oJ,n1]at a;obtain⟨b,_,rfl⟩:=Option.map_eq_some_iff.1 a;have:∃cs ty fr,Ee W b= .cells cs ty fr:=by unfold Ee;split<;>exact⟨_,_,_,rfl⟩
 have⟨cs,ty,fr,e⟩:=this;rw[e];exact⟨by grind,rfl⟩
def okT:Abs.Ty->Bool| .ay _| .aO| .aJ=>true| .aF a b=>okT a&&okT b| .aH e=>okT e|_=>false
theorem BB{P P' W ok T}:(t:Abs.Ty)->okT t=true->{vs:List b2}->{d:t.b}->Abs.aw P t W ok vs d->Abs.aw P' t ((oJ W).tp T 0) (λ _=>True) (vs.map (kU W)) d
 | .ay _,_,vs,d,h=>by have h:vs=_:=h;rw[h];rfl| .aO,_,vs,d,h=>by have h:vs=_:=h;rw[h];rfl| .aJ,_,vs,d,h=>by have h:vs=_:=h;rw[h];rfl| .aF a b,c,vs,(x,y),h=>by simp[okT,hD]at c;refine⟨?_,?_⟩;rw[<-List.map_take];exact BB a c.1 h.1;rw[<-List.map_drop];exact BB b c.2 h.2| .aH e,c,vs,l,h=>by
  obtain⟨a,cap,rfl,f,m⟩:=h;obtain rfl| ⟨b,off,cs,k,fr,rfl,r,n,s,p,o⟩:=m;have g:l.length=0:=by omega
  rw[g];cases a with
  |none=>exact⟨none,0,by simp[nP,g],f,.inl rfl⟩|some ad=>by_cases j:pC W ad.block=true;exact⟨some ad,0,by simp[nP,j,g],f,.inl rfl⟩;exact⟨some r9,0,by simp[nP,j,g],f,.inl rfl⟩
  refine⟨some ⟨b,off,none⟩,cap,by grind[nP,S8],f,.inr ⟨b,off,cs.map (kU W),k,(0,cs.size),rfl,trivial,QH n,by grind,p,λ i x q=>?_⟩⟩;rw[Array.toList_map,Iy];exact BB e c (o i x q)| .dP _ _,c,_,_,_| .dX _ _,c,_,_,_| .cO _ _,c,_,_,_| .ec _,c,_,_,_=>by trivial
end
end
section
local instance:Abs.Dr:= ⟨false⟩
variable{W:World}{P:Program}{b:Nat}{t:TypeId}{v:Value}{ok:Nat->Prop}
section
noncomputable local instance:aW:=Gh
theorem KI(t)(c:okT t=true){cs x}(h:Abs.aw P t W ok cs x):py W (t.d cs)=t.d (cs.map (kU W))/\((t.d cs).cells.toList=cs):=by cases t with|aF a b=>grind[Abs.Ty.d,Abs.Ty.c,py,Value.cells]|ay k=>have h:cs=_:=h;subst h;trivial|aO=>have h:cs=_:=h;subst h;trivial|aJ=>have h:cs=_:=h;subst h;trivial|aH e=>obtain⟨a,cap,rfl,_⟩:=h;trivial|_=>trivial
theorem N7{P' T}:(c:List Abs.Ty)->c.all okT=true->{vs:List b2}->{x:Abs.ax c}->Abs.fe P W ok c vs x->Abs.fe P' ((oJ W).tp T 0) (λ _=>True) c (vs.map (py W)) x
 | [],_,vs,x,h=>by have h:vs= []:=h;subst h;rfl| [t],a,vs,x,h=>by
  obtain⟨cs,rfl,b⟩:=h;have a:okT t=true:=by grind
  have⟨d,e⟩:=KI t a b;refine⟨_,by grind,BB t a b⟩|t::u::c,a,vs,(x,y),h=>by obtain⟨cs,r,rfl,b,f⟩:=h;rw[p6,hD]at a;have⟨d,e⟩:=KI t a.1 b;refine⟨_,_,by grind,BB t a.1 b,N7 _ a.2 f⟩
theorem ab6{X:cr->Array b2->Prop}(aY:∀(w w':cr)(args:Array b2),w.heap=w'.heap->X w args->X w' args){C:Go.Checked}(G:C.prog=TP){os:Os}{f r:Nat}{fn:Go.Func}{s:ChangeSpec}{ins:List Abs.Ty}{Ts:List Nat}{tb:Nat}{g:Nat->Abs.ax ins->Option Bool}{nn:Nat}{l:Bool}
 {H:Type} {enc:Go.TypeId×b2->H}
 (own:ownKnob TP.godebug=none) (aK:os.Started) (aJ:TP.inits.idxOf? f=none) (Q:TP.funcs[f]?=some fn) (P:jS[f]?=some fn) (am:f≠147) (V:fn.results= #[.tmp r]) (ah:fn.body.isNone=false)
 (aL:∃(w:cr)(c:Tape)(i:Input),w.os=os/\(w.forCall c i).Shaped TP/\i.vars= []/\Input.okWide TP (w.forCall c i) .any w.heap.size f i/\
  ((s.pre enc TP fn [] l (w.forCall c i).memory i.args/\X (w.forCall c i).memory i.args)/\sizedMet enc TP fn (nB s) l (w.forCall c i).memory i.args)/\({}:Assume).holds TP (ea (bk TP f i.args .normal) [] (w.forCall c i)))
 (S:fn.params.toList=Ts) (aB:fn.resultTypes= #[tb]) (ag:TP.underlying tb=some .bool) (aq:laidOutB TP=true) (R:∀(w:cr),w.ShapedOpen TP->TP.globals.size<=w.heap.size/\vx w)
 (aC:Abs.qU TP nn Ts ins=true) (aw:ins.all okT=true) (aA:(Ts.all λ T=>TP.readableRec T&&decide (T<TP.types.size))=true) (aa:s.vars= [])
 (E:∀(b:List (DataW H)),b.length=Ts.length->s.fn H b={results:= [.lit (.bool true)],args:=b})
 (ak:∀n,Abs.jf CM.Q f ⟨ins,[],[.aO],λ x _=>g n x,false⟩)
 (ay:∀x,Abs.Fh ins x->∃n,g n x=some true):
 ReturnsInLeavingWide {} C os f .any (λ w args=>(s.pre enc TP fn [] l w args/\X w args)/\sizedMet enc TP fn (nB s) l w args) (s.post enc TP fn l true false false):=by
 have⟨aS,c2,c3,c4,aT,aU,aV⟩:=C;subst G;refine returnsInLeavingWide_of_good own aK aL ?_;intro w c i _ Y _ ax az _;have⟨_,_,_,F,an,_,_,_,_,a2⟩:=ax;have e:F=fn:=fz (an.symm.trans Q);subst e;have⟨⟨⟨b,ae,aR,aF,aZ⟩,A⟩,a3⟩:=az;have I:=q6 (w':=w.forCall c i) (by rfl) aF;generalize aX:w.forCall c i=W at*;have J:=I;obtain⟨p,q,z,af,rfl,_,_⟩:=I;have ao:ae= []/\q= []:=by
  grind[DataW.TrodVars]
 obtain⟨rfl,rfl⟩:=ao;rw[S]at z;have D:b.length=Ts.length:=by
  have:∀(Ts:List Nat)(vs:List b2)(b:List (DataW H))ps,pt enc TP W 0 (λ _=>true) true Ts vs b ps->b.length=Ts.length:=by
   intro Ts
   induction Ts with
   |nil=>grind[trodAll_nil]
   |cons T Ts ab=>
    grind[trodAll_cons]
  grind
 have aE:∀(j:Nat)(T:Nat)(v:b2),Ts[j]?=some T->i.args.toList[j]?=some v->Value.okWide TP W .any w.heap.size T v:=λ j T v hT Z=>by
  grind
 have⟨x,A,aG⟩:=Abs.L4 nn Ts ins aC i.args.toList b p w.heap.size aE z;have⟨n,av⟩:=ay x aG;have⟨_,ai⟩:=ak n;have a1:i.args.toList.length=Ts.length:=by
  have:∀(Ts:List Nat)(vs:List b2)(b:List (DataW H))ps,pt enc TP W 0 (λ _=>true) true Ts vs b ps->vs.length=Ts.length:=by
   intro Ts
   induction Ts with
   |nil=>intro vs b ps h;have⟨m,_⟩:=trodAll_nil h;rw[m];rfl
   |cons T Ts ab=>
    intro vs b ps h;obtain⟨v,a4,d,aW,p,q,rfl,rfl,rfl,m,B⟩:=trodAll_cons h;simp[ab _ _ _ B]
  exact this _ _ _ _ z
 have⟨M,last,o,w',t',aM,aN,aP,aQ⟩:=UI Q P am V ah aJ (W:=W) (v0:=oJ W) (args:=i.args) (xs:=i.args.map (py W)) (Zl (R W Y).1 (R W Y).2) (agd W)
  ⟨by simp,λ j v v' m B=>by rw[n1,B]at m;cases m;exact afp (bF.b _) v'⟩ (λ r a h=>h.2) λ T=>by
   have L:=ai ((oJ W).tp T 0) (λ _=>True) (i.args.toList.map (py W)) [] x () true (N7 ins aw A) rfl av;have e:(i.args.toList.map (py W)++ []).toArray=i.args.map (py W):=by
    rw[gu];apply lk.1;simp
   rw[e]at L;obtain⟨e,w2,fr,⟨v,rfl,a0,t,_⟩,aj,O,ar⟩:=L [gd];obtain⟨cs,rfl,t⟩:=t;have t:cs= [.bool true]:=t;subst t;have⟨aI,aD⟩:=aj;have⟨au,al,ap,ad,N,k⟩:=ar;refine⟨aI,fr,w2,aD,au,al,O,ap,?_⟩;rw[O]at N;have ac:ad=F:=fz (N.symm.trans P);subst ac;unfold eb at k;rw[V,hA]at k;simp at k;cases U:fr.tmps[r]? with
   |none=>rw[U]at k;cases k
   |some y=>
    rw[U]at k;have aH:y= .bool true:=k;rw[aH]
 refine⟨M,last,o,w',t',aM,aN,aP,aQ.mono λ v⟨Z,u⟩=>q5 ?_⟩;subst Z;have K:iA W.heap.size W w':= ⟨u.f,u.e,u.c,u.b,u.d⟩;refine⟨b,[],p++ [],[],p,[],J,?_,?_,?_,?_,λ h=>(by cases h)⟩
 rw[aB];have:s.fn H (b++ [])={results:= [.lit (.bool true)],args:=b}:=by rw[gu];exact E b D
 rw[this];exact trodAll_mk1 (shut_bool ag true);have:s.fn H (b++ [])={results:= [.lit (.bool true)],args:=b}:=by rw[gu];exact E b D
 rw[this,S];refine Abs.Sq aq K Ts (λ T hT=>?_) _ _ _ z (λ x A=>J.lt x (List.mem_append_left _ A));have:=o2.1 aA T hT;simpa using this;have:s.fn H (b++ [])={results:= [.lit (.bool true)],args:=b}:=by rw[gu];exact E b D
 rw[this,aa];rfl;exact K.frame _
end
end
section
local instance:Abs.Dr:= ⟨false⟩
open Go.Abs (bS bA eU dW bq iT aX dJ)
def va(a:bA):List bA->List bA| []=> [a]|b::l=>bif decide (dJ a b<=0)then a::b::l else b::va a l
def yV:List bA->List bA| []=> []|a::l=>va a (yV l)
theorem ai8(a b c)(h1:decide (dJ a b<=0)=true)(h2:decide (dJ b c<=0)=true):decide (dJ a c<=0)=true:=by simp[decide_eq_true_eq]at h1 h2⊢;exact(Abs.EP (l:=Abs.eT a) (m:=Abs.eT b) (k:=Abs.eT c) rfl rfl h1 h2).1
theorem acW(a b):(decide (dJ a b<=0)||decide (dJ b a<=0))=true:=by have:dJ b a= - dJ a b:=Abs.xG rfl;grind
theorem Hj(a):∀l,(a::l).Perm (va a l)| []=>p5 _|b::l=>by unfold va;cases decide (dJ a b<=0)with|true=>rfl|false=>exact(List.Perm.swap b a l).trans ((Hj a l).cons b)
theorem OE:∀L:List bA,L.Perm (yV L)| []=>p5 _|a::l=>((OE l).cons a).trans (Hj a _)
theorem QU(a):∀l,p8 (λ a b=>dJ a b<=0) l->p8 (λ a b=>dJ a b<=0) (va a l)| [],_=>by simp[va]|b::l,h=>by have d:=hB.1 h;unfold va;cases e:decide (dJ a b<=0)with|true=>grind[hB,ai8]|false=>refine hB.2 ⟨λ x c=>?_,QU a l d.2⟩;rcases hN.1 ((Hj a l).mem_iff.2 c)with rfl|c;all_goals grind[acW]
theorem SG:∀L,mP (yV L)| []=>rV|a::l=>QU a _ (SG l)
def CG(a:eU)(b:List bS)(num:Int):=if(0<a.1.length/\a.1.length<7)/\a.2.length<1000000/\(0<b.length/\b.length<1000000)/\(∀h∈a.2,h.1≠h.2)then some (yV (b.flatMap (b4 1000001 a num)))else none
theorem abO{a w u n0 L}(C:a.tmps.size=64)(OJ:a.tmps[48]?=some u)(p:Abs.xe w n0 u L)(N:L.length<=36000000):rK.wp CM.Q (λ e a' w'=>e= .normal/\a'.defers=a.defers/\(w'.os=w.os/\w'.tape=w.tape/\w'.output=w.output)/\w.heap.size<=w'.heap.size/\(∀r,r<w.heap.size->w'.heap[r]?=w.heap[r]?)/\∃v,a'.tmps[51]?=some v/\
  ((v= .slice none 0 0/\L= [])\/∃b cap cs,v= .slice (some ⟨b,0,none⟩) L.length cap/\w.heap.size<=b/\w'.heap[b]?=some (.cells cs 231 (0,0))/\L.length<=cap/\cap<=hs/\cap*27<=cs.size/\∀i x,L[i]?=some x->Abs.aS cs.toList (i*27) 27=aX bq x)) a w:=by
 have q:∀y,(aX bq y).length=27:=λ y=>Abs.mz bq rfl y;refine j2 ?_;show ht _ lg _ [0,1] a w;rw[l4];unfold wpOp;rw[show lg[0]?=some ⟨_,_,_,_,_,_⟩from rfl];refine .inl ?_;unfold l9;rw[show(eg _ _).run _ w= .ok (.value (.slice _ 0 0)) w from rfl,hY,l4];unfold wpOp;rw[show lg[1]?=some ⟨_,_,_,_,_,_⟩from rfl];let d:=a.put (some 50) (.slice none 0 0);refine .inl ?_;unfold l9;have F:d.eval (.tmp 50)= .slice none 0 0:=by simp[d,ep,hQ,C]
 have E:d.eval (.tmp 48)=u:=by
  simp[d,ep,hQ];simp_all
 have J:=F4 (ρ:=d.eval) (o:= ⟨some 51,.call {callee:= .builtin .append,args:= #[.tmp 50,.tmp 48],argTypes:= #[228,228]},228,"x",#[],none⟩) rfl F E;have k:∀v,(d.put (some 51) v).tmps[51]?=some v:=λ v=>by
  show((a.tmps.setIfInBounds 50 _).setIfInBounds 51 v)[51]?=some v;grind
 by_cases h0:L.length=0;have D:u= .slice none 0 0\/∃a c,u= .slice (some a) 0 c:=by
  obtain⟨h,_⟩| ⟨l,off,cap,cs,T,h,_⟩:=p
  all_goals grind
 have g:(eg d.eval ⟨some 51,.call {callee:= .builtin .append,args:= #[.tmp 50,.tmp 48],argTypes:= #[228,228]},228,"x",#[],none⟩).run CM.Q w= .ok (.value (.slice none 0 0)) w:=by
  simp_all[dk,Og]
 rw[(g),hY];exact⟨rfl,rfl,⟨rfl,rfl,rfl⟩,ej _,λ _ _=>rfl,_,k _,by grind⟩;obtain⟨_,h⟩| ⟨l,off,s,cs,G,D,O,K,t⟩:=p;grind;have Q:(L.flatMap (aX bq)).length=L.length*27:=uE q;have cell:∀j,j<L.length*27->cs[off+j]?=(L.flatMap (aX bq))[j]?:=λ j z=>by
  have f:j/27<L.length:=by omega
  have h:=t (j/27) _ (gf f);have H:=tq q L (j/27) (j%27) _ (gf f) (qF _ (by omega));grind[Abs.aS]
 have B:=o1 (P:=CM.Q) (w:=w) 228 228 231 fI fZ Cw E2 fI_z ⟨l,off,none⟩ L.length s (L.flatMap (aX bq)) (by trivial) (λ j v z=>by
  grind[fv,pS,l1]) (by omega) (by omega) (by rw[se];omega)
 have m:=grownCap_ge w L.length 0 231;have n:=grownCap_le_maxLen w L.length 0 231 (by unfold hs;omega);generalize I:grownCap w L.length 0 231=cap at B m n;have R:(gk fZ.cells (cap- L.length)).size=(cap- L.length)*27:=by
  rw[oj,FN]
 have g:(eg d.eval ⟨some 51,.call {callee:= .builtin .append,args:= #[.tmp 50,.tmp 48],argTypes:= #[228,228]},228,"x",#[],none⟩).run CM.Q w= .ok (.value (.slice (some ⟨w.heap.size,0,none⟩) L.length cap)) (w.drew.alloc (.cells ((L.flatMap (aX bq)).toArray++gk fZ.cells (cap- L.length)) 231)):=by
  simp_all
 rw[(g),hY];refine⟨rfl,rfl,⟨rfl,rfl,rfl⟩,?_,λ r g=>?_,_,k _,.inr ⟨w.heap.size,cap,(L.flatMap (aX bq)).toArray++gk fZ.cells (cap- L.length),rfl,ej _,?_,m,n,?_,λ i x f=>?_⟩⟩;simp;show(w.heap.push _)[r]?=_;grind;show(w.heap.push _)[w.heap.size]?=_;simp
 grind
 refine k8 λ j=>?_;grind[Abs.aS,o0,tq,ng]
end
section
local instance:Abs.Dr:= ⟨false⟩
open Go.Abs (bS bA eU dW bq iT aX dJ)
theorem Tz{w:cr}{D r}(h:r≠D):(w.putObj D (.deferred none)).heap[r]?=w.heap[r]?:=mb h
theorem S6{R b v n0}(LN:b[51]?=some v):∀a w,a.Nodup->(∀d∈a,∃D,d={target:= .collected D,args:= #[]}/\n0<=D/\w.heap[D]?=some (.deferred (some [])))->(∀w',w'.os=w.os->w'.tape=w.tape->w'.output=w.output->w'.heap.size=w.heap.size->(∀r,(r<n0\/∀o,w.heap[r]?≠some (.deferred o))->w'.heap[r]?=w.heap[r]?)->R (.returned v) w')->LeavesInM Fence.wide 7 CM.Q kh b R a .returning w
 | [],w,_,_,h=>by
  have c:(eb kh b).run CM.Q w= .ok v w:=by unfold eb;rw[show kh.results= #[.tmp _]from rfl,hA];simp_all
  exact⟨v,c,by grind⟩|d::a,w,hnd,hd,h=>by
  obtain⟨D,rfl,n,f⟩:=hd d (by simp);rw[pN]at hnd;have e:(gg D).run CM.Q w= .ok [] (w.putObj D (.deferred none)):=by simp_all[gg,getObj,setObj,dk,hq,ih]
  refine⟨by simp,.inl ⟨D,_,rfl,e,S6 (n0:=n0) LN a _ hnd.2 (λ m p=>?_) λ w' g i j k l=>?_⟩⟩;all_goals grind[nz,Tz,trans,ih,id]
def V9:Abs.fc:= ⟨Abs.wM,[],[.aH bq],λ x _=>CG x.1 x.2.1 x.2.2,true⟩
theorem Ww:Abs.jf CM.Q 147 V9:=by
 refine⟨⟨kh,qa,by decide,rfl⟩,λ w ok vs cs x y r o p k=>?_⟩;have p:cs= []:=p;subst p;rw[gu];have⟨q,I,num⟩:=x;have k:CG q I num=some r:=k;unfold CG at k;split at k
 ·rename_i aa;have⟨⟨Z,C⟩,A,⟨Y,B⟩,F⟩:=aa;cases k;have h:(1000000:Nat)<1000001:=by omega
  have ak:∀x,(b4 1000001 q num x).length<=36:=λ x=>Abs.N.NA h C A F num x;have av:(I.flatMap (b4 1000001 q num)).length<=36000000:=by
   have ar:∀l:List bS,(l.flatMap (b4 1000001 q num)).length<=l.length*36:=λ l=>by
    induction l with
    |nil=>simp
    |cons a l ax=>
     grind
   grind
  have H:vs.length=3:=by obtain⟨_,_,rfl,_,_,_,rfl,_,_,rfl,_⟩:=o;rfl
  refine lA.1 (callsIn_of_wp_marks (n:=7) qa rfl trivial (wpIn_wide.2 ?_));have E:∀i,i<3->(vs.toArray++ef (64- vs.toArray.size) df)[i]?=vs[i]?:=λ i t=>by grind
  refine et (fR (alR o (by have:kh.ntmps=64:=rfl;grind) E) ?_);rintro e al w0⟨rfl,z,aj,W,k0⟩;have z:=z.symm;subst z;refine et (fR (Abs.Kq FM o (Abs.N.P5 h C A F Z num B Y) aj W (by grind)) ?_);rintro e s w1⟨rfl,c⟩;have⟨own,Q,ae⟩:=c.f;refine et (fR (Q0 FM Q ae (by omega)) ?_);rintro e am w2⟨rfl,rfl,⟨s1,s2,s3⟩,az,ah,L,u,p2,p3⟩;have B:L=yV (I.flatMap (b4 1000001 q num)):=JB (u.symm.trans (OE _)) p2 (SG _) λ a E b j G=>by
   have⟨x,_,o⟩:=hG.1 (u.symm.subset E);have⟨y,_,p⟩:=hG.1 (u.symm.subset j);exact Abs.N.RQ h C A F o p G
  have ad:L.length<=36000000:=by rw[<-u.length_eq];omega
  rw[<-B];refine et (fR (abO (a:=s.put _ _) (by simp[ep,c.e]) (by
   show(s.tmps.setIfInBounds 49 _)[48]?=some _;grind) p3 ad) ?_)
  rintro e R w3⟨rfl,d3,⟨t1,t2,t3⟩,aA,ai,v,P,H⟩;refine wp_ret ?_;show LeavesInM _ 7 _ _ _ _ _ _ _;rw[d3];refine S6 (n0:=w.heap.size) P s.defers w3 c.c (λ d ab=>?_) λ w' S T U an V=>?_
  ·have⟨D,ao,ap,aq⟩:=c.b d ab;grind
  ·have aw:w.heap.size<=w1.heap.size:=c.a.f;have G:Abs.cm w w':={
    m:=by rw[S,t1,s1,c.a.m]
    i:=by rw[T,t2,s2,c.a.i]
    g:= ⟨by rw[U,t3,s3,c.a.g.d],λ d=>by cases d⟩
    f:=by omega
    e:=λ b j=>by
     rw[V b (.inl j),ai b (by omega),ah b (by omega) (.inl j)];exact c.a.e b j}
   have O:∀(b cap:Nat) cs,w3.heap[b]?=some (j3 cs 231 (0,0))->w'.heap[b]?=some (j3 cs 231 (0,0)):=λ b cap cs au=>by
    grind
   refine⟨v,rfl,G,?_,λ _=>?_⟩
   ·obtain⟨rfl,h⟩| ⟨b,cap,cs,rfl,af,J,K,M,ag,N⟩:=H
    ·refine⟨[.slice _ 0 0],rfl,none,0,?_,?_,.inl rfl⟩
     all_goals grind
    ·refine⟨[.slice (some ⟨b,0,none⟩) L.length cap],rfl,_,cap,rfl,K,.inr ⟨b,0,cs,231,(0,0),rfl,.inr (by omega),O b cap cs J,?_,.inr M,λ i x t=>?_⟩⟩
     show 0+cap*27<=cs.size;omega;have:=N i x t;refine(Abs.kJ _ rfl x _).2 ?_;rw[kg];trivial
   ·obtain⟨rfl,h⟩| ⟨b,cap,cs,rfl,af,J,K,M,ag,N⟩:=H
    exact .inl ⟨rfl,h⟩;refine .inr ⟨b,0,cap,cs,231,rfl,by omega,O b cap cs J,K,M,?_,λ i x t=>?_⟩;show 0+cap*27<=cs.size;omega;have:=N i x t;refine(Abs.kJ _ rfl x _).2 ?_;rw[kg];trivial
 trivial
end
end Go.Rs
namespace Go.Abs.R
open Go.Abs
section
local instance:Dr:= ⟨false⟩
def Zc:Go.Shelf.Ren:= ⟨λ _=>133,λ x=>bif gb x 22 then 26 else x,λ x=>x⟩
theorem Fv:rr b0.Q Zc where
 mixed:=b0.b
 f15:=b0.k mm
 t3:=by kernel_rfl
 a3:=λ w=>by kernel_rfl
 z3:=λ w=>by kernel_rfl
 v3:=λ w=>by kernel_rfl
 i3:=by kernel_rfl
 t4:=by kernel_rfl
 a4:=λ w=>by kernel_rfl
 z4:=λ w=>by kernel_rfl
 v4:=λ w=>by kernel_rfl
 t22:=by kernel_rfl
 a22:=λ w=>by kernel_rfl
 z22:=λ w=>by kernel_rfl
 v22:=λ w=>by kernel_rfl
theorem U2{f T:Nat}{t enc}(h1:t.a=1)(D:∀w ok vs x,aw b0.Q t w ok vs x↔vs= [enc x]) (L:∀cap w,hv b0.Q f #[.slice none 0 cap] w λ e w'=>e= .returned (.slice none 0 0)/\w'=w) (N:∀ad cap w,hv b0.Q f #[.slice (some ad) 0 cap] w λ e w'=>∃v',e= .returned v'/\w'.ownsRow w.heap.size T 1 v' 0 []/\v'≠ .slice none 0 0/\iA w.heap.size w w') (F:∀b off(r:List t.b)cap w,r.length<=4294967296->(∀j y,w.cell? ⟨b,off+j,none⟩=some (enc r[j]))->hv b0.Q f #[.slice (some ⟨b,off,none⟩) r.length cap] w λ e w'=>∃v',e= .returned v'/\w'.ownsRow w.heap.size T 1 v' r.length (r.map enc)/\v'≠ .slice none 0 0/\iA w.heap.size w w') (r) (w) (ok) (ad) (cap) (P:r.length<=iZ) (C:r= []\/∃b off cs T fr,ad=some ⟨b,off,none⟩/\ok b/\w.heap[b]?=some (.cells cs T fr)/\off+r.length*t.a<=cs.size/\∀i x,r[i]?=some x->aw b0.Q t w ok (aS cs.toList (off+i*t.a) t.a) x):hv b0.Q f #[.slice ad r.length cap] w λ e w'=>∃v,e= .returned v/\cm w w'/\iL b0.Q w' (ft ok w) [.aH t] v r/\(true=true->kz b0.Q w.heap.size w' (ft ok w) [.aH t] v r):=by
 have fin:∀w' v',w'.ownsRow w.heap.size T 1 v' r.length (r.map enc)->iA w.heap.size w w'->∃v,Ending.returned v'= .returned v/\cm w w'/\iL b0.Q w' (ft ok w) [.aH t] v r/\(true=true->kz b0.Q w.heap.size w' (ft ok w) [.aH t] v r):=by
  intro w' v' M l;have B:rj b0.Q w.heap.size w' (ft ok w) t v' r:=by
   obtain⟨_,⟨k,a⟩| ⟨g,c,m,k,a,n,p,q,s,u⟩⟩:=M
   exact .inl ⟨k,List.length_eq_zero_iff.1 a⟩;refine .inr ⟨g,0,c,m,T,k,a,n,p,q,by simp[h1,s],λ i z o=>?_⟩;have E:m.toList[i]?=some (enc z):=by
    have:(m.toList.take (r.length*1))[i]?=some (enc z):=by rw[u,List.getElem?_map,o];rfl
    rw[hZ]at this;split at this;exact this;cases this
   rw[D,h1,kg,qz];unfold aS;rw[List.drop_eq_getElem_cons ((fv.1 E).1)];have:=(fv.1 E).2;simp[this]
  refine⟨v',rfl,⟨l.os,l.tape,⟨l.output,λ d=>(by cases d)⟩,l.size,l.block⟩,⟨[v'],rfl,?_⟩,λ _=>B⟩;obtain⟨k,a⟩| ⟨g,off,c,m,A,k,a,n,p,q,s,u⟩:=B;refine⟨none,0,by rw[k,a];rfl,by rw[a];exact ej _,.inl rfl⟩;refine⟨_,c,by rw[k],p,.inr ⟨g,off,m,A,_,rfl,.inr a,n,s,.inr q,λ i z o=>(u i z o).c λ b l _=>l.1⟩⟩
 cases ad with|none=>
  have J:r= []:=by
   obtain h| ⟨b,off,cs,T,fr,h,_⟩:=C
   exact h;cases h
  subst J;refine(L _ w).mono ?_;rintro e w'⟨rfl,rfl⟩;exact fin _ _ ⟨rfl,.inl ⟨rfl,rfl⟩⟩ (rm _ _)|some ad=>
  by_cases K:r= [];subst K;refine(N _ _ w).mono ?_;grind;obtain h| ⟨b,off,cs,A,fr,h,Q,H,R,G⟩:=C;trivial;cases h;refine(F b off r cap w (by trivial) (λ j y=>?_)).mono ?_;rw[l1 w b _ _ _ _ H];have k:=(D w ok _ _).1 (G j _ (gf y));have a:(aS cs.toList (off+j) 1)[0]?=some (enc (r[j]'y)):=by grind
  have⟨_,n⟩:=Ct a;grind;grind
def Gu(n:Nat)(s:List Int):=(jk (hh s)).bind λ _=>some s
def PJ(n:Nat):fc:= ⟨[.aH (.ay .i64)],[],[.aH (.ay .i64)],λ x y=>Gu n x,true⟩
theorem ac3(n):jf b0.Q 133 (PJ n):=by
 refine⟨⟨_,b0.a mm (by kernel_rfl) (by decide),by kernel_rfl,by kernel_rfl⟩,?_⟩;intro w ok vs cs x y r i j c;obtain⟨us,rfl,ad,cap,rfl,d,g⟩:=i;have f:cs= []:=j;subst f;have c:(jk (hh (α:=Int) x)).bind (λ _=>some x)=some r:=c;have a:hh (α:=Int) x<=iZ/\r=x:=by grind[jk]
 have⟨a,rfl⟩:=a;refine U2 (t:= .ay _) (enc:=λ z=> .int _ z) rfl (λ _ _ _ _=>Iff.rfl) (q0 Fv 0) (qO Fv) ?_ r w _ _ _ a (g.imp (λ h=>List.eq_nil_of_length_eq_zero (by omega)) λ⟨b,off,_,T,_,e,k1,k,l,_,m⟩=> ⟨b,_,_,T,_,e,k1,k,hg (Nat.add_le_add_left (nv _ d) _) l,m⟩);grind[q4,Fv,hh,gf,List.take_length]
def ad6:Go.Shelf.Ren:= ⟨λ|219=>184|217=>214|225=>215|224=>216|267=>217|266=>233|314=>234|n=>n,λ|9=>9|3=>3|4=>4|5=>5|46=>237|146=>313|51=>250|n=>n,λ|1=>0|n=>n⟩
theorem V4:rH b0.Q ad6 where
 mixed:=b0.b
 f217:=b1 mn
 f219:=b1 kL
 f224:=b1 mo
 f225:=b1 mr
 f266:=b1 mv
 f267:=b1 mx
 f314:=b1 mA
 t3:=by kernel_rfl
 a3:=λ w=>by kernel_rfl
 z3:=λ w=>by kernel_rfl
 v3:=λ w=>by kernel_rfl
 t4:=by kernel_rfl
 a4:=λ w=>by kernel_rfl
 z4:=λ w=>by kernel_rfl
 v4:=λ w=>by kernel_rfl
 t5:=by kernel_rfl
 a5:=λ w=>by kernel_rfl
 z5:=λ w=>by kernel_rfl
 v5:=λ w=>by kernel_rfl
 t9:=by kernel_rfl
 a9:=λ w=>by kernel_rfl
 z9:=λ w=>by kernel_rfl
 v9:=λ w=>by kernel_rfl
 t46:=by kernel_rfl
 a46:=λ w=>by kernel_rfl
 z46:=λ w=>by kernel_rfl
 v46:=λ w=>by kernel_rfl
 t51:=by kernel_rfl
 a51:=λ w=>by kernel_rfl
 z51:=λ w=>by kernel_rfl
 v51:=λ w=>by kernel_rfl
 t146:=by kernel_rfl
 a146:=λ w=>by kernel_rfl
 z146:=λ w=>by kernel_rfl
 v146:=λ w=>by kernel_rfl
 g1:=by kernel_rfl
def Zo:Go.Shelf.Ren:= ⟨λ|138=>160|195=>185|218=>186|143=>158|219=>184|217=>214|225=>215|224=>216|267=>217|266=>233|314=>234|n=>n,λ|9=>9|3=>3|4=>4|5=>5|0=>0|46=>237|146=>313|51=>250|n=>n,λ|1=>0|n=>n⟩
theorem WI:rL b0.Q Zo where
 mixed:=b0.b
 f138:=b1 mZ
 f143:=b1 q7
 f195:=b1 q8
 f217:=b1 mn
 f218:=b1 q9
 f219:=b1 kL
 f224:=b1 mo
 f225:=b1 mr
 f266:=b1 mv
 f267:=b1 mx
 f314:=b1 mA
 t0:=by kernel_rfl
 a0:=λ w=>by kernel_rfl
 z0:=λ w=>by kernel_rfl
 v0:=λ w=>by kernel_rfl
 t3:=by kernel_rfl
 a3:=λ w=>by kernel_rfl
 z3:=λ w=>by kernel_rfl
 v3:=λ w=>by kernel_rfl
 t4:=by kernel_rfl
 a4:=λ w=>by kernel_rfl
 z4:=λ w=>by kernel_rfl
 v4:=λ w=>by kernel_rfl
 t5:=by kernel_rfl
 a5:=λ w=>by kernel_rfl
 z5:=λ w=>by kernel_rfl
 v5:=λ w=>by kernel_rfl
 t9:=by kernel_rfl
 a9:=λ w=>by kernel_rfl
 z9:=λ w=>by kernel_rfl
 v9:=λ w=>by kernel_rfl
 t46:=by kernel_rfl
 a46:=λ w=>by kernel_rfl
 z46:=λ w=>by kernel_rfl
 v46:=λ w=>by kernel_rfl
 t51:=by kernel_rfl
 a51:=λ w=>by kernel_rfl
 z51:=λ w=>by kernel_rfl
 v51:=λ w=>by kernel_rfl
 t146:=by kernel_rfl
 a146:=λ w=>by kernel_rfl
 z146:=λ w=>by kernel_rfl
 v146:=λ w=>by kernel_rfl
 g1:=by kernel_rfl
def BL(n:Nat)(s:List UInt8)(t:List UInt8):=match t with| [c]=>some (Lib.indexByte s c)|_=>none
def T7(n:Nat):fc:= ⟨[.aJ,.aJ],[],[.ay .i64],λ x y=>BL n x.1 x.2,false⟩
theorem abx(n):jf b0.Q 184 (T7 n):=by
 refine⟨⟨_,b3 kL (by kernel_rfl) (by decide),by kernel_rfl,by kernel_rfl⟩,?_⟩;intro w ok vs cs x y r k l a;have⟨s,t⟩:=x;obtain⟨us,rest,rfl,f,m,g,i⟩:=k;have j:cs= []:=l;subst j;have a:BL n s t=some r:=a;unfold BL at a;split at a;rename_i c _;cases a;have b:us= [.string ⟨⟨s⟩⟩]:=f;subst b i;rw[g];refine(qW V4 ⟨⟨s⟩⟩ c w).mono ?_;rintro e w'⟨rfl,rfl⟩;exact⟨_,rfl,cm.h _,⟨[_],rfl,rfl⟩,λ h=>by cases h⟩;cases a
def Bp(n:Nat)(s:List UInt8)(t:List UInt8):=match t with| [c]=>some ((Lib.countByte s c:Nat):Int)|_=>none
def QB(n:Nat):fc:= ⟨[.aJ,.aJ],[],[.ay .i64],λ x y=>Bp n x.1 x.2,false⟩
theorem aeV(n):jf b0.Q 160 (QB n):=by
 refine⟨⟨_,b3 mZ (by kernel_rfl) (by decide),by kernel_rfl,by kernel_rfl⟩,?_⟩;intro w ok vs cs x y r k l a;have⟨s,t⟩:=x;obtain⟨us,rest,rfl,f,m,g,i⟩:=k;have j:cs= []:=l;subst j;have a:Bp n s t=some r:=a;unfold Bp at a;split at a;rename_i c _;cases a;have b:us= [.string ⟨⟨s⟩⟩]:=f;subst b i;rw[g];refine(q3 WI ⟨⟨s⟩⟩ c w).mono ?_;rintro e w'⟨rfl,rfl⟩;exact⟨_,rfl,cm.h _,⟨[_],rfl,rfl⟩,λ h=>by cases h⟩;cases a
def TI(n:Nat)(s:List UInt8)(k:Int):Option (List (List UInt8)):=none
def Ps(n:Nat):fc:= ⟨[.aJ,.ay .i64],[],[.aH .aJ],λ x y=>TI n x.1 x.2,true⟩
theorem ahr(n):jf b0.Q 159 (Ps n):=by refine⟨⟨_,b3 re (by kernel_rfl) (by decide),by kernel_rfl,by kernel_rfl⟩,?_⟩;intro w ok vs cs x y r b c a;cases a
variable{o:Oper}{x:Operand}{c2:Int}{v:Value}
def mK:Nat->Code->Array Go.Oper|0,.seq (.region _ ops _) _=>ops|k+1,.seq _ b=>mK k b|_,_=> #[]
def uZ(k i:Nat)(c:Code):=(mK k c).toList.getD i ⟨none,.move (.tmp 0),0,"",#[],none⟩
abbrev eK(b:Nat):Value:= .pointer (some ⟨b,0,none⟩)
theorem H3{P T}(h:o.op= .box T x)(a:eH)(w):(eg a.eval o).run P w= .ok (.value (eK w.heap.size)) (w.alloc (.cells (a.eval x).cells T)):=by simp[eg,h,Instr.box];rfl
theorem vP{P}(h:o.op= .assign x\/o.op= .move x)(a:eH)(w):(eg a.eval o).run P w= .ok (.value (a.eval x)) w:=by unfold eg;rcases h with h|h<;>(rw[h];rfl)
theorem TC{α β:Type}(xs:Array α)(f:α->β):xs.map f=(xs.toList.map f).toArray:=by apply Array.ext';simp
theorem acd{P}{f:Nat}{cap}(h:o.op= .makeFunc (.func f) #[] cap)(a:eH)(w):(eg a.eval o).run P w= .ok (.value (.func (.func f) #[] (cap.toList.map a.eval).toArray)) w:=by rw[<-TC];simp[eg,h,Instr.makeFunc]
def Bi(e:List UInt8)(c1:List UInt8)(c2:Int):au:={N:=52,d:= [],a:=(0,⟨[],true,.v .ku⟩):: [(1,⟨[],true,.v (.dx 0 0 0)⟩),(2,⟨[],true,.v (.dx 1 0 0)⟩),(3,⟨[],true,.v (.dx 2 0 0)⟩)],b:= [(0,(0,.eu .aJ [.aE .aJ e])),(1,(0,.eu .aJ [.aE .aJ c1])),(2,(0,.eu (.ay .i64) [.aE (.ay .i64) c2]))],c:= []}
def A3(n0:Nat)(b:Nat):=b=n0\/b=n0+1\/b=n0+2
def MO(n0:Nat)(B:Nat->Prop)(l:Nat):bf:= ⟨λ id=>match id with|0=>some (0,eK (n0+1),true)|1=>some (0,eK n0,true)|2=>some (0,eK (n0+2),true)|_=>none,B,l⟩
theorem Ho{n0 B l id v c a}(h:MO n0 B l id=some (v,c,a)):v=0/\a=true/\((id=0/\c=eK (n0+1))\/(id=1/\c=eK n0)\/(id=2/\c=eK (n0+2))):=by match id,h with|0,h=>cases h;exact⟨rfl,rfl,.inl ⟨rfl,rfl⟩⟩|1,h=>cases h;exact⟨rfl,rfl,.inr (.inl ⟨rfl,rfl⟩)⟩|2,h=>cases h;exact⟨rfl,rfl,.inr (.inr ⟨rfl,rfl⟩)⟩|_+3,h=>cases h
theorem Qy{a c1 d sl}(h:Map.av (Bi a c1 c2).a d=some sl):(d=0/\sl= ⟨[],true,.v .ku⟩)\/(d=1/\sl= ⟨[],true,.v (.dx 0 0 0)⟩)\/(d=2/\sl= ⟨[],true,.v (.dx 1 0 0)⟩)\/(d=3/\sl= ⟨[],true,.v (.dx 2 0 0)⟩):=by match d,h with|0,h=>cases h;exact .inl ⟨rfl,rfl⟩|1,h=>cases h;exact .inr (.inl ⟨rfl,rfl⟩)|2,h=>cases h;exact .inr (.inr (.inl ⟨rfl,rfl⟩))|3,h=>cases h;exact .inr (.inr (.inr ⟨rfl,rfl⟩))|_+4,h=>cases h
theorem Yf{P W n0 l}{ok:Nat->Prop}{G c1}(h1:W.heap[n0]?=some (.cells #[.string ⟨⟨c1⟩⟩] 9 (0,0)))(h0:W.heap[n0+1]?=some (.cells #[.string ⟨⟨G⟩⟩] 9 (0,0)))(h2:W.heap[n0+2]?=some (.cells #[.int .i64 c2] 3 (0,0))):cT P ⟨W,λ b=>(ok b\/A3 n0 b)\/W.heap.size<=b,A3 n0,[],#[],l,W.heap.size⟩ (Bi G c1 c2) {tmps:=(#[j1 (.yield l) #[] #[]]++ [eK (n0+1),eK n0,eK (n0+2)].toArray)++ef (52- (#[j1 (.yield l) #[] #[]]++ [eK (n0+1),eK n0,eK (n0+2)].toArray).size) df,defers:= []} W:=by
 have M:n0+2<W.heap.size:=(fl.1 h2).1;let B:Nat->Prop:=λ b=>(ok b\/A3 n0 b)\/W.heap.size<=b;have E:∀b C,dB (eK b) C->C=b:=λ b C h=>have h:some b=some C:=h;(fz h).symm
 have D:∀d v,([.func (.yield l) #[] #[],eK (n0+1),eK n0,eK (n0+2)]:List b2)[d]?=some v->((#[j1 (.yield l) #[] #[]]++ [eK (n0+1),eK n0,eK (n0+2)].toArray)++ef (52- (#[j1 (.yield l) #[] #[]]++ [eK (n0+1),eK n0,eK (n0+2)].toArray).size) df)[d]?=some v:=λ d v h=>by
  have L:d<4:=by have:=(fv.1 h).1;simpa using this
  rw[kH (by simp;omega)];simpa using h
 refine⟨MO n0 B l,{g:=rfl,n:=by simp[Bi],m:=λ d sl a p hp=>?_,k:=λ d sl a=>?_,q:=λ id ver o s=>?_,r:=λ id a=>?_,t:=λ i j J N c c' b z F y I=>?_,f:=λ i J c b z y=>?_,e:= ⟨rfl,rfl,⟨rfl,λ _=>ej _⟩,ej _,λ _ _ _=>rfl⟩,u:=rfl,x:=rfl,h:= ⟨λ b y=> .inr y,λ b y=> .inl (.inr y),(λ _ h=>by cases h),List.nodup_nil,ej _⟩,l:=(λ _ h=>by cases h)}⟩;rcases Qy a with⟨_,e⟩| ⟨_,e⟩| ⟨_,e⟩| ⟨_,e⟩<;>(rw[e]at hp;cases hp)
 rcases Qy a with⟨rfl,rfl⟩| ⟨rfl,rfl⟩| ⟨rfl,rfl⟩| ⟨rfl,rfl⟩;exact⟨.func (.yield l) #[] #[],D 0 _ rfl,⟨λ _=> ⟨rfl,rfl⟩,λ A=>absurd (cG _) A⟩⟩;exact⟨eK (n0+1),D 1 _ rfl,⟨λ _=> ⟨rfl,0,_,true,rfl,ej _,rfl,λ _=> ⟨_,rfl,rfl⟩⟩,λ A=>absurd (cG _) A⟩⟩;exact⟨eK n0,D 2 _ rfl,⟨λ _=> ⟨rfl,0,_,true,rfl,ej _,rfl,λ _=> ⟨_,rfl,rfl⟩⟩,λ A=>absurd (cG _) A⟩⟩;exact⟨eK (n0+2),D 3 _ rfl,⟨λ _=> ⟨rfl,0,_,true,rfl,ej _,rfl,λ _=> ⟨_,rfl,rfl⟩⟩,λ A=>absurd (cG _) A⟩⟩
 match id,s with
 |0,s=>cases s;exact⟨_,true,rfl,rfl,_,_,_,rfl,h0,rfl,(λ v w=>by simp at w;subst w;rfl),⟨⟨_,rfl,rfl⟩,trivial⟩⟩
 |1,s=>cases s;exact⟨_,true,rfl,rfl,_,_,_,rfl,h1,rfl,(λ v w=>by simp at w;subst w;rfl),⟨⟨_,rfl,rfl⟩,trivial⟩⟩
 |2,s=>cases s;exact⟨_,true,rfl,rfl,_,_,_,rfl,h2,rfl,(λ v w=>by simp at w;subst w;rfl),⟨⟨_,rfl,rfl⟩,trivial⟩⟩
 |_+3,s=>cases s
 match id,a with
 |0,a=>cases a
 |1,a=>cases a
 |2,a=>cases a
 |_+3,_=>rfl
 obtain⟨_,_,z⟩:=Ho z;obtain⟨_,_,F⟩:=Ho F;rcases z with⟨rfl,rfl⟩| ⟨rfl,rfl⟩| ⟨rfl,rfl⟩<;>rcases F with⟨rfl,rfl⟩| ⟨rfl,rfl⟩| ⟨rfl,rfl⟩<;>first|rfl| (have H:=E _ _ y;have K:=E _ _ I;omega)
 obtain⟨_,_,z⟩:=Ho z;rcases z with⟨rfl,rfl⟩| ⟨rfl,rfl⟩| ⟨rfl,rfl⟩<;>(have H:=E _ _ y;subst H;refine⟨.inr ?_,by omega⟩;show _\/_\/_;omega)
section
variable{P:Program}
theorem pU{r}{n k i d:Nat}{c b a w w' Q op}(h1:(mK k c)[i]?=some (uZ k i c))(h2:(uZ k i c).op=op)(h3:(uZ k i c).guard=none)(h4:(uZ k i c).dst=some d) (e:∀c,op≠ .defer c) (f:∀o,o.op=op->(eg a.eval o).run P w= .ok (.value v) w') (h:wpOpsIn (Fr r) n P (mK k c) Q b (a.put (some d) v) w'):wpOpsIn (Fr r) n P (mK k c) Q (i::b) a w:=by refine BZ h1 h3 (λ c=>by rw[h2];exact e c) (QW (f _ h2) ?_);rw[h4];exact h
theorem OX{fn}{t:Nat}{a}(h:fn.results= #[.tmp t])(b:a[t]?=some v)(w):(eb fn a).run P w= .ok v w:=by unfold eb;rw[h,hA];simp[dk,b]
end
open Go.Proofs (Tryz.f145 Tryz.f115 Tryz.f156 Tryz.func145 Tryz.func115 Tryz.func156)
abbrev Dv:=bd Tryz.f145
abbrev tT:=bd Tryz.f115
theorem afl:Tryz.f145.body=some (.seq (.region 0 (mK 0 Dv) false) (.seq (.region 1 (mK 1 Dv) false) .ret)):=by kernel_rfl
theorem abz:Tryz.f115.body=some (.seq (.region 0 (mK 0 tT) false) (.seq (.region 1 (mK 1 tT) false) .ret)):=by kernel_rfl
theorem aiP:hS (mK 0 Dv).size= [0,1,2,3]:=by kernel_rfl
theorem adz:hS (mK 1 Dv).size= [0,1]:=by kernel_rfl
theorem UE:hS (mK 0 tT).size= [0]:=by kernel_rfl
theorem Yb:hS (mK 1 tT).size= [0,1,2,3]:=by kernel_rfl
theorem aiH:Tryz.f145.ntmps=8:=by kernel_rfl
theorem afd:Tryz.f115.ntmps=8:=by kernel_rfl
theorem adh:Tryz.f145.results= #[.tmp 6]:=by kernel_rfl
theorem acT:Tryz.f115.results= #[.tmp 4]:=by kernel_rfl
def pK(w:cr)(s t:List UInt8):=((w.alloc (.cells #[.string ⟨⟨s⟩⟩] 9)).alloc (.cells #[.string ⟨⟨t⟩⟩] 9)).alloc (.cells #[.int .i64 0] 3)
def yQ(w:cr):Value:= .func (.func 156) #[] [eK (w.heap.size+1),eK w.heap.size,eK (w.heap.size+2)].toArray
theorem jV(w:cr)(o):(w.alloc o).heap.size=w.heap.size+1:=pV ..
theorem aeP(w)(s t):yQ w= .func (.func 156) #[] [eK (w.alloc (.cells #[.string ⟨⟨s⟩⟩] 9)).heap.size,eK w.heap.size,eK ((w.alloc (.cells #[.string ⟨⟨s⟩⟩] 9)).alloc (.cells #[.string ⟨⟨t⟩⟩] 9)).heap.size].toArray:=by unfold yQ;rw[jV,jV,jV]
theorem UK(w)(s t):hv b0.Q 145 #[.string ⟨⟨s⟩⟩,.string ⟨⟨t⟩⟩,.int .i64 0] w λ a b=>∃v,a= .returned v/\v=yQ w/\b=pK w s t:=by
 refine lA.1 (pv (n:=7) (b0.a nb (by kernel_rfl) (by decide)) afl trivial ?_);have e:(#[.string ⟨⟨s⟩⟩,.string ⟨⟨t⟩⟩,.int .i64 0]:Array b2)++ef (Tryz.f145.ntmps- (#[.string ⟨⟨s⟩⟩,.string ⟨⟨t⟩⟩,.int .i64 0]:Array b2).size) df= #[.string ⟨⟨s⟩⟩,.string ⟨⟨t⟩⟩,.int .i64 0,df,df,df,df,df]:=by rw[aiH];apply lk.1;simp
 rw[e];refine ko (jA ?_);refine pU (r:=none) (by kernel_rfl) (op:= .box 9 (.tmp 0)) (by kernel_rfl) (by kernel_rfl) (d:=3) (by kernel_rfl) (λ c h=>by cases h) (λ o h=>H3 h _ _) ?_;refine pU (r:=none) (by kernel_rfl) (op:= .box 9 (.tmp 1)) (by kernel_rfl) (by kernel_rfl) (d:=4) (by kernel_rfl) (λ c h=>by cases h) (λ o h=>H3 h _ _) ?_;refine pU (r:=none) (by kernel_rfl) (op:= .box 3 (.tmp 2)) (by kernel_rfl) (by kernel_rfl) (d:=5) (by kernel_rfl) (λ c h=>by cases h) (λ o h=>H3 h _ _) ?_;refine pU (r:=none) (by kernel_rfl) (op:= .assign (.const .nilFunc)) (by kernel_rfl) (by kernel_rfl) (d:=6) (by kernel_rfl) (λ c h=>by cases h) (λ o h=>vP (.inl h) _ _) ?_;refine ko (jA ?_);refine pU (r:=none) (by kernel_rfl) (op:= .makeFunc (.func 156) #[] #[.tmp 4,.tmp 3,.tmp 5]) (by kernel_rfl) (by kernel_rfl) (d:=7) (by kernel_rfl) (λ c h=>by cases h) (λ o h=>acd h _ _) ?_;refine pU (r:=none) (by kernel_rfl) (op:= .assign (.tmp 7)) (by kernel_rfl) (by kernel_rfl) (d:=6) (by kernel_rfl) (λ c h=>by cases h) (λ o h=>vP (.inl h) _ _) ?_;exact wpIn_ret ⟨rfl,_,OX adh (t:=6) rfl _,_,rfl,(aeP w s t).symm,rfl⟩
theorem WQ:lE b0.Q 145:= ⟨_,b0.a nb (by kernel_rfl) (by decide),by kernel_rfl,by kernel_rfl⟩
theorem aas:lE b0.Q 156:= ⟨_,b0.a nc (by kernel_rfl) (by decide),by kernel_rfl,by kernel_rfl⟩
theorem aai(w)(s t):hv b0.Q 115 #[.string ⟨⟨s⟩⟩,.string ⟨⟨t⟩⟩] w λ f a=>∃v,f= .returned v/\v=yQ w/\a=pK w s t:=by
 refine lA.1 (pv (n:=7) (b0.a nf (by kernel_rfl) (by decide)) abz trivial ?_);have e:(#[.string ⟨⟨s⟩⟩,.string ⟨⟨t⟩⟩]:Array b2)++ef (Tryz.f115.ntmps- (#[.string ⟨⟨s⟩⟩,.string ⟨⟨t⟩⟩]:Array b2).size) df= #[.string ⟨⟨s⟩⟩,.string ⟨⟨t⟩⟩,df,df,df,df,df,df]:=by rw[afd];apply lk.1;simp
 rw[e];refine ko (jA ?_);refine pU (r:=none) (by kernel_rfl) (op:= .assign (.const .nilFunc)) (by kernel_rfl) (by kernel_rfl) (d:=4) (by kernel_rfl) (λ c h=>by cases h) (λ o h=>vP (.inl h) _ _) ?_;refine ko (jA ?_);refine pU (r:=none) (by kernel_rfl) (op:= .move (.tmp 0)) (by kernel_rfl) (by kernel_rfl) (d:=5) (by kernel_rfl) (λ c h=>by cases h) (λ o h=>vP (.inr h) _ _) ?_;refine pU (r:=none) (by kernel_rfl) (op:= .move (.tmp 1)) (by kernel_rfl) (by kernel_rfl) (d:=6) (by kernel_rfl) (λ c h=>by cases h) (λ o h=>vP (.inr h) _ _) ?_;have b:(uZ 1 2 tT).op= .call {callee:= .value (.func 145),args:= #[.tmp 5,.tmp 6,.const (.int .i64 0)],argTypes:= #[9,9,3]}:=by kernel_rfl
 refine BZ (o:=uZ 1 2 tT) (by kernel_rfl) (by kernel_rfl) (λ c=>by rw[b];intro h;cases h) (MW (Rk WQ b _ w) (R:=λ v a=>v=yQ w/\a=pK w s t) ?_ ?_);rw[TC];exact UK w s t;rintro v a⟨rfl,rfl⟩;have g:(uZ 1 2 tT).dst=some 7:=by kernel_rfl
 rw[g];exact pU (r:=none) (by kernel_rfl) (op:= .assign (.tmp 7)) (by kernel_rfl) (by kernel_rfl) (d:=4) (by kernel_rfl) (λ c h=>by cases h) (λ o h=>vP (.inl h) _ _) (wpIn_ret ⟨rfl,_,OX acT (t:=4) rfl _,_,rfl,rfl,rfl⟩)
theorem ZY:lE b0.Q 115:= ⟨_,b0.a nf (by kernel_rfl) (by decide),by kernel_rfl,by kernel_rfl⟩
theorem Ua:Tryz.f156.body=some (bd nL):=by kernel_rfl
theorem Ux:Tryz.f156.results.toList= []:=by kernel_rfl
theorem aid:Tryz.f156.ntmps=52:=by kernel_rfl
theorem ahp(w)(s t):(pK w s t).heap.size=w.heap.size+3:=by unfold pK;rw[jV,jV,jV]
theorem wI(w:cr)(o)(b)(h:b<w.heap.size):(w.alloc o).heap[b]?=w.heap[b]?:=by show(w.heap.push o)[b]?=_;rw[nH,if_neg (by omega)]
theorem IE(w:cr)(o)(b)(h:b=w.heap.size):(w.alloc o).heap[b]?=some o:=by subst h;show(w.heap.push o)[w.heap.size]?=_;simp
theorem ZA{f:List UInt8->List UInt8->Option (List (List UInt8))}{ev}(m:eS b0.Q (jP [.aJ]) false (bd nL) ev)(heq:∀s t,ev (Bi t s 0) Cb=f s t):Ej b0.Q 115 .aJ f:=by
 refine⟨ZY,λ w s t xs e=>(aai w s t).mono ?_⟩;rintro p y⟨v,rfl,rfl,rfl⟩;have u:=ahp w s t;have k:∀b,b<w.heap.size->(pK w s t).heap[b]?=w.heap[b]?:=λ b a=>by unfold pK;rw[wI _ _ _ (by rw[jV,jV];omega),wI _ _ _ (by rw[jV];omega),wI _ _ _ a]
 refine⟨_,rfl,156,_,A3 w.heap.size,rfl,aas,by omega,k,⟨rfl,rfl,rfl,λ _=>ej _⟩,λ b a=>?_,λ c q d ok r=>?_⟩;unfold A3 at a;omega;have g:c.heap[w.heap.size]?=some (.cells #[.string ⟨⟨s⟩⟩] 9 (0,0)):=by rw[d _ (by omega)];unfold pK;rw[wI _ _ _ (by rw[jV,jV];omega),wI _ _ _ (by rw[jV];omega),IE _ _ _ rfl]
 have i:c.heap[w.heap.size+1]?=some (.cells #[.string ⟨⟨t⟩⟩] 9 (0,0)):=by rw[d _ (by omega)];unfold pK;rw[wI _ _ _ (by rw[jV,jV];omega),IE _ _ _ (by rw[jV])]
 have j:c.heap[w.heap.size+2]?=some (.cells #[.int .i64 0] 3 (0,0)):=by rw[d _ (by omega)];unfold pK;rw[IE _ _ _ (by rw[jV,jV])]
 rw[<-heq]at e;refine Q2 (tys:= [.aJ]) (by simp) (λ W o n x h=> ⟨n,rfl,h⟩) (b0.a nc (by kernel_rfl) (by decide)) Ua Ux m (λ b a=>?_) (λ l=>?_) e;unfold A3 at a;omega;exact Yf g i j
end
end Go.Abs.R
