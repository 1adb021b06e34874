/- Part of a proof that the statement holds. No conditions. -/
import Derived.Test.YtbppbacfffndaaaGreatDoorProg
import Derived.Deep.MidRow
import Derived.Conc.TokenWalk
import Derived.Conc.AppendEvents3
import Derived.Laws.AppendOwn
import Derived.Conc.CompanyDraw
import Derived.Test.YtbppbacfffndaaaGreatDoorQc2
set_option linter.all false
noncomputable section
set_option maxRecDepth 100000
open Go renaming Goroutine->b2,Value->cr,World->df,undef->dk,stepG->ea,Program->ef,execOp->ej,Operand->ew,TypeId->fl,sizeOf->fu,heap_setCell_other->fx,underlying->gg,Addr->ht,loadCellsFrom->hv,storeCells->hA,isAgg->hD,mayWake->hJ,heap_setCell_same->jA,cell_of_row->j2,Trace->kg,events_store->k5,Frame->lB,events_load->l7,Oper->l8,storeVar->l9,Event->ma,run_underlying->mb,runNT->mn,Act->mx,Func->np,asIntOf->nv,run_append_grow->ny,TypeDesc->nB,typeInfo->nH,growslice_fits->nL,run_append_nil->nV,frozen_of_row->oj,askRoom->o0
open Option renaming isNone_iff_eq_none->dr,isSome_iff_exists->eg,map_eq_some_iff->eH
open Array renaming getElem?_eq_some_iff->eb,getElem?_map->en,getElem?_eq_getElem->eo,getElem?_setIfInBounds_ne->et,replicate->gf,getElem?_setIfInBounds_self_of_lt->hB,size_push->hZ,mem_push->j1,length_toList->kH,isEmpty_iff->kV,mem_append->k7,mem_map->mo
open Bool renaming and_eq_true->ee,or_eq_true->iA,false_eq_true->k3
open Go.Builtin renaming append_->ei,zeroCells->fv,firstCells->gk,lenOf->hG,holdsCells->ko,mayShare->kR
open Go.Sem renaming events_bind->ep,run_bind->hS,events_pure->jc,run_pure->nc
open Go.Conc renaming served->eL,mem_ofEvents->fR,Leavers->hL,crowd->j3,Deaf_other->kp,Past->mr,runT_crowd_go->o1
open Nat renaming le_refl->eQ,beq->hq,le_trans->hy,lt_of_lt_of_le->hQ,add_zero->kk,eq_zero_or_pos->k8,zero_add->ng,mod_lt->n1,blt_eq->n3
open Go.Instr renaming sureAddr->eV,takeDeferred->gl,loadAt->hg,storeAt->hM,indexAt->hN
open List renaming replicate->fb,getElem?_eq_getElem->gw,nodup_cons->hz,length_append->hP,all_eq_true->hY,range->k4,length_cons->lv,length_take->lA
open Go.Result renaming evThen_ok->fz,andThen_ok->kL
open Go.Extern.Race renaming marked->gb
open Go.Region.linearise renaming go->gu
open Go.Region renaming ready->gE,schedule->lb
open Go.Extern renaming findNext->hh,find->hU
open Go.World renaming setCells->hF
open Go.Addr renaming add_mid->hR
open Go.World.ownsRow renaming cells->ih
open Go.Extern.BytealgIndexByte renaming indexByte->kq
open Int renaming natCast_nonneg->k6,ofNat_lt->nf
open Go.Extern.BytealgCount renaming count->lf
open Go.Extern.BytealgIndex renaming index->lk
open Go.ConcN renaming sumTo->ml
open Go.MemOp renaming ofEvents->mm
open Go.Extern.Atomic renaming casT->mA,loadT->mZ,update->nb
open Go.Next renaming value->nz
open Option.some renaming inj->n2
namespace Go.Rs
open Go.Conc Go.Proofs
abbrev TP:=Tryz.prog
instance Bf:ck:= ⟨λ f=>hq f 147,3⟩
structure Ar where
 a:Nat
 e:Nat
 f:Nat
 l:Nat
 i:Nat
 d:Nat
 b:Nat
 c:Nat
 g:cr
 k:cr
 h:cr
 j:List lB
def aQ(b:Nat):Value:= .pointer (some ⟨b,0,none⟩)
def cX(b:Nat):Value:= .chan (some b)
def rz:Code->Code| .block _ b=>b|c=>c
def zy:Code->Code| .loop b=>b|c=>c
def m1:=bX (bX (bX (Af TP 147)))
def mB:=zy (rz (bX (gY m1)))
def yI:=bX m1
section
variable(A:Ar)
def ye:= [A.g,A.k,A.h,aQ A.f,aQ A.l,aQ A.i,.slice none 0 0,aQ A.a,aQ A.e,aQ A.d,dk,dk,cX A.b,cX A.c]
def CW:=GG 147 (ye A++fb 16 dk) [.code m1] [] A.j
def LH(j:Int)(a b c d:cr):=GG 147 (ye A++ [.int .i64 j,a,b,c,d]++fb 11 dk) [.code mB,.inLoop mB,.inBlock 0,.code yI] [] A.j
theorem agR:dR TP true 7 (CW A)=LH A 0 dk dk dk undef:=by rfl
def gA(j:Int)(a b c d:cr):=dR TP true 59 (LH A j a b c d)
def jW(j:Int)(s:Int)(a b c d:cr):=aK (gA A j a b c d) (.int .u64 s)
def gC(a b c d:cr):=dR TP true 52 (jW A 0 4294967296 a b c d)
def gR(a b c d:cr):=aK (gC A a b c d) (.pointer (some ⟨A.a,1,none⟩))
def J2(a b c d:cr):=aK (gR A a b c d) (.tuple #[])
def ub:Value:= .func (.func 162) #[] #[aQ A.a,aQ A.e,aQ A.f,aQ A.i,aQ A.d]
def r6:=bX (rz (gY (bX (bX mB))))
def r7:=bX (bX (bX mB))
def GO(j:Int)(d:cr):=GG 147 (ye A++ [.int .i64 j,.bool true,dk,ub A,d]++fb 11 dk) [.inRegion (ek r6) [1],.inBlock 1,.code r7,.inLoop mB,.inBlock 0,.code yI] [] A.j
def oK:Goroutine:={frame:={(default:lB)with fn:=TP.funcs.size,defers:= [{target:= .fn (.func 162) #[aQ A.a,aQ A.e,aQ A.f,aQ A.i,aQ A.d],args:= #[]}],mode:= .panicking [goexitEntry]},callers:= [],status:= .running,dying:=none}
end
theorem MD:iP TP 219 (nb (Op.intArith .add) .u64 true):=ie (by kernel_rfl) (by kernel_rfl) (by kernel_rfl)
theorem Gb:iP TP 220 (mZ (.int .u64)):=ie (by kernel_rfl) (by kernel_rfl) (by kernel_rfl)
theorem ahh:iP TP 221 Extern.Atomic.storeT:=ie (by kernel_rfl) (by kernel_rfl) (by kernel_rfl)
theorem OT:iP TP 222 (mA (.int .u64)):=ie (by kernel_rfl) (by kernel_rfl) (by kernel_rfl)
theorem aak:iP TP 195 (gb .read):=ie (by kernel_rfl) (by kernel_rfl) (by kernel_rfl)
theorem ZU:iP TP 203 (gb .write):=ie (by kernel_rfl) (by kernel_rfl) (by kernel_rfl)
theorem Yr:iP TP 187 (gb .releaseMerge):=ie (by kernel_rfl) (by kernel_rfl) (by kernel_rfl)
theorem SR:iP TP 200 (gb .acquire):=ie (by kernel_rfl) (by kernel_rfl) (by kernel_rfl)
theorem agW:iP TP 199 Extern.Sync.semrelease:=ie (by kernel_rfl) (by kernel_rfl) (by kernel_rfl)
theorem Qx:iP TP 204 Extern.Sync.semacquire:=ie (by kernel_rfl) (by kernel_rfl) (by kernel_rfl)
theorem WZ(A)(a b c d):cP (gA A 0 a b c d) 219 #[aQ A.a,.int .u64 4294967296]:=ac (by kernel_rfl)
theorem PZ(A)(a b c d):Ch TP true 59 0 1 (LH A 0 a b c d):=λ w=>by kernel_rfl
theorem Tj(A)(a b c d):Ch TP true 59 0 1 (LH A 1 a b c d):=λ w=>by kernel_rfl
theorem Uj(A)(a b c d):cP (gA A 1 a b c d) 219 #[aQ A.a,.int .u64 4294967296]:=ac (by kernel_rfl)
theorem Oj(A)(a b c d):Ch TP true 59 0 1 (LH A 2 a b c d):=λ w=>by kernel_rfl
theorem acp(A)(a b c d):cP (gA A 2 a b c d) 219 #[aQ A.a,.int .u64 4294967296]:=ac (by kernel_rfl)
theorem mC(A)(a b c d):Ch TP true 52 1 1 (jW A 0 4294967296 a b c d):=λ w=>by kernel_rfl
theorem mR(A)(a b c d):fP TP true 44 1 0 (J2 A a b c d) (GO A 0 d):=λ w=>by kernel_rfl
theorem ZM(A)(a b c d):fP TP true 92 1 0 (jW A 1 8589934592 a b c d) (GO A 1 d):=λ w=>by kernel_rfl
theorem U4(A)(a b c d):fP TP true 92 1 0 (jW A 2 12884901888 a b c d) (GO A 2 d):=λ w=>by kernel_rfl
theorem Ir(A)(j)(d)(w):ea TP true (GO A j d) w= .spawn (aK (GO A j d) dk) (oK A) w:=by kernel_rfl
theorem mL0(A)(d):fP TP true 7 0 0 (aK (GO A 0 d) dk) (LH A 1 (.bool true) dk (ub A) (.int .i64 1)):=λ w=>by kernel_rfl
theorem Ub(A)(d):fP TP true 7 0 0 (aK (GO A 1 d) dk) (LH A 2 (.bool true) dk (ub A) (.int .i64 2)):=λ w=>by kernel_rfl
def CN:Op->fl| .convert s _ _=>s|_=>0
def Mt:Op->fl| .convert _ s _=>s|_=>0
def Qb:Op->ew| .convert _ _ x=>x|_=> .const dk
def ptT:Option nB->fl|some (.pointer t)=>t|_=>0
theorem zk{P main w u g a}(h:(Du g,(bj g).op,(bY g).eval (Qb (bj g).op),P.underlying (CN (bj g).op),P.underlying (Mt (bj g).op),(P.info? (ptT (P.underlying (CN (bj g).op)))).map (λ i=>decide (i.size=0)))=(Bn g,.convert (CN (bj g).op) (Mt (bj g).op) (Qb (bj g).op),.pointer (some a),some (.pointer (ptT (P.underlying (CN (bj g).op)))),some .unsafePointer,some false))(b:w.cell? a=some u):ea P main g w= .go (aK g (.pointer (some a))) w #[]:=dh.p (ao (congrArg (·.1) h)) (congrArg (·.2.1) h) (congrArg (·.2.2.1) h) (congrArg (·.2.2.2.1) h) (congrArg (·.2.2.2.2.1) h) (congrArg (·.2.2.2.2.2) h) b
theorem Wv(A)(a b c d)(w)(st e)(h:ba A.a w st e):ea TP true (gC A a b c d) w= .go (gR A a b c d) w #[]:=zk (by kernel_rfl) (Ap h)
theorem Zn(A)(a b c d):cP (gR A a b c d) 195 #[.pointer (some ⟨A.a,1,none⟩)]:=ac (by kernel_rfl)
def JW(a:Nat)(w:df):=∃st b,ba a w st b
def ta(A:Ar)(j:Nat)(d:Nat)(g:b2):=d=1/\∃a b c e,g=gA A j a b c e
def rT(A:Ar)(d:Nat)(g:b2):=d=1/\∃a b c e,g=gR A a b c e
def rB(A:Ar)(j:Nat)(d:Nat)(g:b2):=d=0/\∃e,g=GO A j e
theorem aeM{P main J Stop k d d' g g'}(h1:∀w,jo P main k g w=jl P main k g w)(h2:gJ P main k g=true)(h3:tI P main k d g=d')(h4:dR P main k g=g')(a:Stop d' g'):bM P main J d g Stop:= ⟨qI h2,k,by have:=A6 (J:=J) (Stop:=Stop) (k:=k) (n:=0) (d:=d) h1 h2 (by rw[h3,h4];exact a);simpa using this⟩
theorem ai7{P main J Stop k d d' g g'}(h1:∀w,jo P main k g w=jl P main k g w)(h2:gJ P main k g=true)(h3:tI P main k d g=d')(h4:dR P main k g=g')(b:bM P main J d' g' Stop):bM P main J d g Stop:= ⟨qI h2,by have⟨_,n,a⟩:=b;exact⟨k+n,A6 h1 h2 (by rw[h3,h4];exact a)⟩⟩
theorem zn{P main J Stop d g g'}(a:g.status= .running)(h:∀w,J w->ea P main g w= .go g' w #[])(e:bM P main J d g' Stop):bM P main J d g Stop:= ⟨a,by have⟨c,n,b⟩:=e;exact⟨n+1,Uv a h c b⟩⟩
section
variable{P:ef}{main:Bool}{J:df->Prop}{Stop:Nat->b2->Prop}{k d d':Nat}{g g':b2}
theorem Ch.b(h:Ch P main k d d' g)(h4:dR P main k g=g')(a:Stop d' g'):bM P main J d g Stop:=aeM h.t h.m h.c h4 a
theorem Ch.a(h:Ch P main k d d' g)(h4:dR P main k g=g')(a:bM P main J d' g' Stop):bM P main J d g Stop:=ai7 h.t h.m h.c h4 a
theorem fP.b(h:fP P main k d d' g g')(a:Stop d' g'):bM P main J d g Stop:=h.c.b h.e a
theorem fP.a(h:fP P main k d d' g g')(a:bM P main J d' g' Stop):bM P main J d g Stop:=h.c.a h.e a
end
theorem xu{P main}:∀{k:Nat}{g:b2},gJ P main k g=true->gJ P main 0 (dR P main k g)=true|0,g,h=>h|k+1,g,h=>by simp[gJ,ee]at h;exact xu (k:=k) (g:=lO P main g) h.2
structure CE(P:ef)(main:Bool)(k d:Nat)(g:b2):Prop where
 c:Ch P main k d 0 g
 s:∀w,ea P main (dR P main k g) w= .go (lO P main (dR P main k g)) w
 f:(lO P main (dR P main k g)).status= .finished
theorem CE.a{P main J k d g}(h:CE P main k d g):bM P main J d g gM:=by refine⟨qI h.c.m,k+1,A6 h.c.t h.c.m ?_⟩;rw[h.c.c];exact .inr ⟨qI (k:=0) (xu h.c.m),_,#[],λ e a=>by simp at a,λ w _=>h.s w,.inr h.f,h.f,rfl⟩
theorem aeT(A)(a b c d):bM TP true (JW A.a) 0 (LH A 0 a b c d) (ta A 0):=Ch.b (PZ A a b c d) rfl ⟨rfl,a,b,c,d,rfl⟩
theorem aik(A)(a b c d):bM TP true (JW A.a) 0 (LH A 1 a b c d) (ta A 1):=Ch.b (Tj A a b c d) rfl ⟨rfl,a,b,c,d,rfl⟩
theorem aef(A)(a b c d):bM TP true (JW A.a) 0 (LH A 2 a b c d) (ta A 2):=Ch.b (Oj A a b c d) rfl ⟨rfl,a,b,c,d,rfl⟩
theorem ahj(A)(a b c d):bM TP true (JW A.a) 1 (J2 A a b c d) (rB A 0):=fP.b (mR A a b c d) ⟨rfl,d,rfl⟩
theorem aip(A)(a b c d):bM TP true (JW A.a) 1 (jW A 0 4294967296 a b c d) (rT A):=Ch.a (mC A a b c d) rfl (zn (g:=gC A a b c d) (qI (k:=0) (by have:=(mC A a b c d).m;exact xu this)) (λ w⟨st,e,h⟩=>Wv A a b c d w st e h) ⟨rfl,0,rfl,a,b,c,d,rfl⟩)
theorem ZB(A)(a b c d):bM TP true (JW A.a) 1 (jW A 1 8589934592 a b c d) (rB A 1):=fP.b (ZM A a b c d) ⟨rfl,d,rfl⟩
theorem abI(A)(a b c d):bM TP true (JW A.a) 1 (jW A 2 12884901888 a b c d) (rB A 2):=fP.b (U4 A a b c d) ⟨rfl,d,rfl⟩
theorem ajh(A)(d):bM TP true (JW A.a) 0 (aK (GO A 0 d) dk) (ta A 1):=fP.a (mL0 A d) (aik A _ _ _ _)
theorem VA(A)(d):bM TP true (JW A.a) 0 (aK (GO A 1 d) dk) (ta A 2):=fP.a (Ub A d) (aef A _ _ _ _)
theorem Gq{k g main}(h:gJ TP main k g=true):(dR TP main k g).status= .running:=qI (k:=0) (xu h)
theorem HR(A)(j)(a b c d)(e:cP (gA A j a b c d) 219 #[aQ A.a,.int .u64 4294967296])(x y)(f:IntKind.u64.wrap (x+4294967296)=y)(w)(g)(h:ba A.a w x g):ea TP true (gA A j a b c d) w= .go (jW A j y a b c d) (w.setCell (bg A.a) (.int .u64 y)) (gK (bg A.a)):=by have:=cP.p (P:=TP) (main:=true) (w:=w) (ad:=bg A.a) (x:=x) e MD (ox h) (AG h);rw[f]at this;exact this
theorem ZG(A)(a b c e):(gA A 0 a b c e).status= .running/\(∀w,ba A.a w 0 0->ea TP true (gA A 0 a b c e) w= .go (jW A 0 4294967296 a b c e) (w.setCell (bg A.a) (.int .u64 4294967296)) (gK (bg A.a)))/\bM TP true (JW A.a) 1 (jW A 0 4294967296 a b c e) (rT A):= ⟨Gq (PZ A a b c e).m,λ w h=>HR A 0 a b c e (WZ A a b c e) 0 4294967296 (by decide) w 0 h,aip A a b c e⟩
theorem YW(A)(a b c e):(gA A 1 a b c e).status= .running/\(∀w,ba A.a w 4294967296 0->ea TP true (gA A 1 a b c e) w= .go (jW A 1 8589934592 a b c e) (w.setCell (bg A.a) (.int .u64 8589934592)) (gK (bg A.a)))/\bM TP true (JW A.a) 1 (jW A 1 8589934592 a b c e) (rB A 1):= ⟨Gq (Tj A a b c e).m,λ w h=>HR A 1 a b c e (Uj A a b c e) 4294967296 8589934592 (by decide) w 0 h,ZB A a b c e⟩
theorem Zm(A)(a b c e):(gA A 2 a b c e).status= .running/\(∀w,ba A.a w 8589934592 0->ea TP true (gA A 2 a b c e) w= .go (jW A 2 12884901888 a b c e) (w.setCell (bg A.a) (.int .u64 12884901888)) (gK (bg A.a)))/\bM TP true (JW A.a) 1 (jW A 2 12884901888 a b c e) (rB A 2):= ⟨Gq (Oj A a b c e).m,λ w h=>HR A 2 a b c e (acp A a b c e) 8589934592 12884901888 (by decide) w 0 h,abI A a b c e⟩
theorem XP(A):∀d g,rT A d g->d=1/\g.status= .running/\∃g',(∀w,ea TP true g w= .go g' w (fp (.read (dL A.a))))/\bM TP true (JW A.a) 1 g' (rB A 0):=by rintro d g⟨rfl,a,b,c,e,rfl⟩;exact⟨rfl,rfl,J2 A a b c e,λ w=>cP.b .read (by simp) (Zn A a b c e) aak rfl,ahj A a b c e⟩
section
variable(A:Ar)
def Qg:Value:= .func (.func 164) #[] #[aQ A.l,aQ A.e,aQ A.a,aQ A.d]
def oC:=GG 147 (ye A++ [.int .i64 3,.bool false,dk,ub A,.int .i64 3,Qg A]++fb 10 dk) [.inRegion (ek (gY yI)) [1],.code (bX yI)] [] A.j
def AD:Goroutine:={frame:={(default:lB)with fn:=TP.funcs.size,defers:= [{target:= .fn (.func 164) #[aQ A.l,aQ A.e,aQ A.a,aQ A.d],args:= #[]}],mode:= .panicking [goexitEntry]},callers:= [],status:= .running,dying:=none}
end
theorem mL2(A)(d):fP TP true 7 0 0 (aK (GO A 2 d) dk) (LH A 3 (.bool true) dk (ub A) (.int .i64 3)):=λ w=>by kernel_rfl
theorem mX(A):fP TP true 10 0 0 (LH A 3 (.bool true) dk (ub A) (.int .i64 3)) (oC A):=λ w=>by kernel_rfl
theorem ag4(A)(w):ea TP true (oC A) w= .spawn (aK (oC A) dk) (AD A) w:=by kernel_rfl
def vD(A:Ar)(d:Nat)(g:b2):=d=0/\g=oC A
theorem UU(A)(d):bM TP true (JW A.a) 0 (aK (GO A 2 d) dk) (vD A):=fP.a (mL2 A d) (fP.b (mX A) ⟨rfl,rfl⟩)
section
variable(A:Ar)
def m9:=bX yI
def J7:=gY (bX m9)
def lP:=bX (bX m9)
def SC(o v:cr):= [A.g,A.k,A.h,aQ A.f,aQ A.l,aQ A.i,.slice none 0 0,aQ A.a,aQ A.e,aQ A.d,o,v,cX A.b,cX A.c,.int .i64 3,.bool false,dk,ub A,.int .i64 3,Qg A]
def GL:=GG 147 (SC A (.slice none 0 0) dk++fb 10 dk) [.inRegion (ek (gY J7)) [0],.code (bX J7),.code lP] [] A.j
end
theorem adY(A)(w):jo TP true 8 (aK (oC A) dk) w=jl TP true 8 (aK (oC A) dk) w:=by kernel_rfl
theorem afR(A):gJ TP true 8 (aK (oC A) dk)=true:=by kernel_rfl
theorem ab3(A):dR TP true 8 (aK (oC A) dk)=GL A:=by kernel_rfl
section
variable(A:Ar)
def U3:=Af TP 162
def w1:=bX U3
def uU:List Deferred:= [{target:= .fn (.func 163) #[],args:= #[aQ A.a]}]
def zc:=(dR TP false 7 (oK A)).callers.headD default
def WL:=dR TP false 7 (oK A)
theorem aeU(w):jo TP false 7 (oK A) w=jl TP false 7 (oK A) w:=by kernel_rfl
theorem Sn:gJ TP false 7 (oK A)=true:=by kernel_rfl
end
section
variable(A:Ar)(T:Array cr)
def WX:Goroutine:={frame:={fn:=162,tmps:=T,todo:= [],defers:=uU A,mode:= .run,kind:=(WL A).frame.kind},callers:= [zc A],status:= .running,dying:=none}
def WC:=dR TP false 16 (WX A T)
def WR:=aK (WC A T) (.pointer (some ⟨A.a,0,none⟩))
theorem Zi:gJ TP false 16 (WX A T)=true:=by kernel_rfl
theorem Wj(w)(st a)(h:ba A.a w st a):ea TP false (WC A T) w= .go (WR A T) w #[]:=zk (by kernel_rfl) (ox h)
theorem ahN:cP (WR A T) 187 #[.pointer (some ⟨A.a,0,none⟩)]:=ac (by kernel_rfl)
def WA:=dR TP false 38 (aK (WR A T) dk)
theorem wA:Ch TP false 38 0 1 (aK (WR A T) dk):=λ w=>by kernel_rfl
theorem aiJ:cP (WA A T) 219 #[aQ A.a,.int .u64 18446744069414584320]:=ac (by kernel_rfl)
end
def iM(P:ef)(main:Bool)(g:b2):Goroutine:=match ea P main g lT with| .comm a _ _ _ _ _=>a|_=>g
def zN:Value:= .agg (gf 12 (.int .i64 0))
def zR:Value:= .slice none 0 0
def pZ(r:Nat):Deferred:={target:= .collected r,args:= #[]}
section
variable(A:Ar)(f:Nat->cr)(rs:List Nat)
def wB:=zy (rz (bX w1))
def w2:=bX wB
def uW:=rz (bX w2)
def w3:=gY uW
def w4:=gY (bX uW)
def w5:=gY (bX (bX uW))
def w9:=bX (bX (bX uW))
def wF:= [f 0,aQ A.e,aQ A.f,aQ A.i,aQ A.d,f 5,f 6,f 7,f 8,cX A.b,f 10,f 11,f 12,f 13,f 14,f 15,f 16,f 17,f 18,f 19,f 20,f 21,f 22,f 23,f 24,f 25,f 26,f 27,f 28]
def WG(todo:List Item):Goroutine:={frame:={fn:=162,tmps:= ⟨wF A f⟩,todo,defers:=rs.map pZ++uU A,mode:= .run,kind:=(WL A).frame.kind},callers:= [zc A],status:= .running,dying:=none}
def WH:=WG A f rs [.inRegion (ek (gY wB)) [0,1],.code (bX wB),.inLoop wB,.inBlock 0]
def WS:=WG A f rs [.inRegion (ek w9) [2],.inBlock 1,.inLoop wB,.inBlock 0]
end
theorem abR(A)(f)(rs)(w):ea TP false (WH A f rs) w= .comm (iM TP false (WH A f rs)) #[rcase A.b zN] true (.recv true) w #[]:=by kernel_rfl
theorem ahL(A)(f)(rs):(iM TP false (WH A f rs)).frame=(WH A f rs).frame/\(iM TP false (WH A f rs)).callers=(WH A f rs).callers/\(iM TP false (WH A f rs)).dying=(WH A f rs).dying:= ⟨by kernel_rfl,by kernel_rfl,by kernel_rfl⟩
theorem acP(A)(f)(rs)(h:f 27=cX A.c)(w):ea TP false (WS A f rs) w= .comm (iM TP false (WS A f rs)) #[scase A.c (f 28) (.tuple #[])] true .send w #[]:=by
 have:ea TP false (WS A f rs) w= .comm (iM TP false (WS A f rs)) #[{chan:=f 27,send:=some (f 28),zero:= .tuple #[]}] true .send w #[]:=by kernel_rfl
 rw[this,h];rfl
def WV(A:Ar)(f:Nat->cr)(rs:List Nat)(v:cr):=eL (iM TP false (WH A f rs)) v
def WT(A:Ar)(f:Nat->cr)(rs:List Nat):=eL (iM TP false (WS A f rs)) dk
section
variable {k:Nat} {t:fl} {v:cr} {a:ht}
structure oD(g g0:b2):Prop where
 d:g.frame=g0.frame
 b:g.callers=g0.callers
 e:g.dying=g0.dying
 h:g.status= .running
def qD(P:ef)(main:Bool):Nat->b2->Bool|0,_=>true|k+1,g=>(vf P main g).isEmpty&&qD P main k (lO P main g)
theorem ey.l(p)(w):ey p p w w #[]:= ⟨eQ _,λ _ _ _=>rfl,λ _ h=> .inl h,λ _ h=> .inl h,λ _ h=>h,λ _ h=>h,by grind,by grind,rfl,rfl,rfl⟩
section
variable{P:ef}{main:Bool}{g g0 g':b2}{p p':ai}{w w':df}{Stop Stop':ai->b2->df->Prop}
theorem oD.c(h:g.status= .running):oD g g:= ⟨rfl,rfl,rfl,h⟩
theorem oD.f(h:oD g g0)(w):ea P main g w=ea P main g0 w:=stepG_same h.d h.b h.e w
theorem qj(e:g.status= .running)(h:∀w1,bO p w w1->∃g' w' es p',ea P main g w1= .go g' w' es/\ey p p' w1 w' es/\bG P main p' g' w' Stop):bG P main p g w Stop:= ⟨e,du.b e λ w1 f=>let⟨g',w',es,_,a,b,c,r,d⟩:=h _ f; ⟨_,_,_,_,r,a,c,b,d⟩⟩
theorem bG.b(h:bG P main p g w Stop)(a:bO p w w'):bG P main p g w' Stop:= ⟨h.1,let⟨r,x⟩:=h.2; ⟨r,x.c a⟩⟩
theorem bG.d(h:bG P main p g w Stop)(k:∀p g w,Stop p g w->bG P main p g w Stop'):bG P main p g w Stop':= ⟨h.1,let⟨_,b⟩:=h.2;b.f (λ p g w a=>(k p g w a).2) λ p g w a=>(k p g w a).1⟩
theorem bG.c(h:bG P main p g w Stop)(k:∀p g w,Stop p g w->Stop' p g w):bG P main p g w Stop':= ⟨h.1,let⟨r,x⟩:=h.2; ⟨r,x.a k⟩⟩
theorem nQ(a:g.status= .running)(h:∀w1,bO p w w1->Stop p g w1):bG P main p g w Stop:= ⟨a,.eM,h⟩
theorem zU:∀{k:Nat}{g g':b2},(∀w,jo P main k g w=jl P main k g w)->gJ P main k g=true->qD P main k g=true->dR P main k g=g'->bG P main p g' w Stop->bG P main p g w Stop
 |0,g,_,_,_,_,b,d=>by have j:g=_:=b;grind|k+1,g,g',i,a,c,b,d=>by
  have e:∀w,ea P main g w= .go (lO P main g) w (vf P main g):=λ w=>by simp_all[jo,jl,List.cons.injEq]
  simp[gJ,qD,ee,kV]at a c;have h:=zU (k:=k) (λ w=>by simp_all[jo,jl,List.cons.injEq]) a.2 c.2 b d;exact qj (AM a.1.1) λ w1 f=> ⟨_,_,_,_,e _,by grind[ey.l],h.b f⟩
def Cq(P:ef)(main:Bool)(k:Nat)(g g':b2):=∀w,(jo P main k g w,gJ P main k g,qD P main k g,dR P main k g)=(jl P main k g w,true,true,g')
theorem jb(h:Cq P main k g g')(a:bG P main p g' w Stop):bG P main p g w Stop:=zU (λ w=>congrArg (·.1) (h w)) (congrArg (·.2.1) (h lT)) (congrArg (·.2.2.1) (h lT)) (congrArg (·.2.2.2) (h lT)) a
theorem Cq.m(h:Cq P main k g g'):gJ P main k g=true:=congrArg (·.2.1) (h lT)
theorem Cq.e(h:Cq P main k g g'):dR P main k g=g':=congrArg (·.2.2.2) (h lT)
theorem GN(a:g.status= .running)(h:∀w,ea P main g w= .go g' w)(b:bG P main p g' w Stop):bG P main p g w Stop:=qj a λ w1 c=> ⟨_,_,_,_,h _,ey.l p _,b.b c⟩
theorem Yp(c:(hD t).run P w= .ok false w)(b:w.cell? a=some v):(hg t (.pointer (some a))).run P w= .ok v w:=by simp_all[hg,eV,loadVar]
theorem Um(d:(hD t).run P w= .ok false w)(c:(hD t).events P w #[]= #[])(b:w.cell? a=some v):(hg t (.pointer (some a))).events P w #[]= #[⟨.cell a,false,false⟩]:=by simp_all[hg,eV,loadVar,l7]
theorem rR{o t x b v}(h:dh g o)(s:g.status= .running)(i:o.op= .load t x)(m:(bY g).eval x=aQ b)(k:∀w,(hD t).run P w= .ok false w)(q:∀w,(hD t).events P w #[]= #[])(j:p.a b)(n:∃c ty fr,w.heap[b]?=some (.cells c ty fr)/\c[0]?=some v)(y:bG P main p (aK g v) w Stop):bG P main p g w Stop:=by
 have⟨c,ty,fr,z,A⟩:=n;refine qj s λ w1 l=>?_;have f:w1.cell? ⟨b,0,none⟩=some v:=by have:=l.e b j;grind[World.cell?]
 have u:(ej (bY g).eval o).run P w1= .ok (.value v) w1:=by unfold ej;simp[i,m,aQ];simp[Yp (k w1) f]
 refine⟨_,_,_,p,h.b u,?_,y.b l⟩;have e:=ey.l p w1;refine{e with d:=λ x a=>?_}
 haveI:aW:= ⟨0,λ _=>true,λ _ _=>False,λ _ _ _ h=>h.elim⟩;revert x;refine qv (p:=iF p) λ x a=>?_;have r:(ej (bY g).eval o).events P w1 #[]= #[⟨.cell ⟨b,0,none⟩,false,false⟩]:=by unfold ej;simp[i,m,aQ];simp[Um (k w1) (q w1) f]
 rw[r]at a;simp at a;subst a;show p.a b/\(false=true->p.b b)/\false=false;exact⟨j,λ h=>(by cases h),rfl⟩
end
end
section
variable{P:ef}{main:Bool}{g g':b2}{o:l8}{p p':ai}{w w':df}{v:cr}{Stop:ai->b2->df->Prop}
variable {b k:Nat} {t:fl}
theorem dh.f(h:dh g o)(a:(ej (bY g).eval o).run P w= .ok .skip w'):ea P main g w= .go (aK g dk) w' (listed P g.frame.fn (bY g) o w):=by rw[h.c,stepG_none h.k h.a (BR h.h) a,h.d]
theorem xp(h:∀e∈(ej (bY g).eval o).events P w #[],iF p e):∀e∈listed P g.frame.fn (bY g) o w,iF p e:=by haveI:aW:= ⟨0,λ _=>true,λ _ _=>False,λ _ _ _ h=>h.elim⟩;exact qv (p:=iF p) h
theorem ago{b k}(h:p.a b):iF p ⟨.cell ⟨b,k,none⟩,false,false⟩:=by exact⟨h,λ h=>(by cases h),rfl⟩
theorem RA{b k}(h:p.a b)(a:p.b b):iF p ⟨.cell ⟨b,k,none⟩,true,false⟩:=by exact⟨h,λ _=>a,rfl⟩
theorem N9(b k):∀n i a es,(∀j,j<n->(w.cell? ⟨b,k+ (i+j),none⟩).isSome=true)->∀e∈(hv ⟨b,k,none⟩ i n a).events P w es,e∈es\/∃j,e= ⟨.cell ⟨b,j,none⟩,false,false⟩|0,_,_,_,_=>λ e h=> .inl (by trivial)|n+1,i,a,es,d=>λ e h=>by have⟨u,c⟩:=eg.1 (d 0 (by omega));simp[kk]at c;simp[hv,ep,hR,l7,c,run_load,fz]at h;rcases N9 b k n (i+1) (a.push u) _ (λ j f=>by grind) e h with h|h;all_goals grind
theorem Lo(b k):∀vs i w es,(∀j,j<vs.length->(w.cell? ⟨b,k+ (i+j),none⟩).isSome=true/\w.frozen? ⟨b,k+ (i+j),none⟩=false)->(∀v∈vs,v.oneCell'=true)->∀e∈(hA ⟨b,k,none⟩ vs i).events P w es,e∈es\/∃j,e= ⟨.cell ⟨b,j,none⟩,true,false⟩| [],_,_,_,_,_=>λ e h=> .inl (by trivial)|v::rest,i,w,es,hc,h1=>λ e h=>by have a:=h1 v (by simp);have⟨l,g⟩:=hc 0 (by simp);have⟨u,f⟩:=eg.1 l;simp[kk]at f g;have d:=run_store P w ⟨b,k+i,none⟩ v .plain a;have c:=k5 P w es ⟨b,k+i,none⟩ v .plain a;simp[f,g,k3,if_false]at d c;simp[hA,ep,hR,d,c,fz]at h;rcases Lo b k rest (i+1) (w.setCell ⟨b,k+i,none⟩ v) _ (λ j n=>by have:=hc (j+1) (by grind);rw[show i+ (j+1)=i+1+j by omega]at this;refine⟨?_,?_⟩;have m:=World.cell?_setCells_out b [v] (k+i) w ⟨b,k+ (i+1+j),none⟩ (λ _ _=> .inr (by grind));grind[hF];simp_all) (λ v a=>h1 v (by grind)) e h with h|h;all_goals grind
theorem Fo(b):∀vs k(w:df),(w.setCells b k vs).heap.size=w.heap.size| [],_,_=>rfl|v::r,k,w=>by rw[hF,Fo b r];simp
theorem LF(b):∀vs k(w:df)a,a≠b->(w.setCells b k vs).heap[a]?=w.heap[a]?| [],_,_,_,_=>rfl|v::r,k,w,a,h=>by rw[hF,LF b r _ _ a h,fx _ _ _ _ h]
theorem Qp(b):∀vs k(w:df),(w.setCells b k vs).os=w.os/\(w.setCells b k vs).output=w.output/\(w.setCells b k vs).tape=w.tape| [],_,_=> ⟨rfl,rfl,rfl⟩|v::r,k,w=>by exact Qp b r _ _
theorem Mk(b)(ty):∀vs k(w:df)c,w.heap[b]?=some (.cells c ty (0,0))->k+vs.length<=c.size->∃c',(w.setCells b k vs).heap[b]?=some (.cells c' ty (0,0))/\c'.size=c.size/\(∀j,j<vs.length->c'[k+j]?=vs[j]?)/\∀j,j<k->c'[j]?=c[j]?
 | [],k,w,c,h,_=> ⟨c,h,rfl,λ j d=>by trivial,λ _ _=>rfl⟩|v::r,k,w,c,h,hl=>by simp[lv]at hl;have a:=jA w b k c ty v h;have⟨c',e,f,g,i⟩:=Mk b ty r (k+1) (w.setCell ⟨b,k,none⟩ v) _ a (by grind);grind[Array.size_setIfInBounds,hF,hB,lv]
structure O7(P:ef)(t:fl)(n:Nat):Prop where
 u:∃d,P.underlying t=some d/\d.isRow=true
 f:(P.info? t).map (·.size)=some n
 e:∀w es,(hD t).events P w es=es
 a:∀w es,(fu t).events P w es=es
 h:∀w,(hD t).run P w= .ok true w
 c:∀w,(fu t).run P w= .ok n w
theorem ey.q{es}(h:∀e∈es,iF p e)(w):ey p p w w es:={ey.l p w with d:=h}
theorem T5{x}{cs:List cr}(h:dh g o)(u:g.status= .running)(i:o.op= .load t x)(m:(bY g).eval x= .pointer (some ⟨b,k,none⟩))(f:O7 P t cs.length)(A:p.a b)(n:∃c ty fr,w.heap[b]?=some (.cells c ty fr)/\∀j,j<cs.length->c[k+j]?=cs[j]?)(B:bG P main p (aK g (.agg cs.toArray)) w Stop):bG P main p g w Stop:=by
 have⟨c,ty,fr,q,C⟩:=n;have⟨d,r,s⟩:=f.u;refine qj u λ w1 l=>?_;have D:∀j,w1.cell? ⟨b,j,none⟩=c[j]?:=λ j=>j2 w1 b j c ty fr (by rw[l.e b A,q]);have z:(ej (bY g).eval o).run P w1= .ok (.value (.agg cs.toArray)) w1:=by unfold ej;simp[i,m];simp[run_loadAt_mid w1 b k t cs d (λ j v F=>by grind) r s f.f]
 refine⟨_,_,_,p,h.b z,ey.q (xp λ e a=>?_) w1,B.b l⟩;unfold ej at a;simp[i,m]at a;simp[ep,hg,eV,loadVar,loadCells,f.h,f.c,f.e,f.a,nc,hS,jc,fz,if_true,kL]at a;have a:e∈(hv ⟨b,k,none⟩ 0 cs.length #[]).events P w1 #[]:=by cases y:(hv ⟨b,k,none⟩ 0 cs.length #[]).run P w1<;>simpa[y]using a
 rcases N9 b k cs.length 0 #[] #[] (λ j E=>by grind) e a with h| ⟨j,rfl⟩;all_goals grind[ago]
theorem TU{x y v n}(h:dh g o)(C:g.status= .running)(F:o.op= .store t x y)(L:(bY g).eval x=aQ b)(M:(bY g).eval y=v)(N:∀w,(fu t).run P w= .ok n w)(B:∀w es,(fu t).events P w es=es)(D:v.cells.size=n)(d:∀u∈v.cells.toList,u.oneCell'=true)(H:p.a b)(K:p.b b)(s:∃c ty,w.heap[b]?=some (.cells c ty (0,0))/\c.size=n)(I:∀w1,bO p w w1->∀w',(∀a,a≠b->w'.heap[a]?=w1.heap[a]?)->(∃ty,w'.heap[b]?=some (.cells v.cells ty (0,0)))->w'.heap.size=w1.heap.size->bG P main p (aK g dk) w' Stop):bG P main p g w Stop:=by
 have⟨c,ty,A,U⟩:=s;refine qj C λ w1 q=>?_;have i:w1.heap[b]?=some (.cells c ty (0,0)):=by rw[q.e b H,A]
 have V:∀j,w1.cell? ⟨b,j,none⟩=c[j]?:=λ j=>j2 w1 b j c ty _ i;have W:v.cells.toList.length=n:=by omega
 have J:∀j,j<v.cells.toList.length->(w1.cell? ⟨b,0+ (0+j),none⟩).isSome=true/\w1.frozen? ⟨b,0+ (0+j),none⟩=false:=λ j k=>by grind[oj,eo]
 have m:=run_storeCells_cells (P:=P) b 0 v.cells.toList 0 w1 (λ j k=>by grind) (λ j k=>by grind) d;simp[kk]at m;have G:(ej (bY g).eval o).run P w1= .ok .skip (w1.setCells b 0 v.cells.toList):=by simp_all[ej,aQ,hM,eV,l9]
 have⟨c',O,X,Y,_⟩:=Mk b ty v.cells.toList 0 w1 c i (by omega);have z:c'=v.cells:=by grind
 subst z;have l:=LF b v.cells.toList 0 w1;have⟨Q,R,S⟩:=Qp b v.cells.toList 0 w1;refine⟨_,_,_,p,h.f G,⟨by grind[Fo],λ a T E=>l a λ e=>E (e▸K),λ _ h=> .inl h,λ _ h=> .inl h,λ _ h=>h,λ _ h=>h,λ a d r=>absurd r d,xp λ e f=>?_,Q,R,S⟩,I w1 q _ l ⟨ty,O⟩ (Fo _ _ _ _)⟩;unfold ej at f;simp[F,L,M,aQ]at f;simp[ep,hM,eV,l9,N,B,nc,hS,jc,fz,kL,D,ne_eq,not_true_eq_false,if_false,m]at f;rcases Lo b 0 v.cells.toList 0 w1 #[] J d e f with h| ⟨j,rfl⟩;all_goals grind[RA]
def ai.c(p:ai)(b:Nat):ai:= ⟨λ a=>p.a a\/a=b,λ a=>p.b a\/a=b⟩
theorem JU{c ty}(i:g.status= .running)(k:∀w,ea P main g w= .go (aK g (aQ w.heap.size)) {w with heap:=w.heap.push (.cells c ty (0,0))} #[])(j:∀w1,bO p w w1->bG P main (p.c w1.heap.size) (aK g (aQ w1.heap.size)) {w1 with heap:=w1.heap.push (.cells c ty (0,0))} Stop):bG P main p g w Stop:=by
 refine qj i λ w1 l=> ⟨_,_,_,p.c w1.heap.size,k w1,⟨by simp,λ a b _=>?_,λ a b=>?_,λ a b=>?_,λ a=> .inl,λ a=> .inl,λ a d f=> .inr (f.resolve_left d),λ e m=>by grind,rfl,rfl,rfl⟩,j w1 l⟩;grind
 ·obtain h|rfl:=b;all_goals grind
 ·obtain h|rfl:=b;all_goals grind
end
def sw(f:Nat->cr)(i:Nat)(v:cr):Nat->Value:=λ j=>bif hq j i then v else f j
def pb(x:cr)(b:Bool):Value:= .tuple #[x,.bool b]
section
variable(A:Ar)(f:Nat->cr)(rs:List Nat)(x:cr)
theorem wT:Cq TP false 5 (WT A f rs) (WH A f rs):=λ w=>by kernel_rfl
def wK:List Item:= [.inBlock 1,.inLoop wB,.inBlock 0]
def f3:=sw (sw (sw f 10 (pb x true)) 11 (.bool true)) 12 x
def AZ:=WG A (f3 f x) rs (.inRegion (ek w3) [1,2]:: .code (bX uW)::wK)
theorem wV:Cq TP false 9 (WV A f rs (pb x true)) (AZ A f rs x):=λ w=>by kernel_rfl
def Sy(T:Array cr):Goroutine:={frame:={fn:=162,tmps:=T,todo:= [],defers:=rs.map pZ++uU A,mode:= .run,kind:=(WL A).frame.kind},callers:= [zc A],status:= .running,dying:=none}
def ri(T:Array cr):Goroutine:={frame:={fn:=162,tmps:=T,todo:= [],defers:=rs.map pZ++uU A,mode:= .returning,kind:=(WL A).frame.kind},callers:= [zc A],status:= .running,dying:=none}
theorem af7(T)(w):ea TP false (Sy A rs T) w= .go (ri A rs T) w #[]:=by kernel_rfl
theorem wW:Cq TP false 5 (WV A f rs (pb x false)) (Sy A rs ⟨wF A (sw (sw f 10 (pb x false)) 11 (.bool false))⟩):=λ w=>by kernel_rfl
theorem aa6(w):ea TP false (AZ A f rs x) w= .go (aK (AZ A f rs x) (aQ w.heap.size)) {w with heap:=w.heap.push (.cells (gf 12 (.int .i64 0)) 149 (0,0))} #[]:=by kernel_rfl
variable(b c:Nat)
def WS2:=WG A (sw (f3 f x) 5 (aQ b)) rs (.inRegion (ek w3) [2]:: .code (bX uW)::wK)
theorem af3:aK (AZ A f rs x) (aQ b)=WS2 A f rs x b:=by kernel_rfl
def sk:Op->ew| .store _ x _=>x|_=> .const dk
def tr:Op->ew| .store _ _ x=>x|_=> .const dk
def iU:Op->ew| .load _ x=>x|_=> .const dk
theorem agj:dh (WS2 A f rs x b) (bj (WS2 A f rs x b)):=ao (by kernel_rfl)
theorem ZC:(bj (WS2 A f rs x b)).op= .store 149 (sk (bj (WS2 A f rs x b)).op) (tr (bj (WS2 A f rs x b)).op):=by kernel_rfl
theorem af9:(bY (WS2 A f rs x b)).eval (sk (bj (WS2 A f rs x b)).op)=aQ b:=by kernel_rfl
theorem agh:(bY (WS2 A f rs x b)).eval (tr (bj (WS2 A f rs x b)).op)=x:=by kernel_rfl
def D4:=WG A (sw (f3 f x) 5 (aQ b)) rs (.inRegion (ek w4) [0]:: .code (bX (bX uW))::wK)
theorem Xe:Cq TP false 3 (aK (WS2 A f rs x b) dk) (D4 A f rs x b):=λ w=>by kernel_rfl
theorem aeS(w):ea TP false (D4 A f rs x b) w= .go (aK (D4 A f rs x b) (aQ w.heap.size)) {w with heap:=w.heap.push (.cells #[.slice none 0 0] 228 (0,0))} #[]:=by kernel_rfl
def WP:=WG A (sw (sw (f3 f x) 5 (aQ b)) 6 (aQ c)) rs (.code w5:: .code w9::wK)
theorem wP:Cq TP false 2 (aK (D4 A f rs x b) (aQ c)) (WP A f rs x b c):=λ w=>by kernel_rfl
def W9:=WG A f rs (.code w9::wK)
def rS:=WG A f rs (.inRegion (ek w9) [0,1,2]::wK)
def tk:=WG A (sw f 27 (cX A.c)) rs (.inRegion (ek w9) [1,2]::wK)
theorem aez:Cq TP false 1 (W9 A f rs) (rS A f rs):=λ w=>by kernel_rfl
theorem aaT:dh (rS A f rs) (bj (rS A f rs)):=ao (by kernel_rfl)
theorem ZT:(bj (rS A f rs)).op= .load 254 (iU (bj (rS A f rs)).op):=by kernel_rfl
theorem ab2:(bY (rS A f rs)).eval (iU (bj (rS A f rs)).op)=aQ A.d:=by kernel_rfl
theorem aij:aK (rS A f rs) (cX A.c)=tk A f rs:=by kernel_rfl
theorem XW:dh (tk A f rs) (bj (tk A f rs)):=ao (by kernel_rfl)
theorem abd:(bj (tk A f rs)).op= .load 228 (iU (bj (tk A f rs)).op):=by kernel_rfl
theorem aa4:(bY (tk A f rs)).eval (iU (bj (tk A f rs)).op)=f 6:=by kernel_rfl
theorem aeo:aK (tk A f rs) x=WS A (sw (sw f 27 (cX A.c)) 28 x) rs:=by kernel_rfl
end
section
variable(A:Ar)(T:Array cr)
def WY:=ri A [] T
def By:=lO TP false (WY A T)
theorem VH(w):ea TP false (WY A T) w= .go (By A T) w #[]:=by kernel_rfl
theorem wY:fP TP false 14 0 0 (By A T) (WC A T):=λ w=>by kernel_rfl
end
theorem wj(w):(hD 254).run TP w= .ok false w/\(hD 254).events TP w #[]= #[]:= ⟨by kernel_rfl,by kernel_rfl⟩
theorem vS(w):(hD 253).run TP w= .ok false w/\(hD 253).events TP w #[]= #[]:= ⟨by kernel_rfl,by kernel_rfl⟩
theorem Mi(w):(hD 228).run TP w= .ok false w/\(hD 228).events TP w #[]= #[]:= ⟨by kernel_rfl,by kernel_rfl⟩
def adN:Option nB->nB|some d=>d|none=> .string
theorem tt:O7 TP 149 12:= ⟨⟨adN (TP.underlying 149),by kernel_rfl,by kernel_rfl⟩,by kernel_rfl,λ w es=>by kernel_rfl,λ w es=>by kernel_rfl,λ w=>by kernel_rfl,λ w=>by kernel_rfl⟩
section
variable {rs:List Nat} {x:cr} {a:Nat} {o:Obj}
structure RD where
 A:Ar
 c:List cr
 d:Nat->Prop
 e:df
 b:cr->List cr
namespace RD
variable(D:RD)
def gn(p:ai):=∀a,D.d a->p.a a/\¬p.b a
def dU(w:df):=∀a,D.d a->w.heap[a]?=D.e.heap[a]?
def sa(x own:cr)(ob:Option Nat)(w:df):=(D.b x= []/\own=zR/\ob=none)\/∃b off n c cells ty fr,own= .slice (some ⟨b,off,none⟩) n c/\ob=some b/\w.heap[b]?=some (.cells cells ty fr)/\(D.b x).length=n*27/\(∀j,j<n*27->cells[off+j]?=(D.b x)[j]?)/\¬D.d b
structure gZ(rs:List Nat)(p:ai)(w:df):Prop where
 d:rs.Nodup
 b:∀r∈rs,p.a r/\p.b r/\w.heap[r]?=some (.deferred (some []))
def GZ(x:cr)(p:ai)(g:b2)(w:df):=∃f rs c own a,gZ rs p w/\g=W9 D.A f rs/\f 6=aQ c/\p.a c/\(∃cs ty fr,w.heap[c]?=some (.cells cs ty fr)/\cs[0]?=some own)/\D.sa x own a w/\(∀b,a=some b->p.a b/\p.b b)/\D.gn p/\D.dU w
def AS(x:cr)(p:ai)(g:b2)(w:df):=∃f rs a,oD g (WS D.A f rs)/\f 27=cX D.A.c/\D.sa x (f 28) a w/\(∀b,a=some b->p.a b/\p.b b)/\gZ rs p w/\D.gn p/\D.dU w
structure iO:Prop where
 k:∀a,D.d a->a<D.e.heap.size
 m:∀x∈D.c,∃cs,x= .agg cs/\cs.size=12/\∀u∈cs.toList,u.oneCell'=true
 l:D.d D.A.e/\∃cs ty fr,D.e.heap[D.A.e]?=some (.cells cs ty fr)/\cs[0]?=some (cX D.A.b)
 j:D.d D.A.d/\∃cs ty fr,D.e.heap[D.A.d]?=some (.cells cs ty fr)/\cs[0]?=some (cX D.A.c)
 e:∀x∈D.c,∀f rs b c p w,D.gn p->D.dU w->gZ rs p w->b≠c->p.a b->p.a c->p.b c->(∃ty,w.heap[b]?=some (.cells x.cells ty (0,0)))->w.heap[c]?=some (.cells #[zR] 228 (0,0))->bG TP false p (WP D.A f rs x b c) w (D.GZ x)
end RD
variable{D:RD}{p:ai}{w w':df}{g:b2}
theorem RD.dU.b(h:D.dU w)(c:D.gn p)(d:bO p w w'):D.dU w':=λ a b=>(d.e a (c a b).1).trans (h a b)
theorem RD.iO.d(K:D.iO)(h:D.dU w)(b:D.d a):a<w.heap.size:=by have:=h a b;rw[eo (K.k a b)]at this;grind
theorem RD.iO.h(K:D.iO)(c:D.gn p)(h:D.dU w):D.gn (p.c w.heap.size):=λ a b=> ⟨.inl (c a b).1,λ d=>d.elim (c a b).2 λ e=>by have:=K.d h b;omega⟩
theorem yC(b:a<w.heap.size):(w.heap.push o)[a]?=w.heap[a]?:=by grind
theorem C9:(w.heap.push o)[w.heap.size]?=some o:=by simp
theorem RD.iO.i(K:D.iO)(h:D.dU w)(o):D.dU {w with heap:=w.heap.push o}:=λ a b=>(yC (K.d h b)).trans (h a b)
theorem Ox{own ob}(h:D.sa x own ob w)(g:∀b,ob=some b->w'.heap[b]?=w.heap[b]?):D.sa x own ob w':=by obtain h| ⟨b,off,n,c,cells,ty,fr,a,d,e,f⟩:=h;exact .inl h;exact .inr (by grind)
theorem RD.gZ.c(h:RD.gZ rs p w)(b:bO p w w'):RD.gZ rs p w':= ⟨h.d,λ r a=> ⟨(h.b r a).1,(h.b r a).2.1,(b.e r (h.b r a).1).trans (h.b r a).2.2⟩⟩
theorem RD.gZ.f(h:RD.gZ rs p w)(b):RD.gZ rs (p.c b) w:= ⟨h.d,λ r a=> ⟨.inl (h.b r a).1,.inl (h.b r a).2.1,(h.b r a).2.2⟩⟩
theorem RD.gZ.e(h:RD.gZ rs p w)(o):RD.gZ rs p {w with heap:=w.heap.push o}:= ⟨h.d,λ r a=> ⟨(h.b r a).1,(h.b r a).2.1,(yC (eb.1 (h.b r a).2.2).1).trans (h.b r a).2.2⟩⟩
theorem RD.gZ.h(h:RD.gZ rs p w)(b:∀r∈rs,w'.heap[r]?=w.heap[r]?):RD.gZ rs p w':= ⟨h.d,λ r a=> ⟨(h.b r a).1,(h.b r a).2.1,(b r a).trans (h.b r a).2.2⟩⟩
theorem RD.gZ.i(h:RD.gZ rs p w){r}(a:r∈rs):r<w.heap.size:=(eb.1 (h.b r a).2.2).1
theorem ZP(K:D.iO)(h:D.GZ x p g w):bG TP false p g w (D.AS x):=by obtain⟨f,rs,c,own,t,q,rfl,m,s,o,r,e,a,i⟩:=h;refine jb (aez D.A f rs) ?_;have⟨j,cs,ty,fr,k,l⟩:=K.j;refine rR (v:=cX D.A.c) (aaT D.A f rs) rfl (ZT D.A f rs) (ab2 D.A f rs) (λ w=>(wj w).1) (λ w=>(wj w).2) (a _ j).1 ⟨cs,ty,fr,(i _ j).trans k,l⟩ ?_;rw[aij];refine rR (v:=own) (XW D.A f rs) rfl (abd D.A f rs) ((aa4 D.A f rs).trans m) (λ w=>(Mi w).1) (λ w=>(Mi w).2) s o ?_;rw[aeo];refine nQ rfl λ w1 d=> ⟨_,rs,t,.c rfl,rfl,?_,e,q.c d,a,i.b a d⟩;exact Ox r λ b n=>d.e b (e b n).1
theorem agE(K:D.iO)(t:x∈D.c)(f)(m:D.gn p)(H:D.dU w)(l:RD.gZ rs p w):bG TP false p (AZ D.A f rs x) w (D.AS x):=by
 obtain⟨cs,rfl,y,u⟩:=K.m x t;refine JU rfl (aa6 D.A f rs _) λ w1 j=>?_;have i:=H.b m j;have d:=K.h m i;have z:=(l.c j).f w1.heap.size;rw[af3];refine TU (v:= .agg cs) (n:=12) (agj D.A f rs _ _) rfl (ZC D.A f rs _ _) (af9 D.A f rs _ _) (agh D.A f rs _ _) (λ w=>tt.c w) (λ w es=>tt.a w es) y u (.inr rfl) (.inr rfl) ⟨_,_,C9,by simp⟩ λ w2 s w3 o c L=>?_;have I:D.dU w2:=(K.i i _).b d s;have J:D.dU w3:=λ a k=>(o a λ e=>by have:=K.d i k;omega).trans (I a k);have A:RD.gZ rs (p.c w1.heap.size) w3:=((z.e _).c s).h λ r G=>o r λ e=>by have:=(l.c j).i G;omega
 have C:w1.heap.size<w3.heap.size:=by grind
 refine jb (Xe D.A f rs _ _) ?_;refine JU rfl (aeS D.A f rs _ _) λ w4 b=>?_;have q:=J.b d b;have E:w1.heap.size<w4.heap.size:=hQ C b.b;have F:=K.h d q;have B:=(A.c b).f w4.heap.size;refine jb (wP D.A f rs _ _ _) ?_;refine bG.d (K.e _ t f rs _ _ _ _ F (K.i q _) (B.e _) (by omega) (.inl (.inr rfl)) (.inr rfl) (.inr rfl) ?_ C9) λ p g w h=>ZP K h;have⟨ty,c⟩:=c;exact⟨_,(yC E).trans ((b.e _ (.inr rfl)).trans c)⟩
end
section
variable{P:ef}{main:Bool}{g g':b2}{o:l8}{p p':ai}{w w':df}{v:cr}{Stop:ai->b2->df->Prop}
variable {t e:fl}
theorem Kl{b off len cap k z}(d:(gg t).run P w= .ok (.slice e) w)(f:(fu e).run P w= .ok z w)(a:k<len):(hN t (.slice (some ⟨b,off,none⟩) len cap) (.int .i64 k)).run P w= .ok (.pointer (some ⟨b,off+k*z,none⟩)) w:=by have c:(0:Int)<=(k:Int)/\(k:Int)< (len:Int):= ⟨k6 k,nf.2 a⟩;simp[hN,nv,d,f,c,hR,a]
theorem ZL{b off len cap k z}(d:(gg t).run P w= .ok (.slice e) w)(f:(gg t).events P w #[]= #[])(g:(fu e).run P w= .ok z w)(h:(fu e).events P w #[]= #[])(a:k<len):(hN t (.slice (some ⟨b,off,none⟩) len cap) (.int .i64 k)).events P w #[]= #[]:=by have c:(0:Int)<=(k:Int)/\(k:Int)< (len:Int):= ⟨k6 k,nf.2 a⟩;simp[hN,nv,d,f,g,h,c,a]
theorem ag2{x i}{b off len cap k z:Nat}(h:dh g o)(n:g.status= .running)(l:o.op= .indexAddr t x i)(m:(bY g).eval x= .slice (some ⟨b,off,none⟩) len cap)(j:(bY g).eval i= .int .i64 k)(d:∀w,(gg t).run P w= .ok (.slice e) w)(s:∀w,(gg t).events P w #[]= #[])(f:∀w,(fu e).run P w= .ok z w)(v:∀w,(fu e).events P w #[]= #[])(c:k<len)(r:bG P main p (aK g (.pointer (some ⟨b,off+k*z,none⟩))) w Stop):bG P main p g w Stop:=by
 refine qj n λ w1 u=>?_;have q:(ej (bY g).eval o).run P w1= .ok (.value (.pointer (some ⟨b,off+k*z,none⟩))) w1:=by unfold ej;simp[l,m,j];simp[Kl (d w1) (f w1) c]
 refine⟨_,_,_,p,h.b q,ey.q (xp λ e a=>?_) w1,r.b u⟩;unfold ej at a;simp[l,m,j]at a;simp only[ep,Kl (d w1) (f w1) c,ZL (d w1) (s w1) (f w1) (v w1) c,fz,jc]at a;simp at a
end
section
variable(A:Ar)(f:Nat->cr)(a:Option ht)(n c k:Nat)
def NN:=Af TP 164
def Jk:=gY NN
def Ve:=gY Jk
def qR:=zy (rz (bX Jk))
def yu:=bX NN
def zD:=gY qR
def LI:=rz (gY (bX (bX qR)))
def fc2:=gY LI
def PF:=bX LI
def Mq:=bX (bX (bX qR))
def Yn:=gY yu
def VL:=bX (bX yu)
def fF:= [aQ A.l,aQ A.e,aQ A.a,aQ A.d,f 4,f 5,f 6,f 7,f 8,f 9,f 10,f 11,f 12,f 13,f 14,f 15,f 16,f 17]
def Ao:=(dR TP false 4 (AD A)).callers.headD default
def FG(todo:List Item):Goroutine:={frame:={fn:=164,tmps:= ⟨fF A f⟩,todo,defers:= [],mode:= .run,kind:= .deferred},callers:= [Ao A],status:= .running,dying:=none}
def uF:Nat->Value:=λ _=>dk
def sV:=FG A uF [.inRegion (ek Ve) [0,1,2],.code (bX Jk),.code yu]
theorem fL:Cq TP false 4 (AD A) (sV A):=λ w=>by kernel_rfl
theorem ahP:dh (sV A) (bj (sV A)):=ao (by kernel_rfl)
theorem aih:(bj (sV A)).op= .load 191 (iU (bj (sV A)).op):=by kernel_rfl
theorem agY:(bY (sV A)).eval (iU (bj (sV A)).op)=aQ A.l:=by kernel_rfl
def fK:=sw (sw (sw f 6 (.slice a n c)) 7 (.int .i64 n)) 8 (.int .i64 k)
def uq:List Item:= [.inLoop qR,.inBlock 0,.code yu]
def FC:=FG A (fK f a n c k) (.inRegion (ek zD) [0]:: .code (bX qR)::uq)
theorem fC:Cq TP false 7 (aK (sV A) (.slice a n c)) (FC A uF a n c 0):=λ w=>by kernel_rfl
def FD(b:Bool):=FG A (sw f 9 (.bool b)) (.inRegion (ek zD) []:: .code (bX qR)::uq)
theorem adA(w):ea TP false (FC A f a n c k) w= .go (FD A (fK f a n c k) (decide ((k:Int)< (n:Int)))) w #[]:=by kernel_rfl
def F2(l:List Nat):=FG A f (.inRegion (ek fc2) l:: .code PF:: .inBlock 1:: .code Mq::uq)
theorem fD1:Cq TP false 8 (FD A f true) (F2 A (sw f 9 (.bool true)) [0,1,2,3]):=λ w=>by kernel_rfl
def F5(l:List Nat):=FG A f [.inRegion (ek Yn) l,.code (bX yu)]
theorem fD0:Cq TP false 6 (FD A f false) (F5 A (sw f 9 (.bool false)) [0,1]):=λ w=>by kernel_rfl
def Qj:Op->ew| .indexAddr _ x _=>x|_=> .const dk
def Q3:Op->ew| .indexAddr _ _ i=>i|_=> .const dk
theorem aeD:dh (F2 A f [0,1,2,3]) (bj (F2 A f [0,1,2,3])):=ao (by kernel_rfl)
theorem ajb:(bj (F2 A f [0,1,2,3])).op= .indexAddr 191 (Qj (bj (F2 A f [0,1,2,3])).op) (Q3 (bj (F2 A f [0,1,2,3])).op):=by kernel_rfl
theorem Wx:(bY (F2 A f [0,1,2,3])).eval (Qj (bj (F2 A f [0,1,2,3])).op)=f 6:=by kernel_rfl
theorem aeG:(bY (F2 A f [0,1,2,3])).eval (Q3 (bj (F2 A f [0,1,2,3])).op)=f 8:=by kernel_rfl
theorem Yt(v):aK (F2 A f [0,1,2,3]) v=F2 A (sw f 10 v) [1,2,3]:=by kernel_rfl
theorem aix:dh (F2 A f [1,2,3]) (bj (F2 A f [1,2,3])):=ao (by kernel_rfl)
theorem agw:(bj (F2 A f [1,2,3])).op= .load 149 (iU (bj (F2 A f [1,2,3])).op):=by kernel_rfl
theorem agB:(bY (F2 A f [1,2,3])).eval (iU (bj (F2 A f [1,2,3])).op)=f 10:=by kernel_rfl
theorem aaL(v):aK (F2 A f [1,2,3]) v=F2 A (sw f 11 v) [2,3]:=by kernel_rfl
theorem Va(w):ea TP false (F2 A f [2,3]) w= .go (aK (F2 A f [2,3]) (aQ w.heap.size)) {w with heap:=w.heap.push (.cells (gf 12 (.int .i64 0)) 149 (0,0))} #[]:=by kernel_rfl
theorem afT(v):aK (F2 A f [2,3]) v=F2 A (sw f 5 v) [3]:=by kernel_rfl
theorem ajl:dh (F2 A f [3]) (bj (F2 A f [3])):=ao (by kernel_rfl)
theorem Vx:(bj (F2 A f [3])).op= .store 149 (sk (bj (F2 A f [3])).op) (tr (bj (F2 A f [3])).op):=by kernel_rfl
theorem YU:(bY (F2 A f [3])).eval (sk (bj (F2 A f [3])).op)=f 5:=by kernel_rfl
theorem acf:(bY (F2 A f [3])).eval (tr (bj (F2 A f [3])).op)=f 11:=by kernel_rfl
def F3(l:List Nat):=FG A f (.inRegion (ek PF) l:: .inBlock 1:: .code Mq::uq)
theorem f24:Cq TP false 2 (aK (F2 A f [3]) dk) (F3 A f [0,1,2]):=λ w=>by kernel_rfl
theorem Zj:dh (F3 A f [0,1,2]) (bj (F3 A f [0,1,2])):=ao (by kernel_rfl)
theorem ada:(bj (F3 A f [0,1,2])).op= .load 253 (iU (bj (F3 A f [0,1,2])).op):=by kernel_rfl
theorem Yc:(bY (F3 A f [0,1,2])).eval (iU (bj (F3 A f [0,1,2])).op)=aQ A.e:=by kernel_rfl
theorem abA(v):aK (F3 A f [0,1,2]) v=F3 A (sw f 12 v) [1,2]:=by kernel_rfl
theorem Wh:dh (F3 A f [1,2]) (bj (F3 A f [1,2])):=ao (by kernel_rfl)
theorem XK:(bj (F3 A f [1,2])).op= .load 149 (iU (bj (F3 A f [1,2])).op):=by kernel_rfl
theorem Vv:(bY (F3 A f [1,2])).eval (iU (bj (F3 A f [1,2])).op)=f 5:=by kernel_rfl
theorem ZN(v):aK (F3 A f [1,2]) v=F3 A (sw f 13 v) [2]:=by kernel_rfl
theorem We(w):ea TP false (F3 A f [2]) w= .comm (iM TP false (F3 A f [2])) #[{chan:=f 12,send:=some (f 13),zero:= .tuple #[]}] true .send w #[]:=by kernel_rfl
def FT:=eL (iM TP false (F3 A f [2])) dk
def CB:Value:= .int .i64 (IntKind.i64.wrap ((k:Int)+1))
theorem fT:Cq TP false 9 (FT A (fK f a n c k)) (FG A (sw (sw (fK f a n c k) 14 (CB k)) 8 (CB k)) (.inRegion (ek zD) [0]:: .code (bX qR)::uq)):=λ w=>by kernel_rfl
theorem afu:dh (F5 A f [0,1]) (bj (F5 A f [0,1])):=ao (by kernel_rfl)
theorem U0:(bj (F5 A f [0,1])).op= .load 253 (iU (bj (F5 A f [0,1])).op):=by kernel_rfl
theorem afE:(bY (F5 A f [0,1])).eval (iU (bj (F5 A f [0,1])).op)=aQ A.e:=by kernel_rfl
theorem adC(v):aK (F5 A f [0,1]) v=F5 A (sw f 15 v) [1]:=by kernel_rfl
end
theorem L7(w):(hD 191).run TP w= .ok false w/\(hD 191).events TP w #[]= #[]:= ⟨by kernel_rfl,by kernel_rfl⟩
theorem OV(w):(gg 191).run TP w= .ok (.slice 149) w/\(gg 191).events TP w #[]= #[]:= ⟨by kernel_rfl,by kernel_rfl⟩
section
structure ra(D:RD)(a:Option ht)(n c:Nat):Prop where
 d:D.iO
 l:D.d D.A.l/\∃cs ty fr,D.e.heap[D.A.l]?=some (.cells cs ty fr)/\cs[0]?=some (.slice a n c)
 i:D.c.length=n
 e:n<2^62
 h:n=0\/∃b off C ty fr,a=some ⟨b,off,none⟩/\D.d b/\D.e.heap[b]?=some (.cells C ty fr)/\∀k cs,D.c[k]?=some (.agg cs)->∀j,j<12->C[off+k*12+j]?=cs[j]?
structure rM(f:Nat->cr)(a:Option ht)(n c k:Nat):Prop where
 h:f 6= .slice a n c
 i:f 7= .int .i64 n
 e:f 8= .int .i64 k
variable{D:RD}{a:Option ht}{n c k:Nat}{f:Nat->cr}{p:ai}{w w':df}{g:b2}
theorem yB{i j:Nat}(h:i≠j):hq i j=false:=by cases e:hq i j with|false=>rfl|true=>exact absurd (Nat.eq_of_beq_eq_true e) h
theorem rM.d(h:rM f a n c k):fK f a n c k=f:=by funext j;unfold fK sw;by_cases e:j=8;subst e;exact h.e.symm;by_cases d:j=7;subst d;exact h.i.symm;by_cases b:j=6;subst b;exact h.h.symm;have l:hq j 8=false:=yB e;have i:hq j 7=false:=yB d;have g:hq j 6=false:=yB b;rw[l,i,g];rfl
theorem rM.b(h:rM f a n c k)(j)(v)(h6:j≠6)(h7:j≠7)(h8:j≠8):rM (sw f j v) a n c k:=by
 have e:∀i,i≠j->Go.Rs.sw f j v i=f i:=λ i b=>by unfold Go.Rs.sw;have:hq i j=false:=yB b;rw[this];rfl
 exact⟨(e 6 (Ne.symm h6)).trans h.h,(e 7 (Ne.symm h7)).trans h.i,(e 8 (Ne.symm h8)).trans h.e⟩
theorem V0(f)(a)(n c k):rM (fK f a n c k) a n c k:= ⟨rfl,rfl,rfl⟩
def fHead(D:RD)(a:Option ht)(n c:Nat)(k:Nat)(p:ai)(g:b2)(w:df):=(∃f,rM f a n c k/\k<n/\f 12=cX D.A.b/\D.c[k]?=some (f 13)/\oD g (F3 D.A f [2]))\/(k=n/\∃f,f 15=cX D.A.b/\oD g (F5 D.A f [1]))
theorem Rj(L:ra D a n c)(hI:rM f a n c k)(an:k<=n)(r:D.gn p)(A:D.dU w):bG TP false p (FG D.A f (.inRegion (ek zD) [0]:: .code (bX qR)::uq)) w (fHead D a n c k):=by
 have Y:FG D.A f (.inRegion (ek zD) [0]:: .code (bX qR)::uq)=FC D.A f a n c k:=by unfold FC;rw[hI.d]
 rw[Y];refine GN rfl (adA D.A f a n c k) ?_;rw[hI.d];have⟨o,F,I,E,G,H⟩:=L.d.l;by_cases i:k<n;have z:decide ((k:Int)< (n:Int))=true:=by simpa using i
 rw[z];refine jb (fD1 D.A f) ?_;have V:k<D.c.length:=by rw[L.i];exact i
 have⟨cs,s,q,Z⟩:=L.d.m (D.c[k]) (List.getElem_mem V);have X:D.c[k]?=some (.agg cs):=by rw[gw V,s]
 obtain h0| ⟨b,off,C,ty,fr,rfl,T,aa,ab⟩:=L.h;omega;have m:=hI.b 9 (.bool true) (by decide) (by decide) (by decide);generalize ai:sw f 9 (.bool true)=g at m⊢;refine ag2 (aeD D.A g) rfl (ajb D.A g) ((Wx D.A g).trans m.h) ((aeG D.A g).trans m.e) (λ w=>(OV w).1) (λ w=>(OV w).2) (λ w=>tt.c w) (λ w=>tt.a w #[]) i ?_;rw[Yt];have P:=m.b 10 (.pointer (some ⟨b,off+k*12,none⟩)) (by decide) (by decide) (by decide);have J:sw g 10 (.pointer (some ⟨b,off+k*12,none⟩)) 10= .pointer (some ⟨b,off+k*12,none⟩):=rfl;generalize aj:sw g 10 (.pointer (some ⟨b,off+k*12,none⟩))=h at P J⊢;refine T5 (cs:=cs.toList) (aix D.A h) rfl (agw D.A h) ((agB D.A h).trans J) (by have:=tt;simpa[q]using this) (r b T).1 ⟨C,ty,fr,(A b T).trans aa,λ j U=>?_⟩ ?_;rw[ab k cs X j (by simpa[q]using U)];simp;rw[aaL];have Q:=P.b 11 (.agg cs.toList.toArray) (by decide) (by decide) (by decide);have K:sw h 11 (.agg cs.toList.toArray) 11= .agg cs:=rfl;generalize ak:sw h 11 (.agg cs.toList.toArray)=l at Q K⊢;refine JU rfl (Va D.A l) λ w1 af=>?_;have B:=A.b r af;have W:=L.d.h r B;rw[afT];have R:=Q.b 5 (aQ w1.heap.size) (by decide) (by decide) (by decide);have u:sw l 5 (aQ w1.heap.size) 5=aQ w1.heap.size:=rfl;have M:sw l 5 (aQ w1.heap.size) 11= .agg cs:=K;generalize al:sw l 5 (aQ w1.heap.size)=d at R u M⊢;refine TU (v:= .agg cs) (n:=12) (ajl D.A d) rfl (Vx D.A d) ((YU D.A d).trans u) ((acf D.A d).trans M) (λ w=>tt.c w) (λ w es=>tt.a w es) q Z (.inr rfl) (.inr rfl) ⟨_,_,C9,by simp⟩ λ w2 ag w3 ac y ao=>?_;have ad:D.dU w2:=(L.d.i B _).b W ag;have ae:D.dU w3:=λ x s=>(ac x λ e=>by have:=L.d.d B s;omega).trans (ad x s);refine jb (f24 D.A d) ?_;refine rR (v:=cX D.A.b) (Zj D.A d) rfl (ada D.A d) (Yc D.A d) (λ w=>(vS w).1) (λ w=>(vS w).2) (W _ o).1 ⟨F,I,E,(ae _ o).trans G,H⟩ ?_;rw[abA];have S:=R.b 12 (cX D.A.b) (by decide) (by decide) (by decide);have O:sw d 12 (cX D.A.b) 5=aQ w1.heap.size:=u;have N:sw d 12 (cX D.A.b) 12=cX D.A.b:=rfl;generalize am:sw d 12 (cX D.A.b)=t at S O N⊢;have⟨ah,y⟩:=y;refine T5 (cs:=cs.toList) (Wh D.A t) rfl (XK D.A t) ((Vv D.A t).trans O) (by have:=tt;simpa[q]using this) (.inr rfl) ⟨cs,ah,_,y,λ j U=>?_⟩ ?_;rw[ng];simp;rw[ZN];refine nQ rfl λ w4 _=> .inl ⟨_,S.b 13 _ (by decide) (by decide) (by decide),i,N,?_,.c rfl⟩;rw[X];rfl;have z:decide ((k:Int)< (n:Int))=false:=by simpa using i
 rw[z];refine jb (fD0 D.A f) ?_;refine rR (v:=cX D.A.b) (afu D.A _) rfl (U0 D.A _) (afE D.A _) (λ w=>(vS w).1) (λ w=>(vS w).2) (r _ o).1 ⟨F,I,E,(A _ o).trans G,H⟩ ?_;rw[adC];exact nQ rfl λ w4 _=> .inr ⟨by omega,_,rfl,.c rfl⟩
theorem VM(L:ra D a n c)(d:D.gn p)(e:D.dU w):bG TP false p (AD D.A) w (fHead D a n c 0):=by refine jb (fL D.A) ?_;have⟨b,cs,ty,fr,f,g⟩:=L.l;refine rR (v:= .slice a n c) (ahP D.A) rfl (aih D.A) (agY D.A) (λ w=>(L7 w).1) (λ w=>(L7 w).2) (d _ b).1 ⟨cs,ty,fr,(e _ b).trans f,g⟩ ?_;refine jb (fC D.A a n c) ?_;exact Rj L (V0 _ _ _ _ _) (Nat.zero_le _) d e
theorem abK(L:ra D a n c)(hI:rM f a n c k)(b:k<n)(g:D.gn p)(h:D.dU w):bG TP false p (FT D.A f) w (fHead D a n c (k+1)):=by
 have d:FT D.A f=FT D.A (fK f a n c k):=by rw[hI.d]
 rw[d];refine jb (fT D.A f a n c k) ?_;have i:=L.e;have e:CB k= .int .i64 ((k+1:Nat):Int):=by
  unfold CB
  congr 1;have:IntKind.i64.wrap ((k:Int)+1)=(k:Int)+1:=by have j:k<4611686018427387904:=Nat.lt_trans b i;simp[IntKind.wrap,IntKind.bits,IntKind.signed];omega
  rw[this];rfl
 refine Rj L ⟨rfl,rfl,e⟩ b g h
end
section
variable(A:Ar)(f h:Nat->cr)
def ve:=zy (rz (bX (Af TP 165)))
def Db:=(dR TP false 11 (aK (F5 A f [1]) dk)).callers.headD default
def yz:=aQ A.a::(k4 83).map λ i=>h (i+1)
def uX:Goroutine:={frame:={fn:=165,tmps:= ⟨yz A h⟩,todo:= [.code ve,.inLoop ve,.inBlock 0],defers:= [],mode:= .run,kind:= .normal},callers:= [Db A f,Ao A],status:= .running,dying:=none}
def h0:Nat->Value:=λ i=>bif hq i 7 then dk else dk
theorem fW:fP TP false 11 0 1 (aK (F5 A f [1]) dk) (uX A f h0):=λ w=>by kernel_rfl
def oU:=dR TP false 16 (uX A f h)
theorem fLd:Ch TP false 16 1 1 (uX A f h):=λ w=>by kernel_rfl
theorem adr:cP (oU A f h) 220 #[aQ A.a]:=ac (by kernel_rfl)
def DC:=dR TP false 35 (aK (oU A f h) (.int .u64 0))
theorem fQ:Ch TP false 35 1 0 (aK (oU A f h) (.int .u64 0)):=λ w=>by kernel_rfl
def zM:=aK (DC A f h) (.pointer (some ⟨A.a,0,none⟩))
theorem Vt(w)(st b)(a:ba A.a w st b):ea TP false (DC A f h) w= .go (zM A f h) w #[]:=zk (by kernel_rfl) (ox a)
theorem agK:cP (zM A f h) 200 #[.pointer (some ⟨A.a,0,none⟩)]:=ac (by kernel_rfl)
end
def YY(c:Nat)(y:Int):=(c=1/\y=4294967296)\/(c=2/\y=8589934592)\/(c=3/\y=12884901888)
section
variable(A:Ar)(f h:Nat->cr)
def oA(y:Int):=dR TP false 48 (aK (oU A f h) (.int .u64 y))
end
section
variable(A:Ar)(f h:Nat->cr)(y:Int)
def CH:=dR TP false 19 (aK (oA A f h y) (.bool true))
def vC:=aK (CH A f h y) (.pointer (some ⟨A.a,1,none⟩))
def s9:=dR TP false 23 (aK (vC A f h y) dk)
def tB:=dR TP false 16 (aK (s9 A f h y) dk)
def Er:=dR TP false 15 (aK (tB A f h y) (.int .u64 0))
def Eh:=aK (Er A f h y) (.pointer (some ⟨A.a,0,none⟩))
def uk:=dR TP false 9 (aK (oA A f h y) (.bool false))
def F7(l:List Nat):=FG A f [.inRegion (ek VL) l]
structure SQ:Prop where
 z:Ch TP false 48 1 1 (aK (oU A f h) (.int .u64 y))
 a:cP (oA A f h y) 222 #[aQ A.a,.int .u64 y,.int .u64 (y+1)]
 k:(oA A f h y).status= .running
 C:Ch TP false 19 1 1 (aK (oA A f h y) (.bool true))
 g:(CH A f h y).status= .running
 p:∀w st D,ba A.a w st D->ea TP false (CH A f h y) w= .go (vC A f h y) w #[]
 j:cP (vC A f h y) 203 #[.pointer (some ⟨A.a,1,none⟩)]
 n:(vC A f h y).status= .running
 D:Ch TP false 23 1 1 (aK (vC A f h y) dk)
 i:cP (s9 A f h y) 204 #[.pointer (some ⟨A.a,1,none⟩),.bool false]
 q:(s9 A f h y).status= .running
 r:(s9 A f h y).offers=none
 E:Ch TP false 16 1 1 (aK (s9 A f h y) dk)
 c:cP (tB A f h y) 220 #[aQ A.a]
 d:(tB A f h y).status= .running
 B:Ch TP false 15 1 0 (aK (tB A f h y) (.int .u64 0))
 e:(Er A f h y).status= .running
 s:∀w st D,ba A.a w st D->ea TP false (Er A f h y) w= .go (Eh A f h y) w #[]
 m:cP (Eh A f h y) 200 #[.pointer (some ⟨A.a,0,none⟩)]
 o:Cq TP false 12 (aK (Eh A f h y) dk) (F7 A (sw f 16 dk) [0,1])
 x:Ch TP false 9 1 1 (aK (oA A f h y) (.bool false))
 u:(uk A f h y).frame={fn:=165,tmps:=(uk A f h y).frame.tmps,todo:= [.code ve,.inLoop ve,.inBlock 0],defers:= [],mode:= .run,kind:= .normal}
 t:(uk A f h y).frame.tmps.size=84
 b:(uk A f h y).frame.tmps[0]?=some (aQ A.a)
 l:uk A f h y={frame:=(uk A f h y).frame,callers:= [Db A f,Ao A],status:= .running,dying:=none}
variable{y}
set_option maxHeartbeats 8000000 in
theorem mi{c}(b:YY c y):SQ A f h y:=by rcases b with⟨_,rfl⟩| ⟨_,rfl⟩| ⟨_,rfl⟩<;>
 exact⟨λ w=>by kernel_rfl,ac (by kernel_rfl),by kernel_rfl,λ w=>by kernel_rfl,by kernel_rfl,λ w st d a=>zk (by kernel_rfl) (Ap a),ac (by kernel_rfl),by kernel_rfl,λ w=>by kernel_rfl,ac (by kernel_rfl),by kernel_rfl,by kernel_rfl,λ w=>by kernel_rfl,ac (by kernel_rfl),by kernel_rfl,λ w=>by kernel_rfl,by kernel_rfl,λ w st d a=>zk (by kernel_rfl) (ox a),ac (by kernel_rfl),λ w=>by kernel_rfl,λ w=>by kernel_rfl,by kernel_rfl,by kernel_rfl,by kernel_rfl,by kernel_rfl⟩
end
theorem dh.e{P main g o w x a c s r}(h:dh g o)(d:o.op= .call {callee:= .builtin .close,args:= #[x],argTypes:=a})(f:(bY g).eval x=cX c)(b:w.heap[c]?=some (.chan 0 #[] false s r false))(e:(P.funcs[g.frame.fn]?).any (·.norace)=false):ea P main g w= .go (aK g dk) (w.setChan c 0 #[] true s r false) (iS c):=by rw[h.c,stepG_close h.k h.a (BR h.h) d f b e,h.d];rfl
def Cs:Op->ew| .call c=>c.args.getD 0 (.const dk)|_=> .const dk
section
variable(A:Ar)(f h:Nat->cr)
theorem abF:dh (F5 A f [1]) (bj (F5 A f [1])):=ao (by kernel_rfl)
theorem agc:(bj (F5 A f [1])).op= .call {callee:= .builtin .close,args:= #[Cs (bj (F5 A f [1])).op],argTypes:=Ia (bj (F5 A f [1])).op}:=by kernel_rfl
theorem afH:(bY (F5 A f [1])).eval (Cs (bj (F5 A f [1])).op)=f 15:=by kernel_rfl
theorem aei:(TP.funcs[(F5 A f [1]).frame.fn]?).any (·.norace)=false:=by kernel_rfl
theorem Wc:hJ TP (F5 A f [1])=true:=by kernel_rfl
theorem Yk:dh (F7 A f [1]) (bj (F7 A f [1])):=ao (by kernel_rfl)
theorem aiq:(bj (F7 A f [1])).op= .call {callee:= .builtin .close,args:= #[Cs (bj (F7 A f [1])).op],argTypes:=Ia (bj (F7 A f [1])).op}:=by kernel_rfl
theorem acr:(bY (F7 A f [1])).eval (Cs (bj (F7 A f [1])).op)=f 17:=by kernel_rfl
theorem ahX:(TP.funcs[(F7 A f [1]).frame.fn]?).any (·.norace)=false:=by kernel_rfl
theorem aaq:hJ TP (F7 A f [1])=true:=by kernel_rfl
theorem agm:dh (F7 A f [0,1]) (bj (F7 A f [0,1])):=ao (by kernel_rfl)
theorem ah3:(bj (F7 A f [0,1])).op= .load 254 (iU (bj (F7 A f [0,1])).op):=by kernel_rfl
theorem Wd:(bY (F7 A f [0,1])).eval (iU (bj (F7 A f [0,1])).op)=aQ A.d:=by kernel_rfl
theorem U9(v):aK (F7 A f [0,1]) v=F7 A (sw f 17 v) [1]:=by kernel_rfl
theorem fE:CE TP false 3 0 (aK (F7 A f [1]) dk):= ⟨λ w=>by kernel_rfl,λ w=>by kernel_rfl,by kernel_rfl⟩
theorem XX:Cq TP false 22 (aK (zM A f h) dk) (F7 A (sw f 16 dk) [0,1]):=λ w=>by kernel_rfl
end
def Tc(e:ma):=∀a,e.loc= .cell a->e.sync=false
def NS{α:Type}(P:ef)(s:Sem α):=∀w es,(∀e∈es,Tc e)->∀e∈s.events P w es,Tc e
section
variable{P:ef}{α β:Type}
theorem NS.c{s}{f:α->Sem β}(h:NS P s)(g:∀x,NS P (f x)):NS P (s>>=f):=λ w es c e b=>by rw[ep]at b;cases d:s.run P w with|ok a w'=>rw[d]at b;exact g a w' _ (h w es c) e b|halt x w'=>rw[d]at b;exact h w es c e b
theorem NS.a(a):NS P (Pure.pure a:Sem α):=λ w es c e b=>c e (by simpa using b)
theorem NS.d(x):NS P (.halt x:Sem α):=λ w es b e a=>b e (by simpa using a)
theorem NS.q{c}[Decidable c]{s t:Sem α}(h1:NS P s)(h2:NS P t):NS P (if c then s else t):=by split<;>assumption
theorem NS.B(a):NS P (Go.load a):=λ w es c e b=>by
 rw[l7]at b;split at b
 ·rcases j1.1 b with h|rfl;exact c e h;intro _ _;rfl
 ·split at b
  ·rcases k7.1 b with h|h;exact c e h;obtain⟨x,_,rfl⟩:=mo.1 h;intro _ _;rfl
  ·exact c e b
theorem NS.b{s:Sem α}(h:∀w es,s.events P w es=es):NS P s:=λ w es b e a=>b e (by rwa [h]at a)
theorem NS.w(a)(v):NS P (Go.store a v):=by
 by_cases g:v.oneCell'=true
 ·intro w es f e d;rw[k5 P w es a v .plain g]at d;split at d
  ·split at d;exact f e d
   ·rcases j1.1 d with h|rfl;exact f e h;intro _ _;rfl
  ·split at d
   ·rcases k7.1 d with h|h;exact f e h;obtain⟨x,_,rfl⟩:=mo.1 h;intro _ _;rfl
   ·exact f e d
 ·cases v with|agg c=>exact .b λ w es=>rfl|tuple c=>exact .b λ w es=>rfl|_=>exact absurd rfl g
theorem NS.e(a):∀vs i,NS P (hA a vs i)| [],_=> .a _|v::r,i=> .c (.w _ _) λ _=>NS.e a r (i+1)
theorem NS.f(a):∀n i b,NS P (hv a i n b)|0,_,_=> .a _|n+1,i,b=> .c (.B _) λ _=>NS.f a n (i+1) _
theorem NS.h(size n)(v):NS P (gk size n v):=by unfold gk;split;exact .f _ _ _ _;exact .a _;exact .a _;exact .d _
theorem NS.o(m):NS P (Go.mark m):=λ w es b e a=>by rw[events_mark]at a;rcases j1.1 a with h|rfl;exact b e h;intro _ h;cases h
theorem NS.l(n):NS P (o0 n):=by unfold o0;exact .q (.o _) (.a _)
theorem NS.k(m):NS P (runtimePanic (.error m):Sem α):= .c (.b λ _ _=>rfl) λ _=> .d _
theorem NS.j(a)(n):NS P (ko a n):=by unfold ko;refine .c (.b λ _ _=>rfl) λ _=>?_;split<;>exact .a _
theorem NS.x(v):NS P (asInt v):=by unfold Go.asInt;refine .c ?_ λ _=> .a _;unfold nv;repeat' split;all_goals first|exact .a _|exact .d _|exact .k _
theorem NS.u(t):NS P (gg t):= .b λ w es=>events_underlying P w es t
theorem NS.z(t):NS P (fu t):= .b λ w es=>events_sizeOf P w es t
theorem NS.A(t):NS P (nH t):= .b λ w es=>events_typeInfo P w es t
theorem NS.y(t):NS P (zeroValue t):= .b λ w es=>events_zeroValue P w es t
theorem NS.n(q):NS P (Go.choose q):= .b λ w es=>events_choose P w es q
theorem NS.m(a):NS P (Go.frozen a):= .b λ w es=>rfl
theorem NS.t(v):NS P (hG v):=by unfold hG;split;exact .a _;exact .a _;exact .d _
theorem NS.p(t)(c):NS P (Go.newRow t c):= .c (.b λ _ _=>rfl) λ _=> .a _
theorem NS.i(a b c)(x)(v):NS P (kR a b c x v):=by unfold kR;repeat' first|exact NS.a _|exact NS.d _|exact NS.j _ _|exact NS.m _| (refine NS.c ?_ λ _=>?_)|refine NS.q ?_ ?_|split
theorem NS.s(m):NS P (Go.stuck m:Sem α):= .d _
theorem NS.g(m):NS P (Go.unsupported m:Sem α):= .d _
theorem NS.r(a)(ty)(vs):NS P (ei a ty vs):=by unfold ei;repeat' first|with_reducible exact NS.a _|with_reducible exact NS.d _|with_reducible exact NS.s _|with_reducible exact NS.g _|with_reducible exact NS.k _|with_reducible exact NS.u _|with_reducible exact NS.z _|with_reducible exact NS.A _|with_reducible exact NS.y _|with_reducible exact NS.n _|with_reducible exact NS.t _|with_reducible exact NS.p _ _|with_reducible exact NS.i _ _ _ _ _|with_reducible exact NS.h _ _ _|with_reducible exact NS.e _ _ _|with_reducible exact NS.l _|with_reducible exact NS.o _|with_reducible exact NS.x _|with_reducible exact NS.j _ _| (with_reducible refine NS.c ?_ λ _=>?_)| (with_reducible refine NS.q ?_ ?_)|split
end
section
variable{main:Bool}{g g':b2}{o:l8}{p p':ai}{w w':df}{Stop:ai->b2->df->Prop}
variable {n:Nat} {v:cr}
def ai.e(p:ai)(w w':df):ai:= ⟨λ a=>p.a a\/(w.heap.size<=a/\a<w'.heap.size),λ a=>p.b a\/(w.heap.size<=a/\a<w'.heap.size)⟩
def fI:=(TP.info? 231).getD default
theorem nw:TP.info? 231=some fI:=by kernel_rfl
def fZ:=fI.zero.getD dk
theorem fI_z:fI.zero=some fZ:=by kernel_rfl
theorem lW:fI.size=27:=by kernel_rfl
theorem se:fI.bytes=216:=by kernel_rfl
theorem FN:fZ.cells.size=27:=by kernel_rfl
theorem om:TP.underlying 228=some (.slice 231):=by kernel_rfl
theorem IC{base xs}(h:w.ownsRow base 231 27 v n xs)(e:∀k,v.ownBlock=some k->w'.heap[k]?=w.heap[k]?):w'.ownsRow base 231 27 v n xs:=by obtain⟨h0,h| ⟨g,cap,a,rfl,b,c,d⟩⟩:=h;exact⟨h0,.inl h⟩;exact⟨h0,.inr ⟨g,cap,a,rfl,b,(e g rfl).trans c,d⟩⟩
def lh(w:df)(v:cr)(n:Nat):=∀q m cap,v= .slice (some ⟨q,0,none⟩) m cap->0<n/\∀a ty fr,w.heap[q]?=some (.cells a ty fr)->∀j,n*27<=j->j<a.size->a[j]?=some (.int .i64 0)
theorem lh.a(h:lh w v n)(b:∀k,v.ownBlock=some k->w'.heap[k]?=w.heap[k]?):lh w' v n:=λ q m cap e=> ⟨(h q m cap e).1,λ a ty fr c=>(h q m cap e).2 a ty fr (by rw[<-b q (by rw[e];rfl)];exact c)⟩
theorem lh.b(n):lh w (.slice none 0 0) n:=λ q m cap e=>by cases e
theorem ae0:fZ.cells=gf 27 (.int .i64 0):=by kernel_rfl
theorem Nj{k j:Nat}{x}(h:(fv fZ.cells k)[j]?=some x):x= .int .i64 0:=by unfold fv at h;rw[en]at h;obtain⟨i,a,rfl⟩:=eH.1 h;rw[ae0,Array.getElem!_eq_getD,Array.getD_eq_getD_getElem?,Array.getElem?_replicate,if_pos (by simp;exact n1 _ (by omega))];rfl
theorem LX{b}{u:df}{k c:Nat}(i:0<n)(o:b.size=n*27):lh (u.alloc (.cells (b++fv fZ.cells k) 231)) (.slice (some ⟨u.heap.size,0,none⟩) n c) n:=by
 intro q m cap e;refine⟨i,λ f ty fr a j l g=>?_⟩;cases e;have a:(u.heap.push (.cells (b++fv fZ.cells k) 231))[u.heap.size]?=some (.cells f ty fr):=a;simp at a;have⟨rfl,_,_⟩:=a;rw[Array.getElem?_append,if_neg (by omega)];rw[Array.size_append]at g;have h:j- b.size< (fv fZ.cells k).size:=by omega
 have d:=eo h;rw[d,Nj d]
theorem abV{x y base m c b off xs i}(h:dh g o)(ar:g.status= .running)(ax:o.op= .call {callee:= .builtin .append,args:= #[x,y],argTypes:= #[228,228]}) (aE:(bY g).eval x=v) (aF:(bY g).eval y= .slice (some ⟨b,off,none⟩) m c) (ay:w.ownsRow base 231 27 v n xs) (D:∀k,v.ownBlock=some k->p.a k/\p.b k) (Z:p.a b) (ao:∃C ty fr,w.heap[b]?=some (.cells C ty fr)/\∀j,j<m*27->C[off+j]?=i[j]?) (d:i.length=m*27) (E:∀u∈i,u.oneCell'=true) (L:(n+m)*216<=140737488355328) (an:base<=w.heap.size) (aB:lh w v n) (aA:∀w1,bO p w w1->∀v' w',w'.ownsRow base 231 27 v' (n+m) (xs++i)->lh w' v' (n+m)->w1.grownBy w' v.ownBlock->(∀k,v'.ownBlock=some k->(p.e w1 w').a k/\(p.e w1 w').b k)->bG TP main (p.e w1 w') (aK g v') w' Stop):bG TP main p g w Stop:=by
 have⟨C,ai,ah,ak,al⟩:=ao;refine qj ar λ w1 K=>?_;have M:=IC (w':=w1) ay λ k l=>K.e k (D k l).1;have z:∀j u,i[j]?=some u->w1.cell? ((⟨b,off,none⟩:ht).add j)=some u:=λ j u aa=>by
  have G:j<m*27:=by rw[<-d];exact(List.getElem?_eq_some_iff.1 aa).1
  rw[hR,j2 w1 b (off+j) C ai ah (by rw[K.e b Z,ak]),al j G,aa]
 have W:n+m<=maxLen:=by simp[maxLen];omega
 have⟨v',w',f,ac,F,ab⟩:=run_append_own (P:=TP) w1 base 228 o.type 231 fI fZ 27 216 om nw fI_z lW se FN (by omega) v n xs M ⟨b,off,none⟩ m c i d z E W L (hy an K.b);have aq:=events_append_where (P:=TP) w1 base 228 o.type 231 fI fZ 27 216 om nw fI_z lW se v n xs M ⟨b,off,none⟩ m c i d z E W L;have aw:=NS.r (P:=TP) #[228,228] o.type #[v,.slice (some ⟨b,off,none⟩) m c] w1 #[] (by simp);obtain⟨X,I⟩:∃X,ej (bY g).eval o=builtin .append #[228,228] o.type X (#[x,y].map (bY g).eval):=by refine⟨#[x,y].map λ| .const _=>true|_=>false,?_⟩;unfold ej;simp only[ax];rfl
 have am: #[x,y].map (bY g).eval= #[v,.slice (some ⟨b,off,none⟩) m c]:=by simp[aE,aF]
 rw[am]at I;have I:ej (bY g).eval o=(do pure (nz (<-ei #[228,228] o.type #[v,.slice (some ⟨b,off,none⟩) m c]))):=I;have az:(ej (bY g).eval o).run TP w1= .ok (.value v') w':=by rw[I,hS,f];rfl
 have ap:(ej (bY g).eval o).events TP w1 #[]=(ei #[228,228] o.type #[v,.slice (some ⟨b,off,none⟩) m c]).events TP w1 #[]:=by rw[I,ep,f];rfl
 have av:∀k,v'.ownBlock=some k->(p.e w1 w').a k/\(p.e w1 w').b k:=λ k l=>by have G:∀k,v'.ownBlock=some k->k<w'.heap.size:=λ k l=>(ac.lt k l).2;obtain⟨A,⟨rfl,rfl⟩| ⟨q,cap,t,rfl,N,B,O,Q,J,R⟩⟩:=M;by_cases T:m=0;have:=ab.2 ⟨rfl,T⟩;rw[this]at l;cases l;have r:=nV (P:=TP) w1 228 o.type 231 fI fZ om nw fI_z ⟨b,off,none⟩ m c i (by rw[lW];exact d) z (by omega) (by omega) (by rw[se];omega);rw[r]at f;cases f;cases l;exact⟨.inr ⟨eQ _,G _ rfl⟩,.inr ⟨eQ _,G _ rfl⟩⟩;by_cases V:n+m<=cap;have⟨w2,r,_⟩:=run_append_fits (P:=TP) w1 base 228 o.type 231 fI 27 om nw lW q n cap xs ⟨A,.inr ⟨q,cap,t,rfl,N,B,O,Q,J,R⟩⟩ ⟨b,off,none⟩ m c i d z E V;rw[r]at f;cases f;cases l;exact⟨.inl (D _ rfl).1,.inl (D _ rfl).2⟩;have U:∀j u,xs[j]?=some u->w1.cell? ((⟨q,0,none⟩:ht).add j)=some u:=ih (g:=q) (n:=n) ⟨A,.inr ⟨q,cap,t,rfl,N,B,O,Q,J,R⟩⟩ rfl;have r:=ny (P:=TP) w1 228 o.type 231 fI fZ om nw fI_z ⟨q,0,none⟩ n cap xs (by rw[lW];exact A) U ⟨b,off,none⟩ m c i (by rw[lW];exact d) z (by omega) (by omega) (nL (by omega) (by rw[se];exact L));rw[r]at f;cases f;cases l;exact⟨.inr ⟨eQ _,G _ rfl⟩,.inr ⟨eQ _,G _ rfl⟩⟩
 have aC:lh w' v' (n+m):=by have af:lh w1 v n:=aB.a λ k l=>K.e k (D k l).1;obtain⟨A,⟨rfl,rfl⟩| ⟨q,cap,t,rfl,N,B,O,Q,J,R⟩⟩:=M;by_cases T:m=0;rw[ab.2 ⟨rfl,T⟩];exact lh.b _;have r:=nV (P:=TP) w1 228 o.type 231 fI fZ om nw fI_z ⟨b,off,none⟩ m c i (by rw[lW];exact d) z (by omega) (by omega) (by rw[se];omega);rw[r]at f;cases f;rw[ng];exact LX (u:=w1.drew) (by omega) (by simp[d]);by_cases V:n+m<=cap;have r:=run_append_room (P:=TP) w1 228 o.type 231 fI om nw q n cap t B ⟨b,off,none⟩ m c i (by rw[lW];exact d) z E V (by rw[lW,d,J];omega);rw[r]at f;cases f;intro q' m' aH e;refine⟨by have:=(af q n cap rfl).1;omega,λ aI ty fr ae j aJ ag=>?_⟩;cases e;rw[setRow_heap w1 q t _ 231 _ B]at ae;cases ae;rw[lW]at ag⊢;simp[List.size_toArray,hP,lA,List.length_drop,kH,d]at ag;rw[List.getElem?_toArray,List.getElem?_append_right (by simp[d];omega),List.getElem?_drop];simp only[hP,lA,kH,d];rw[Array.getElem?_toList,show n*27+m*27+ (j- (min (n*27) t.size+m*27))=j from by omega];exact(af q n cap rfl).2 t 231 (0,0) B j (by omega) (by omega);have U:∀j u,xs[j]?=some u->w1.cell? ((⟨q,0,none⟩:ht).add j)=some u:=ih (g:=q) (n:=n) ⟨A,.inr ⟨q,cap,t,rfl,N,B,O,Q,J,R⟩⟩ rfl;have r:=ny (P:=TP) w1 228 o.type 231 fI fZ om nw fI_z ⟨q,0,none⟩ n cap xs (by rw[lW];exact A) U ⟨b,off,none⟩ m c i (by rw[lW];exact d) z (by omega) (by omega) (nL (by omega) (by rw[se];exact L));rw[r]at f;cases f;exact LX (u:=w1.drew) (by omega) (by simp[d,A];omega)
 refine⟨_,_,_,p.e w1 w',h.b az,⟨F.size,λ a H au=>F.block a H λ e=>au (D a e.symm).2,λ a H=>H,λ a H=>H,λ a=> .inl,λ a=> .inl,λ a E aj=> .inr (aj.resolve_left E),xp λ e S=>?_,F.os,F.output,F.tape⟩,aA w1 K v' w' ac aC F av⟩;rw[ap]at S;have hp:=aw e S;rcases aq e S with⟨ad,Y,s⟩| ⟨mk,rfl,s⟩;have⟨aL,aM,aG⟩:=e;simp at Y s;subst Y;have aD:aG=false:=hp ad rfl;subst aD;obtain⟨rfl,s⟩|s:=s;exact⟨.inl (s▸Z),λ h=>(by cases h),rfl⟩;exact⟨.inl (D _ s.symm).1,λ _=> .inl (D _ s.symm).2,rfl⟩;show mk= .noRoom\/_;exact .inl s
end
section
variable {v:cr} {xs:List cr}
theorem F4{ρ o x y u}(d:o.op= .call {callee:= .builtin .append,args:= #[x,y],argTypes:= #[228,228]})(e:ρ x=u)(f:ρ y=v):ej ρ o=(do pure (nz (<-ei #[228,228] o.type #[u,v]))):=by
 obtain⟨a,b⟩:∃a,ej ρ o=builtin .append #[228,228] o.type a (#[x,y].map ρ):=by refine⟨#[x,y].map λ| .const _=>true|_=>false,?_⟩;unfold ej;simp only[d];rfl
 have c: #[x,y].map ρ= #[u,v]:=by simp[e,f]
 rw[c]at b;exact b
theorem Wl{w}{ty base n:Nat}(h:w.ownsRow base 231 27 v n xs):(ei #[228,228] ty #[v,.slice none 0 0]).run TP w= .ok v w/\(ei #[228,228] ty #[v,.slice none 0 0]).events TP w #[]= #[]:=by obtain⟨c,⟨rfl,rfl⟩| ⟨q,cap,b,rfl,d,e,a,f,g,i⟩⟩:=h;constructor<;>simp[ei,mb om,fu,nH,nw,hG,gk];constructor<;>simp[ei,mb om,fu,nH,nw,hG,gk,a,hA]
section
variable{main:Bool}{g g':b2}{o:l8}{p p':ai}{w w':df}{Stop:ai->b2->df->Prop}
theorem UT{x y base n}(h:dh g o)(j:g.status= .running)(m:o.op= .call {callee:= .builtin .append,args:= #[x,y],argTypes:= #[228,228]})(z:(bY g).eval x=v)(A:(bY g).eval y=zR)(q:w.ownsRow base 231 27 v n xs)(u:∀k,v.ownBlock=some k->p.a k)(t:bG TP main p (aK g v) w Stop):bG TP main p g w Stop:=by
 refine qj j λ w1 d=>?_;have r:=IC (w':=w1) q λ k l=>d.e k (u k l);have c:=F4 m z A;have⟨a,f⟩:=Wl (ty:=o.type) r;have s:(ej (bY g).eval o).run TP w1= .ok (.value v) w1:=by rw[c,hS];erw[a];rfl
 have i:(ej (bY g).eval o).events TP w1 #[]= #[]:=by rw[c,ep];erw[a,f];rfl
 refine⟨_,_,_,p,h.b s,ey.q (xp λ e b=>?_) w1,t.b d⟩;rw[i]at b;simp at b
end
section
variable(A:Ar)(f:Nat->cr)
def E8:=zy (rz (bX J7))
def afU:=gY E8
def ah8:=rz (bX (bX E8))
def Zq:=bX ah8
def R5:List Item:= [.inLoop E8,.inBlock 2,.code lP]
def mF:= [f 0,f 1,f 2,f 3,f 4,f 5,f 6,f 7,f 8,f 9,f 10,f 11,f 12,f 13,f 14,f 15,f 16,f 17,f 18,f 19,f 20,f 21,f 22,f 23,f 24,f 25,f 26,f 27,f 28,f 29]
def MG(a:List Item):=GG 147 (mF f) a [] A.j
end
end
section
section
variable(A:Ar)(f:Nat->cr)(x v:cr)
def kT:=MG A f (.inRegion (ek afU) [0,1]:: .code (bX E8)::R5)
theorem Vl(w):ea TP true (kT A f) w= .comm (iM TP true (kT A f)) #[{chan:=f 20,send:=none,zero:=zR}] true (.recv true) w #[]:=by kernel_rfl
theorem aes:(iM TP true (kT A f)).frame=(kT A f).frame/\(iM TP true (kT A f)).callers=(kT A f).callers/\(iM TP true (kT A f)).dying=(kT A f).dying:= ⟨by kernel_rfl,by kernel_rfl,by kernel_rfl⟩
def MV:=eL (iM TP true (kT A f)) v
def fA:=sw (sw (sw (sw (sw (sw f 21 (pb x true)) 22 (.bool true)) 23 x) 11 x) 24 (f 10)) 25 x
def MA(l:List Nat):=MG A f (.inRegion (ek Zq) l:: .inBlock 3::R5)
theorem mV:Cq TP true 14 (MV A f (pb x true)) (MA A (fA f x) [2,3]):=λ w=>by kernel_rfl
def Nv:Op->ew| .call c=>c.args.getD 0 (.const dk)|_=> .const dk
def Mr:Op->ew| .call c=>c.args.getD 1 (.const dk)|_=> .const dk
theorem MX:dh (MA A f [2,3]) (bj (MA A f [2,3])):=ao (by kernel_rfl)
theorem Qe:(bj (MA A f [2,3])).op= .call {callee:= .builtin .append,args:= #[Nv (bj (MA A f [2,3])).op,Mr (bj (MA A f [2,3])).op],argTypes:= #[228,228]}:=by kernel_rfl
theorem Kx:(bY (MA A f [2,3])).eval (Nv (bj (MA A f [2,3])).op)=f 24:=by kernel_rfl
theorem Sw:(bY (MA A f [2,3])).eval (Mr (bj (MA A f [2,3])).op)=f 25:=by kernel_rfl
theorem PO:Cq TP true 6 (aK (MA A f [2,3]) v) (kT A (sw (sw f 26 v) 10 v)):=λ w=>by kernel_rfl
def ME:=MG A f [.code (gY lP),.code (bX lP)]
theorem mE:Cq TP true 6 (MV A f (pb x false)) (ME A (sw (sw f 21 (pb x false)) 22 (.bool false))):=λ w=>by kernel_rfl
def NJ:=λ i=>(SC A zR dk++ [cX A.c]++fb 9 dk).getD i dk
theorem ZV:qD TP true 8 (aK (oC A) dk)=true:=by kernel_rfl
theorem aee:dh (GL A) (bj (GL A)):=ao (by kernel_rfl)
theorem aho:(bj (GL A)).op= .load 254 (iU (bj (GL A)).op):=by kernel_rfl
theorem aiZ:(bY (GL A)).eval (iU (bj (GL A)).op)=aQ A.d:=by kernel_rfl
theorem gL:Cq TP true 5 (aK (GL A) (cX A.c)) (kT A (NJ A)):=λ w=>by kernel_rfl
end
structure qN(D:RD)(l:List cr)(v:cr)(p:ai)(w:df):Prop where
 d:∃n,w.ownsRow D.A.d 231 27 v n (l.flatMap D.b)/\lh w v n
 b:∀k,v.ownBlock=some k->p.a k/\p.b k
 c:D.gn p
 e:D.dU w
def vB(D:RD)(l:List cr)(p:ai)(g:b2)(w:df):=∃f,oD g (kT D.A f)/\f 20=cX D.A.c/\qN D l (f 10) p w
def Iz(D:RD)(l:List cr)(p:ai)(g:b2)(w:df):=∃f,g=ME D.A f/\qN D l (f 10) p w
structure uT(D:RD):Prop where
 a:D.iO
 b:(D.c.flatMap D.b).length*8<=140737488355328
 c:∀x∈D.c,∀u∈D.b x,u.oneCell'=true
variable{D:RD}{p p':ai}{w w':df}{g:b2}{l:List cr}
theorem qN.a{v}(h:qN D l v p w)(b:bO p w w'):qN D l v p w':= ⟨let⟨n,c,d⟩:=h.d; ⟨n,IC c λ k a=>b.e k (h.b k a).1,d.a λ k a=>b.e k (h.b k a).1⟩,h.b,h.c,h.e.b h.c b⟩
theorem aaB(K:uT D)(a:D.gn p)(b:D.dU w):bG TP true p (aK (oC D.A) dk) w (vB D []):=by refine zU (adY D.A) (afR D.A) (ZV D.A) (ab3 D.A) ?_;have⟨d,cs,ty,fr,e,f⟩:=K.a.j;refine rR (v:=cX D.A.c) (aee D.A) rfl (aho D.A) (aiZ D.A) (λ w=>(wj w).1) (λ w=>(wj w).2) (a _ d).1 ⟨cs,ty,fr,(b _ d).trans e,f⟩ ?_;refine jb (gL D.A) ?_;refine nQ rfl λ w1 h=> ⟨NJ D.A,.c rfl,rfl,⟨0,?_⟩,λ k g=>?_,a,b.b a h⟩;exact⟨World.ownsRow_nil _ _ _ _,lh.b _⟩;cases g
theorem acH(K:uT D){f x own ob}(VP:f 20=cX D.A.c)(O:qN D l (f 10) p w)(W:∃r,D.c.Perm (l++x::r))(R:bO p w w')(u:D.dU w')(A:D.sa x own ob w')(t:∀a,p'.a a↔p.a a\/ob=some a)(E:∀a,p'.b a↔p.b a\/ob=some a):bG TP true p' (MV D.A f (pb own true)) w' (vB D (l++ [x])):=by
 have h:=O.a R;have⟨n,o,C⟩:=h.d;have g:D.gn p':=λ a d=> ⟨(t a).2 (.inl (h.c a d).1),λ i=>((E a).1 i).elim (h.c a d).2 λ e=>by
  obtain⟨_,_,s⟩| ⟨b,_,_,_,_,_,_,_,s,_,_,_,G⟩:=A;rw[s]at e;cases e;rw[s]at e;cases e;exact G d⟩;have q:∀k,(f 10).ownBlock=some k->p'.a k/\p'.b k:=λ k j=> ⟨(t k).2 (.inl (h.b k j).1),(E k).2 (.inl (h.b k j).2)⟩;have⟨r,B⟩:=W;have X:x∈D.c:=B.symm.subset (by simp);refine jb (mV D.A f own) ?_;have z:(l++ [x]).flatMap D.b=l.flatMap D.b++D.b x:=by simp
 obtain⟨F,rfl,rfl⟩| ⟨b,off,m,c,cells,ty,fr,rfl,rfl,I,M,J,aa⟩:=A;refine UT (v:=f 10) (MX D.A _) rfl (Qe D.A _) (Kx D.A _) (Sw D.A _) o (λ k j=>(q k j).1) ?_;refine jb (PO D.A _ _) ?_;refine nQ rfl λ w1 i=> ⟨_,.c rfl,VP,?_⟩;have:qN D (l++ [x]) (f 10) p' w':= ⟨⟨n,by rw[z,F,List.append_nil];exact o,C⟩,q,g,u⟩;exact this.a i
 ·have Z:n+m<=(D.c.flatMap D.b).length/27:=by have Y:(l.flatMap D.b).length=n*27:=o.1;have H:(D.c.flatMap D.b).length=((l++x::r).flatMap D.b).length:=(B.flatMap_right D.b).length_eq;simp only[List.flatMap_append,List.flatMap_cons,hP]at H;omega
  have ab:=K.b;refine abV (v:=f 10) (b:=b) (base:=D.A.d) (MX D.A _) rfl (Qe D.A _) (Kx D.A _) (Sw D.A _) o q ((t b).2 (.inr rfl)) ⟨cells,ty,_,I,J⟩ M (K.c x X) (by omega) (Nat.le_of_lt (K.a.d u K.a.j.1)) C ?_;intro w1 U v' w2 P T L Q;have y:=u.b g U;refine jb (PO D.A _ _) ?_;refine nQ rfl λ w3 V=> ⟨_,.c rfl,VP,?_⟩;have N:D.gn (p'.e w1 w2):=λ a d=> ⟨.inl (g a d).1,λ i=>i.elim (g a d).2 λ e=>by have:=K.a.d y d;omega⟩;have S:D.dU w2:=λ a d=>(L.block a (K.a.d y d) λ e=>(g a d).2 (q a e.symm).2).trans (y a d);have:qN D (l++ [x]) v' (p'.e w1 w2) w2:= ⟨⟨n+m,by rw[z];exact P,T⟩,Q,N,S⟩;exact this.a V
theorem ac2{f}(a:qN D l (f 10) p w)(b:bO p w w'):bG TP true p (MV D.A f (pb zR false)) w' (Iz D l):=by refine jb (mE D.A f zR) ?_;exact nQ rfl λ w1 c=> ⟨_,rfl,(a.a b).a c⟩
end
section
variable(A:Ar)(T:Array cr)
set_option maxHeartbeats 4000000 in
theorem wE{y}(a:y=0\/y=4294967296\/y=4294967297\/y=8589934592\/y=8589934593):CE TP false 93 1 (aK (WA A T) (.int .u64 y)):=by rcases a with rfl|rfl|rfl|rfl|rfl<;>exact⟨λ w=>by kernel_rfl,λ w=>by kernel_rfl,by kernel_rfl⟩
def pd:=dR TP false 103 (aK (WA A T) (.int .u64 1))
theorem YN:Ch TP false 103 1 1 (aK (WA A T) (.int .u64 1)):=λ w=>by kernel_rfl
theorem afO:cP (pd A T) 220 #[aQ A.a]:=ac (by kernel_rfl)
def pF:=dR TP false 20 (aK (pd A T) (.int .u64 1))
theorem ZH:Ch TP false 20 1 1 (aK (pd A T) (.int .u64 1)):=λ w=>by kernel_rfl
theorem ac4:cP (pF A T) 221 #[aQ A.a,.int .u64 0]:=ac (by kernel_rfl)
def pG:=dR TP false 27 (aK (pF A T) dk)
theorem VI:Ch TP false 27 1 1 (aK (pF A T) dk):=λ w=>by kernel_rfl
end
section
variable(A:Ar)(T:Array cr)
def fWL:=λ i=>([aQ A.a,aQ A.e,aQ A.f,aQ A.i,aQ A.d,dk,dk,dk,dk,cX A.b]++fb 19 dk).getD i dk
theorem Xb:qD TP false 7 (oK A)=true:=by kernel_rfl
theorem VY:dh (WL A) (bj (WL A)):=ao (by kernel_rfl)
theorem afN:(bj (WL A)).op= .load 253 (iU (bj (WL A)).op):=by kernel_rfl
theorem Xn:(bY (WL A)).eval (iU (bj (WL A)).op)=aQ A.e:=by kernel_rfl
theorem wN:Cq TP false 5 (aK (WL A) (cX A.b)) (WH A (fWL A) []):=λ w=>by kernel_rfl
theorem Un:cP (pG A T) 199 #[.pointer (some ⟨A.a,1,none⟩),.bool false,.int .i64 0]:=ac (by kernel_rfl)
theorem aa7:hJ TP (pG A T)=true:=by kernel_rfl
theorem wZ:CE TP false 23 1 (aK (pG A T) dk):= ⟨λ w=>by kernel_rfl,λ w=>by kernel_rfl,by kernel_rfl⟩
end
section
variable {d:Nat} {g:b2} {A:Ar} {P:ef} {J:df->Prop} {S S':Nat->b2->Prop}
theorem kE.b{main:Bool}(k:∀d g,S d g->S' d g):∀{n d:Nat}{g:b2},kE P main J S n d g->kE P main J S' n d g
 |0,_,_,h=>k _ _ h
 |n+1,_,_,h=>h.imp (k _ _) λ⟨a,g',es,b,c,e,f⟩=> ⟨a,g',es,b,c,e,kE.b k f⟩
theorem bM.b{main:Bool}(h:bM P main J d g S)(k:∀d g,S d g->S' d g):bM P main J d g S':= ⟨h.1,let⟨n,x⟩:=h.2; ⟨n,x.b k⟩⟩
def qy(A:Ar)(j d:Nat)(g:b2):Prop:=d=1/\∃a b c e,(j=0/\g=gA A 0 a b c e)\/(j=1/\g=gA A 1 a b c e)\/(j=2/\g=gA A 2 a b c e)
def qB(A:Ar)(j d:Nat)(g:b2):Prop:=d=0/\∃e,(j=0/\g=GO A 0 e)\/(j=1/\g=GO A 1 e)\/(j=2/\g=GO A 2 e)
def sG(D:RD)(p:ai)(g:b2)(w:df):Prop:=∃f a,oD g (WH D.A f a)/\RD.gZ a p w/\D.gn p/\D.dU w
theorem Vi(h:ta A 0 d g):qy A 0 d g:=by
 obtain⟨f,a,b,c,e,i⟩:=h;exact⟨f,a,b,c,e,.inl ⟨rfl,i⟩⟩
theorem adt(h:ta A 1 d g):qy A 1 d g:=by
 obtain⟨f,a,b,c,e,i⟩:=h;exact⟨f,a,b,c,e,by grind⟩
theorem aem(h:ta A 2 d g):qy A 2 d g:=by
 obtain⟨f,a,b,c,e,i⟩:=h;exact⟨f,a,b,c,e,by grind⟩
theorem UL(h:rB A 0 d g):qB A 0 d g:=by
 obtain⟨a,e,b⟩:=h;exact⟨a,e,.inl ⟨rfl,b⟩⟩
theorem agt(h:rB A 1 d g):qB A 1 d g:=by
 obtain⟨a,e,b⟩:=h;exact⟨a,e,by grind⟩
theorem acQ(h:rB A 2 d g):qB A 2 d g:=by
 obtain⟨a,e,b⟩:=h;exact⟨a,e,by grind⟩
theorem SV:bR 0 0=0:=by decide
theorem Tr:bR 1 0=4294967296:=by decide
theorem Q5:bR 2 0=8589934592:=by decide
theorem w30:bR 3 0=12884901888:=by decide
def vn(A:Ar)(j:Nat)(g:b2):Prop:=g.status= .running/\∃g',(∀w,ba A.a w (bR j 0) 0->ea TP true g w= .go g' (w.setCell (bg A.a) (.int .u64 (bR (j+1) 0))) (gK (bg A.a)))/\
 bM TP true (JW A.a) 1 g' (if j=0 then rT A else qB A j)
theorem adD(A:Ar)(a b c e:cr):vn A 0 (gA A 0 a b c e):=by
 obtain⟨f,g,h⟩:=ZG A a b c e;unfold vn;refine⟨f,jW A 0 4294967296 a b c e,λ w d=>?_,?_⟩
 ·rw[SV]at d;rw[show 0+1=1 from rfl,Tr];exact g w d
 ·rw[if_pos rfl];exact h
theorem aiD(A:Ar)(a b c e:cr):vn A 1 (gA A 1 a b c e):=by
 obtain⟨h,i,j⟩:=YW A a b c e;unfold vn;refine⟨h,jW A 1 8589934592 a b c e,λ w f=>?_,?_⟩
 ·rw[Tr]at f;rw[show 1+1=2 from rfl,Q5];exact i w f
 ·rw[if_neg (by omega)];exact j.b λ d g=>agt
theorem adj(A:Ar)(a b c e:cr):vn A 2 (gA A 2 a b c e):=by
 obtain⟨h,i,j⟩:=Zm A a b c e;unfold vn;refine⟨h,jW A 2 12884901888 a b c e,λ w f=>?_,?_⟩
 ·rw[Q5]at f;rw[show 2+1=3 from rfl,w30];exact i w f
 ·rw[if_neg (by omega)];exact j.b λ d g=>acQ
theorem VD(A:Ar):∀j d g,qy A j d g->d=1/\g.status= .running/\∃g',(∀w,ba A.a w (bR j 0) 0->ea TP true g w= .go g' (w.setCell (bg A.a) (.int .u64 (bR (j+1) 0))) (gK (bg A.a)))/\
 bM TP true (JW A.a) 1 g' (if j=0 then rT A else qB A j):=by
 intro j d g h;have key:vn A j g->d=1->d=1/\g.status= .running/\∃g',(∀w,ba A.a w (bR j 0) 0->ea TP true g w= .go g' (w.setCell (bg A.a) (.int .u64 (bR (j+1) 0))) (gK (bg A.a)))/\
  bM TP true (JW A.a) 1 g' (if j=0 then rT A else qB A j):=λ k l=> ⟨l,k⟩
 obtain⟨k,a,b,c,e,l⟩:=h;refine key ?_ k;rcases l with⟨f,i⟩| ⟨f,i⟩| ⟨f,i⟩
 ·rw[f,i];exact adD A a b c e
 ·rw[f,i];exact aiD A a b c e
 ·rw[f,i];exact adj A a b c e
theorem aeK(A:Ar):∀d g,rT A d g->d=1/\g.status= .running/\∃g',(∀w,ea TP true g w= .go g' w (fp (.read (dL A.a))))/\bM TP true (JW A.a) 1 g' (qB A 0):=λ d g h=>by
 obtain⟨a,b,g',c,e⟩:=XP A d g h;exact⟨a,b,g',c,e.b λ d g=>UL⟩
section
variable{D:RD}{a:Option ht}{n c:Nat}{p:ai}{w:df}
theorem Je(K:D.iO)(a:D.gn p)(b:D.dU w):bG TP false p (oK D.A) w (sG D):=by
 refine zU (aeU D.A) (Sn D.A) (Xb D.A) rfl ?_;show bG TP false p (WL D.A) w (sG D);obtain⟨d,cs,ty,fr,e,f⟩:=K.l;refine rR (v:=cX D.A.b) (VY D.A) (qI (k:=0) (xu (Sn D.A))) (afN D.A) (Xn D.A) (λ w=>(vS w).1) (λ w=>(vS w).2) (a _ d).1 ⟨cs,ty,fr,(b _ d).trans e,f⟩ ?_;refine jb (wN D.A) ?_;exact nQ rfl λ w1 h=> ⟨_,[],.c rfl,⟨.nil,λ r g=>nomatch g⟩,a,b.b a h⟩
def uA(D:RD)(j:Nat)(g:b2):Prop:=g.status= .running/\∃g' child,(∀w,ea TP true g w= .spawn g' child w #[])/\bM TP true (JW D.A.a) 0 g' (if j<2 then qy D.A (j+1)else vD D.A)/\
 ∀p w,D.gn p->D.dU w->bG TP false p child w (sG D)
theorem WO(K:D.iO)(e:cr):uA D 0 (GO D.A 0 e):=by
 unfold uA;refine⟨rfl,aK (GO D.A 0 e) dk,oK D.A,λ w=>Ir D.A 0 e w,?_,λ p w a b=>Je K a b⟩;rw[if_pos (by omega)];exact(ajh D.A e).b λ d g=>adt
theorem aiv(K:D.iO)(e:cr):uA D 1 (GO D.A 1 e):=by
 unfold uA;refine⟨rfl,aK (GO D.A 1 e) dk,oK D.A,λ w=>Ir D.A 1 e w,?_,λ p w a b=>Je K a b⟩;rw[if_pos (by omega)];exact(VA D.A e).b λ d g=>aem
theorem abi(K:D.iO)(e:cr):uA D 2 (GO D.A 2 e):=by
 unfold uA;refine⟨rfl,aK (GO D.A 2 e) dk,oK D.A,λ w=>Ir D.A 2 e w,?_,λ p w a b=>Je K a b⟩;rw[if_neg (by omega)];exact UU D.A e
theorem aeR(K:D.iO):∀j d g,qB D.A j d g->d=0/\g.status= .running/\∃g' child,(∀w,ea TP true g w= .spawn g' child w #[])/\bM TP true (JW D.A.a) 0 g' (if j<2 then qy D.A (j+1)else vD D.A)/\
 ∀p w,D.gn p->D.dU w->bG TP false p child w (sG D):=by
 intro j d g h;obtain⟨f,e,c⟩:=h;have key:uA D j g->d=0/\g.status= .running/\∃g' child,(∀w,ea TP true g w= .spawn g' child w #[])/\bM TP true (JW D.A.a) 0 g' (if j<2 then qy D.A (j+1)else vD D.A)/\
  ∀p w,D.gn p->D.dU w->bG TP false p child w (sG D):=λ c=> ⟨f,c⟩
 refine key ?_;rcases c with⟨a,b⟩| ⟨a,b⟩| ⟨a,b⟩
 ·rw[a,b];exact WO K e
 ·rw[a,b];exact aiv K e
 ·rw[a,b];exact abi K e
end
end
section
variable(A:Ar)
def Bl(d:Nat)(g:b2):Prop:=d=0/\∃T,g=WR A T
def FA(d:Nat)(g:b2):Prop:=d=1/\∃T,g=WA A T
def AA(d:Nat)(g:b2):Prop:=d=1/\∃T,g=pd A T
def Bv(d:Nat)(g:b2):Prop:=d=1/\∃T,g=pF A T
def Br(d:Nat)(g:b2):Prop:=d=1/\∃T,g=pG A T
theorem afz(T:Array cr):(WA A T).status= .running:=by kernel_rfl
theorem aec(T:Array cr):(pd A T).status= .running:=by kernel_rfl
theorem abe(T:Array cr):(pF A T).status= .running:=by kernel_rfl
theorem aco(T:Array cr):(pG A T).status= .running:=by kernel_rfl
def Dj(p:ai)(g:b2)(w:df):Prop:=∃T,g=WY A T
theorem aim(T:Array cr):bM TP false (JW A.a) 0 (By A T) (Bl A):=
 fP.a (wY A T) (zn (g:=WC A T) (qI (k:=0) (xu (Zi A T))) (λ w⟨st,a,h⟩=>Wj A T w st a h) ⟨rfl,0,⟨rfl,_,rfl⟩⟩)
theorem Wn:∀p g w,Dj A p g w->g.status= .running/\∃g',(∀w',ea TP false g w'= .go g' w')/\bM TP false (JW A.a) 0 g' (Bl A):=by
 rintro p g w⟨T,rfl⟩;exact⟨rfl,By A T,VH A T,aim A T⟩
theorem WB(r:Nat)(a:List Nat)(T:Array cr)(w:df)(h:w.heap[r]?=some (.deferred (some []))):
 ∃es,ea TP false (ri A (r::a) T) w= .go (ri A a T) {w with heap:=w.heap.setIfInBounds r (.deferred none)} es/\∀p:ai,p.a r->p.b r->∀e∈es,iF p e:=by
 have f:ea TP false (ri A (r::a) T) w=GStep.after (seen TP 162 ((gl r).runT TP w #[]).2) (match((gl r).runT TP w #[]).1 with
  | .ok d w=> .go {(ri A a T)with frame:={(ri A a T).frame with defers:=d++ (a.map pZ++uU A)}} w
  | .halt _ w=> .ended (.stuck "the deferred calls of a range-over-func loop have been taken" ((ri A (r::a) T).frame.pos TP)) w):=by kernel_rfl
 have i:(gl r).runT TP w #[]=(.ok [] {w with heap:=w.heap.setIfInBounds r (.deferred none)},#[⟨.obj r,false,false⟩,⟨.obj r,true,false⟩]):=by
  unfold gl;change(Sem.getObj r _).runT TP w #[]=_;simp only[Sem.runT,h];change(Sem.setObj r _ _).runT TP w _=_;simp only[Sem.runT,h];rfl
 rw[f,i];refine⟨seen TP 162 #[⟨.obj r,false,false⟩,⟨.obj r,true,false⟩],rfl,λ p c g=>?_⟩
 haveI:aW:= ⟨0,λ _=>true,λ _ _=>False,λ _ _ _ h=>h.elim⟩
 refine qv (p:=iF p) λ e b=>?_;simp at b;rcases b with rfl|rfl
 ·show p.a r/\(false=true->p.b r)/\false=false;exact⟨c,λ h=>(by cases h),rfl⟩
 ·show p.a r/\(true=true->p.b r)/\false=false;exact⟨c,λ _=>g,rfl⟩
theorem O8{p}:∀c T w,RD.gZ c p w->bG TP false p (ri A c T) w (Dj A)| [],T,w,_=>nQ rfl λ w1 _=> ⟨T,rfl⟩|r::c,T,w,h=>qj rfl λ w1 n=>by have b:=h.c n;have⟨k1,g,t⟩:=b.b r (by simp);have⟨es,i,j⟩:=WB A r c T w1 t;have d:∀a,a≠r->(w1.heap.setIfInBounds r (.deferred none))[a]?=w1.heap[a]?:=λ a l=>et (Ne.symm l);refine⟨_,_,es,p,i,⟨by simp,λ a _ m=>d a λ e=>m (e▸g),λ _ h=> .inl h,λ _ h=> .inl h,λ _ h=>h,λ _ h=>h,λ a b k=>absurd k b,j p k1 g,rfl,rfl,rfl⟩,O8 c T _ ⟨(hz.1 b.d).2,λ x f=>?_⟩⟩;have⟨o,q,s⟩:=b.b x (List.mem_cons_of_mem _ f);exact⟨o,q,(d x λ e=>(hz.1 b.d).1 (e▸f)).trans s⟩
theorem afm:∀d g,Bl A d g->d=0/\g.status= .running/\∃g',(∀w,ea TP false g w= .go g' w (fp (.releaseMerge (bg A.a))))/\bM TP false (JW A.a) 0 g' (FA A):=by
 rintro d g⟨rfl,T,rfl⟩;exact⟨rfl,rfl,_,λ w=>cP.b .releaseMerge (by simp) (ahN A T) Yr rfl,Ch.b (wA A T) rfl ⟨rfl,T,rfl⟩⟩
theorem abZ(T:Array cr)(x y:Int)(a:IntKind.u64.wrap (x+18446744069414584320)=y)(w:df)(b:Int)(h:ba A.a w x b):
 ea TP false (WA A T) w= .go (aK (WA A T) (.int .u64 y)) (w.setCell (bg A.a) (.int .u64 y)) (gK (bg A.a)):=by
 have:=cP.p (P:=TP) (main:=false) (w:=w) (ad:=bg A.a) (x:=x) (aiJ A T) MD (ox h) (AG h);rw[a]at this;exact this
def H0(T:Array cr)(c b:Nat):Prop:=∃g',(∀w a,ba A.a w (bR c b) a->ea TP false (WA A T) w= .go g' (w.setCell (bg A.a) (.int .u64 (bR (c- 1) b))) (gK (bg A.a)))/\
 bM TP false (if c=1/\b=1 then JW A.a else JT) 1 g' (if c=1/\b=1 then AA A else gM)
theorem vF{T:Array cr}{c b:Nat}{x y:Int}(d:IntKind.u64.wrap (x+18446744069414584320)=y)(e1:bR c b=x)(e2:bR (c- 1) b=y)(a:bM TP false (if c=1/\b=1 then JW A.a else JT) 1 (aK (WA A T) (.int .u64 y)) (if c=1/\b=1 then AA A else gM)):H0 A T c b:=by
 unfold H0;refine⟨aK (WA A T) (.int .u64 y),λ w e h=>?_,a⟩;rw[e1]at h;rw[e2];exact abZ A T x y d w e h
theorem Ul(T):∀c b,0<c->c<=3->b<=1->H0 A T c b:=by
 intro c b h0 f e;have d:b=0\/b=1:=by omega
 have a:c=1\/c=2\/c=3:=by omega
 rcases a with a|a|a<;>rcases d with d|d<;>rw[a,d];exact vF A (x:=4294967296) (y:=0) rfl rfl rfl (by rw[if_neg (by omega),if_neg (by omega)];exact(wE A T (by simp)).a);exact vF A (x:=4294967297) (y:=1) rfl rfl rfl (by rw[if_pos ⟨rfl,rfl⟩,if_pos ⟨rfl,rfl⟩];exact Ch.b (g':=pd A T) (YN A T) rfl ⟨rfl,T,rfl⟩);exact vF A (x:=8589934592) (y:=4294967296) rfl rfl rfl (by rw[if_neg (by omega),if_neg (by omega)];exact(wE A T (by simp)).a);exact vF A (x:=8589934593) (y:=4294967297) rfl rfl rfl (by rw[if_neg (by omega),if_neg (by omega)];exact(wE A T (by simp)).a);exact vF A (x:=12884901888) (y:=8589934592) rfl rfl rfl (by rw[if_neg (by omega),if_neg (by omega)];exact(wE A T (by simp)).a);exact vF A (x:=12884901889) (y:=8589934593) rfl rfl rfl (by rw[if_neg (by omega),if_neg (by omega)];exact(wE A T (by simp)).a)
theorem Vj:∀d g,FA A d g->d=1/\g.status= .running/\∀c b,0<c->c<=3->b<=1->∃g',(∀w f,ba A.a w (bR c b) f->ea TP false g w= .go g' (w.setCell (bg A.a) (.int .u64 (bR (c- 1) b))) (gK (bg A.a)))/\
 bM TP false (if c=1/\b=1 then JW A.a else JT) 1 g' (if c=1/\b=1 then AA A else gM):=by
 intro d g h;obtain⟨a,T,e⟩:=h;rw[e];exact⟨a,afz A T,Ul A T⟩
theorem ZI:bR 0 1=1:=by decide
theorem VW(T:Array cr)(w:df)(a:Int)(h:ba A.a w (bR 0 1) a):ea TP false (pd A T) w= .go (aK (pd A T) (.int .u64 1)) w (jK (bg A.a)):=by
 rw[ZI]at h;exact cP.c (ad:=bg A.a) (afO A T) Gb (ox h)
theorem adI(T:Array cr):bM TP false (JW A.a) 1 (aK (pd A T) (.int .u64 1)) (Bv A):=Ch.b (g':=pF A T) (ZH A T) rfl ⟨rfl,T,rfl⟩
theorem agx:∀d g,AA A d g->d=1/\g.status= .running/\∃g',(∀w c,ba A.a w (bR 0 1) c->ea TP false g w= .go g' w (jK (bg A.a)))/\bM TP false (JW A.a) 1 g' (Bv A):=by
 intro d g h;obtain⟨a,T,b⟩:=h;rw[b];exact⟨a,aec A T,aK (pd A T) (.int .u64 1),VW A T,adI A T⟩
theorem abH(T:Array cr)(w:df)(a:Int)(h:ba A.a w (bR 0 1) a):ea TP false (pF A T) w= .go (aK (pF A T) dk) (w.setCell (bg A.a) (.int .u64 0)) (qP (bg A.a)):=
 cP.m (ad:=bg A.a) (ac4 A T) ahh (ox h) (AG h)
theorem ag0(T:Array cr):bM TP false (JW A.a) 1 (aK (pF A T) dk) (Br A):=Ch.b (g':=pG A T) (VI A T) rfl ⟨rfl,T,rfl⟩
theorem ael:∀d g,Bv A d g->d=1/\g.status= .running/\∃g',(∀w c,ba A.a w (bR 0 1) c->ea TP false g w= .go g' (w.setCell (bg A.a) (.int .u64 0)) (qP (bg A.a)))/\bM TP false (JW A.a) 1 g' (Br A):=by
 intro d g h;obtain⟨a,T,b⟩:=h;rw[b];exact⟨a,abe A T,aK (pF A T) dk,abH A T,ag0 A T⟩
theorem UB(T:Array cr)(w:df)(h:ba A.a w 0 0):ea TP false (pG A T) w= .go (aK (pG A T) dk) (w.setCell (dL A.a) (.int .u32 1)) (lu (dL A.a)):=
 cP.h (ad:=dL A.a) (Un A T) agW rfl (Ap h) (Md h)
theorem abo(T:Array cr):bM TP false JT 1 (aK (pG A T) dk) gM:=(wZ A T).a
theorem abQ:∀d g,Br A d g->d=1/\g.status= .running/\hJ TP g=true/\∃g',(∀w,ba A.a w 0 0->ea TP false g w= .go g' (w.setCell (dL A.a) (.int .u32 1)) (lu (dL A.a)))/\bM TP false JT 1 g' gM:=by
 intro d g h;obtain⟨a,T,b⟩:=h;rw[b];exact⟨a,aco A T,aa7 A T,aK (pG A T) dk,UB A T,abo A T⟩
end
section
variable(A:Ar)
variable {y:Int} {c:Nat}
def wC(d:Nat)(g:b2):Prop:=d=1/\∃f h,g=oU A f h
def Dz(c d:Nat)(g:b2):Prop:=d=1/\∃f h y,YY c y/\g=oA A f h y
def GQ(d:Nat)(g:b2):Prop:=d=1/\∃f h c y,YY c y/\g=vC A f h y
def Jb(d:Nat)(g:b2):Prop:=d=1/\∃f h c y,YY c y/\g=s9 A f h y
def BM(d:Nat)(g:b2):Prop:=d=1/\∃f h c y,YY c y/\g=tB A f h y
def Ax(d:Nat)(g:b2):Prop:=d=0/\((∃f h,g=zM A f h)\/∃f h c y,YY c y/\g=Eh A f h y)
def ED(p:ai)(g:b2)(w:df):Prop:=∃f,oD g (F7 A f [1])/\f 17=cX A.c
theorem RP(h:YY c y):bR c 0=y/\bR c 1=y+1:=by
 rcases h with⟨rfl,rfl⟩| ⟨rfl,rfl⟩| ⟨rfl,rfl⟩<;>decide
theorem Sg(f h:Nat->cr):bM TP false (JW A.a) 1 (uX A f h) (wC A):=Ch.b (fLd A f h) rfl ⟨rfl,f,h,rfl⟩
theorem ahR(f h:Nat->cr):(oU A f h).status= .running:=by kernel_rfl
theorem afF(f h:Nat->cr):(DC A f h).status= .running:=by kernel_rfl
def JQ(f h:Nat->cr)(c:Nat):Prop:=∃g',(∀w a,ba A.a w (bR c 0) a->ea TP false (oU A f h) w= .go g' w (jK (bg A.a)))/\bM TP false (JW A.a) 1 g' (if c=0 then Ax A else Dz A c)
theorem Ol(f h:Nat->cr)(c:Nat)(y:Int)(e:bR c 0=y)(w:df)(b:Int)(a:ba A.a w (bR c 0) b):ea TP false (oU A f h) w= .go (aK (oU A f h) (.int .u64 y)) w (jK (bg A.a)):=by
 rw[e]at a;exact cP.c (ad:=bg A.a) (adr A f h) Gb (ox a)
theorem adZ(f h:Nat->cr):JQ A f h 0:=by
 refine⟨aK (oU A f h) (.int .u64 0),Ol A f h 0 0 SV,?_⟩;exact Ch.a (g':=DC A f h) (fQ A f h) rfl (zn (afF A f h) (λ w⟨st,b,a⟩=>Vt A f h w st b a) ⟨rfl,0,⟨rfl,.inl ⟨f,h,rfl⟩⟩⟩)
theorem yy1:YY 1 4294967296:= .inl ⟨rfl,rfl⟩
theorem yy2:YY 2 8589934592:= .inr (by omega)
theorem yy3:YY 3 12884901888:= .inr (by omega)
theorem YI(f h:Nat->cr)(a:YY c y):JQ A f h c:=by
 refine⟨_,Ol A f h c y (RP a).1,?_⟩;rw[if_neg (by rcases a with⟨e,_⟩| ⟨e,_⟩| ⟨e,_⟩<;>omega)];exact Ch.b (g':=oA A f h y) (mi A f h a).z rfl ⟨rfl,f,h,y,a,rfl⟩
theorem ahC(f h:Nat->cr):∀c,c<=3->JQ A f h c:=by
 intro c a;have:c=0\/c=1\/c=2\/c=3:=by omega
 grind[adZ,YI,yy1,yy2,yy3]
theorem ac9:∀d g,wC A d g->d=1/\g.status= .running/\∀c,c<=3->∃g',(∀w e,ba A.a w (bR c 0) e->ea TP false g w= .go g' w (jK (bg A.a)))/\bM TP false (JW A.a) 1 g' (if c=0 then Ax A else Dz A c):=by intro d g h0;have⟨a,f,h,b⟩:=h0;rw[b];exact⟨a,ahR A f h,ahC A f h⟩
theorem aiS(l:List cr)(a:l.length=84)(h0:l[0]?=some (aQ A.a)):l=yz A (λ i=>l.getD i dk):=by
 apply List.ext_getElem
 all_goals grind[yz,gw,Option.some.injEq]
theorem Zw(f:Nat->cr)(g:b2)(c:g.frame={fn:=165,tmps:=g.frame.tmps,todo:= [.code ve,.inLoop ve,.inBlock 0],defers:= [],mode:= .run,kind:= .normal})(d:g.frame.tmps.size=84)(h0:g.frame.tmps[0]?=some (aQ A.a))
 (b:g={frame:=g.frame,callers:= [Db A f,Ao A],status:= .running,dying:=none}):∃h,g=uX A f h:=by
 refine⟨λ i=>g.frame.tmps.toList.getD i dk,?_⟩;have e:=aiS A g.frame.tmps.toList (by omega) (by grind);have a:g.frame.tmps= ⟨yz A (λ i=>g.frame.tmps.toList.getD i dk)⟩:=Array.ext' e
 grind[uX,yz,dk,ve,Db,Ao]
theorem ahI(f h:Nat->cr)(H:SQ A f h y):bM TP false (JW A.a) 1 (aK (oA A f h y) (.bool false)) (wC A):=by
 obtain⟨a,e⟩:=Zw A f (uk A f h y) H.u H.t H.b H.l;exact H.x.a e (Sg A f a)
def acI(c:Nat)(g:b2):Prop:=g.status= .running/\0<c/\c<=3/\(∃g',(∀w a,ba A.a w (bR c 0) a->ea TP false g w= .go g' (w.setCell (bg A.a) (.int .u64 (bR c 1))) (gK (bg A.a)))/\bM TP false (JW A.a) 1 g' (GQ A))/\
 ∃g',(∀w c' a,c'<c->ba A.a w (bR c' 0) a->ea TP false g w= .go g' w (jK (bg A.a)))/\bM TP false (JW A.a) 1 g' (wC A)
theorem Xi:∀c d g,Dz A c d g->d=1/\acI A c g:=by
 intro c d g h0;have⟨m,f,h,y,b,n⟩:=h0;have H:=mi A f h b;have⟨k,l⟩:=RP b;have j:0<c/\c<=3:=by rcases b with⟨e,_⟩| ⟨e,_⟩| ⟨e,_⟩<;>rw[e]<;>omega
 rw[n];refine⟨m,H.k,j.1,j.2,⟨aK (oA A f h y) (.bool true),λ w i a=>?_,H.C.a (g':=CH A f h y) rfl (zn H.g (λ w⟨st,i,a⟩=>H.p w st i a) ⟨H.n,0,rfl,f,h,c,y,b,rfl⟩)⟩,aK (oA A f h y) (.bool false),λ w c' i o a=>?_,ahI A f h H⟩;rw[k]at a;rw[l];exact cP.l (ad:=bg A.a) H.a OT (ox a) (AG a);refine cP.d (ad:=bg A.a) H.a OT (ox a) (AG a) ?_;grind[bR]
end
section
variable(A:Ar)
variable {y:Int}
def ae1(g:b2):Prop:=g.status= .running/\∃g',(∀w,ea TP false g w= .go g' w (fp (.write (dL A.a))))/\bM TP false (JW A.a) 1 g' (Jb A)
def Ga(g:b2):Prop:=g.status= .running/\g.offers=none/\(∀w st,ba A.a w st 0->ea TP false g w= .go {g with status:= .blocked} w #[])/\
 ∃g',(∀w st,ba A.a w st 1->ea TP false g w= .go g' (w.setCell (dL A.a) (.int .u32 0)) (lu (dL A.a)))/\bM TP false (JW A.a) 1 g' (BM A)
def Ot(g:b2):Prop:=g.status= .running/\∃g',(∀w a,ba A.a w 0 a->ea TP false g w= .go g' w (jK (bg A.a)))/\bM TP false (JW A.a) 1 g' (Ax A)
theorem Xy(g:b2)(b:cP g 204 #[.pointer (some ⟨A.a,1,none⟩),.bool false])(h1:g.status= .running)(h2:g.offers=none)(c:bM TP false (JW A.a) 1 (aK g dk) (BM A)):Ga A g:=
 ⟨h1,h2,λ w st a=>cP.j b h1 h2 Qx rfl (Ap a),_,λ w st a=>cP.i (n:=1) b Qx rfl (Ap a) (by decide) (Md a),c⟩
theorem acb:∀d g,GQ A d g->d=1/\ae1 A g:=by
 rintro d g⟨b,f,h,c,y,a,rfl⟩;have H:=mi A f h a;exact⟨b,rfl,_,λ w=>cP.b _ (by simp) H.j ZU rfl,H.D.b (g':=s9 A f h y) rfl ⟨rfl,f,h,c,y,a,rfl⟩⟩
theorem WN(f h:Nat->cr){c:Nat}(a:YY c y):Ga A (s9 A f h y):=
 Xy A _ (mi A f h a).i (mi A f h a).q (mi A f h a).r (Ch.b (g':=tB A f h y) (mi A f h a).E rfl ⟨rfl,f,h,c,y,a,rfl⟩)
theorem abC(f h:Nat->cr){c:Nat}(a:YY c y):Ot A (tB A f h y):=
 ⟨(
  mi A f h a).d,_,λ w d b=>cP.c (ad:=bg _) (mi A f h a).c Gb (ox b),
  Ch.a (g':=Er A f h y) (mi A f h a).B rfl (zn (mi A f h a).e (λ w⟨_,d,b⟩=>(mi A f h a).s w _ _ b) ⟨rfl,0,⟨rfl,by grind⟩⟩)⟩
theorem Wp:∀d g,Jb A d g->d=1/\Ga A g:=by intro d g h0;have⟨a,f,h,c,y,e,b⟩:=h0;grind[WN]
theorem Uz:∀d g,BM A d g->d=1/\Ot A g:=by intro d g h0;have⟨a,f,h,c,y,e,b⟩:=h0;grind[abC]
end
section
variable{D:RD}{a:Option ht}{n c:Nat}{p:ai}{w:df}
theorem Lu(K:D.iO)(f:Nat->cr)(e:D.gn p)(g:D.dU w):bG TP false p (F7 D.A f [0,1]) w (ED D.A):=by
 obtain⟨a,cs,ty,fr,b,d⟩:=K.j;refine rR (v:=cX D.A.c) (agm D.A f) rfl (ah3 D.A f) (Wd D.A f) (λ w=>(wj w).1) (λ w=>(wj w).2) (e _ a).1 ⟨cs,ty,fr,(g _ a).trans b,d⟩ ?_;rw[U9];exact nQ rfl λ w1 _=> ⟨_,.c rfl,rfl⟩
def TM(D:RD)(g:b2):Prop:=g.status= .running/\∃g',(∀w,ea TP false g w= .go g' w (fp (.acquire (bg D.A.a))))/\∀p w,D.gn p->D.dU w->bG TP false p g' w (ED D.A)
theorem afo(K:D.iO)(f h:Nat->cr):TM D (zM D.A f h):=
 ⟨rfl,_,λ w=>cP.b _ (by simp) (agK _ f h) SR rfl,λ p w a b=>jb (XX _ f h) (Lu K _ a b)⟩
theorem WK(K:D.iO):∀d g,Ax D.A d g->d=0/\TM D g:=by
 rintro d g⟨a,⟨f,h,rfl⟩| ⟨f,h,c,y,i,rfl⟩⟩
 ·grind[afo]
 ·have H:=mi D.A f h i;exact⟨a,rfl,_,λ w=>cP.b _ (by simp) H.m SR rfl,λ p w b e=>jb H.o (Lu K _ b e)⟩
theorem Ml{P:ef}{g g0:b2}(h:oD g g0):hJ P g=hJ P g0:=by
 unfold hJ;rw[h.d]
theorem aeF:∀p g w,ED D.A p g w->g.status= .running/\hJ TP g=true/\∃g',(∀w s r,w.heap[D.A.c]?=some (.chan 0 #[] false s r false)->ea TP false g w= .go g' (w.setChan D.A.c 0 #[] true s r false) (iS D.A.c))/\bM TP false JT 0 g' gM:=by intro p g w h0;have⟨f,a,b⟩:=h0;refine⟨a.h,(Ml a).trans (aaq D.A f),aK (F7 D.A f [1]) dk,λ w s r c=>?_,(fE D.A f).a⟩;rw[a.f];exact dh.e (Yk D.A f) (aiq D.A f) ((acr D.A f).trans b) c (ahX D.A f)
theorem Zy(L:ra D a n c):∀k p g w,fHead D a n c k p g w->D.c[k]?=none->g.status= .running/\hJ TP g=true/\∃g',(∀w s r,w.heap[D.A.b]?=some (.chan 0 #[] false s r false)->ea TP false g w= .go g' (w.setChan D.A.b 0 #[] true s r false) (iS D.A.b))/\bM TP false (JW D.A.a) 0 g' (wC D.A):=by intro k p g w h0 i;obtain⟨f,_,_,_,d,_⟩| ⟨_,f,e,b⟩:=h0;rw[i]at d;cases d;refine⟨b.h,(Ml b).trans (Wc D.A f),aK (F5 D.A f [1]) dk,λ w s r h=>?_,fP.a (g':=uX D.A f h0) (fW D.A f) (Sg D.A f h0)⟩;rw[b.f];exact dh.e (abF D.A f) (agc D.A f) ((afH D.A f).trans e) h (aei D.A f)
theorem aji(A:Ar)(f:Nat->cr)(h:f 12=cX A.b)(w:df):ea TP false (F3 A f [2]) w= .comm (iM TP false (F3 A f [2])) #[scase A.b (f 13) (.tuple #[])] true .send w #[]:=by
 rw[We,h];rfl
theorem abp(L:ra D a n c):∀k x p g w,fHead D a n c k p g w->D.c[k]?=some x->g.status= .running/\∃d,(∀w',bO p w w'->ea TP false g w'= .comm d #[scase D.A.b x (.tuple #[])] true .send w' #[])/\∀p' w',D.gn p'->D.dU w'->bG TP false p' (eL d dk) w' (fHead D a n c (k+1)):=by intro k x p g w h0 b;obtain⟨f,l,m,j,h,i⟩| ⟨e,_⟩:=h0;rw[b]at h;cases h;refine⟨i.h,iM TP false (F3 D.A f [2]),λ w' _=>?_,λ p' w' o q=>abK L l m o q⟩;rw[i.f];exact aji D.A f j w';rw[e,<-L.i]at b;rw[List.getElem?_eq_none (eQ _)]at b;cases b
theorem abB(K:D.iO):∀p g w,sG D p g w->g.status= .running/\∃b,(∀w',ea TP false g w'= .comm b #[rcase D.A.b zN] true (.recv true) w' #[])/\(b.frame=g.frame/\b.callers=g.callers/\b.dying=g.dying)/\(∀x w',x∈D.c->bO p w w'->D.dU w'->bG TP false p (eL b (.tuple #[x,.bool true])) w' (D.AS x))/\∀w',bO p w w'->D.dU w'->bG TP false p (eL b (.tuple #[zN,.bool false])) w' (Dj D.A):=by intro p g w h0;have⟨f,a,c,e,i,n⟩:=h0;have⟨k,l,m⟩:=ahL D.A f a;refine⟨c.h,iM TP false (WH D.A f a),λ w'=>(c.f w').trans (abR D.A f a w'),⟨k.trans c.d.symm,l.trans c.b.symm,m.trans c.e.symm⟩,λ x w' j d h=>?_,λ w' d h=>?_⟩;exact jb (wV D.A f a x) (agE K j f i h (e.c d));exact jb (wW D.A f a zN) (GN rfl (af7 D.A a _) (O8 D.A a _ w' (e.c d)))
theorem XY(K:D.iO):∀x p g w,D.AS x p g w->g.status= .running/\∃own d l,(∀w',bO p w w'->ea TP false g w'= .comm l #[scase D.A.c own (.tuple #[])] true .send w' #[])/\D.sa x own d w/\(∀b,d=some b->p.b b)/\∀p' w',(∀a,p'.a a↔p.a a/\d≠some a)->(∀a,p'.b a↔p.b a/\d≠some a)->bO p' w w'->D.dU w'->bG TP false p' (eL l dk) w' (sG D):=by
 intro x p g w h0;have⟨f,i,d,n,v,t,A,s,o,I⟩:=h0;refine⟨n.h,f 28,d,iM TP false (WS D.A f i),λ w' _=>(n.f w').trans (acP D.A f i v w'),t,λ b m=>(A b m).2,λ p' w' B E k C=>?_⟩;have y:∀b,d=some b->(¬D.d b)/\∃cs ty fr,w.heap[b]?=some (.cells cs ty fr):=λ b m=>by obtain⟨_,_,e⟩| ⟨F,_,_,_,cs,_,_,_,e,H,_,_,G⟩:=t;all_goals grind
 have q:D.gn p':=λ a j=> ⟨(B a).2 ⟨(o a j).1,λ e=>(y a e).1 j⟩,λ h=>(o a j).2 ((E a).1 h).1⟩;have z:RD.gZ i p' w:= ⟨s.d,λ r k=>by have⟨J,L,M⟩:=s.b r k;grind⟩;exact jb (wT D.A f i) (nQ rfl λ w1 u=> ⟨f,i,.c rfl,(z.c k).c u,q,C.b q u⟩)
theorem abm(A:Ar)(f:Nat->cr)(h:f 20=cX A.c)(w:df):ea TP true (kT A f) w= .comm (iM TP true (kT A f)) #[rcase A.c zR] true (.recv true) w #[]:=by
 rw[Vl,h];rfl
theorem ahG(K:uT D):∀l p g w,vB D l p g w->g.status= .running/\∃b,(∀w',ea TP true g w'= .comm b #[rcase D.A.c zR] true (.recv true) w' #[])/\(b.frame=g.frame/\b.callers=g.callers/\b.dying=g.dying)/\(∀x own d p' w',(∃r,D.c.Perm (l++x::r))->bO p w w'->D.dU w'->D.sa x own d w'->(∀a,p'.a a↔p.a a\/d=some a)->(∀a,p'.b a↔p.b a\/d=some a)->bG TP true p' (eL b (.tuple #[own,.bool true])) w' (vB D (l++ [x])))/\∀w',bO p w w'->D.dU w'->bG TP true p (eL b (.tuple #[zR,.bool false])) w' (Iz D l):=by intro l p g w h0;have⟨f,c,h,i⟩:=h0;have⟨q,s,t⟩:=aes D.A f;refine⟨c.h,iM TP true (kT D.A f),λ w'=>(c.f w').trans (abm D.A f h w'),⟨q.trans c.d.symm,s.trans c.b.symm,t.trans c.e.symm⟩,λ x own d p' w' o e j k m n=>?_,λ w' e j=>ac2 i e⟩;exact acH K h i o e j k m n
theorem adP(K:uT D)(L:ra D a n c):∀d g,vD D.A d g->d=0/\g.status= .running/\∃g' child,(∀w,ea TP true g w= .spawn g' child w #[])/\(∀p w,D.gn p->D.dU w->bG TP true p g' w (vB D []))/\∀p w,D.gn p->D.dU w->bG TP false p child w (fHead D a n c 0):=by intro d g h0;have⟨f,h⟩:=h0;rw[h];exact⟨f,rfl,aK (oC D.A) dk,AD D.A,λ w=>ag4 D.A w,λ p w b e=>aaB K b e,λ p w b e=>VM L b e⟩
def Ft(D:RD)(a:Option ht)(n c:Nat):dY TP where
 a:=D.A.a
 c:=D.A.b
 b:=D.A.c
 y:=zN
 o:=zR
 d:=D.c
 z:=D.d
 K:=D.e
 j:=D.sa
 n:=qy D.A
 t:=rT D.A
 B:=qB D.A
 w:=vD D.A
 e:=vB D
 l:=Iz D
 f:=sG D
 k:=D.AS
 D:=Dj D.A
 F:=Bl D.A
 G:=FA D.A
 x:=AA D.A
 u:=Bv D.A
 E:=Br D.A
 i:=fHead D a n c
 q:=wC D.A
 H:=Dz D.A
 C:=GQ D.A
 m:=Jb D.A
 r:=BM D.A
 A:=Ax D.A
 s:=ED D.A
theorem XN(K:uT D)(L:ra D a n c):(Ft D a n c).g where
 F:=by
  intro x own b w h Z;rcases h with⟨_,_,e⟩| ⟨Y,_,_,_,_,_,_,_,e,_,_,_,j⟩
  ·cases e
  ·cases e;trivial
 e:=λ x own aa w w' h W=>Ox h W
 M:=VD D.A
 A:=aeK D.A
 Q:=aeR K.a
 K:=adP K L
 h:=ahG K
 f:=λ l p g w w' h r=>by
  obtain⟨f,d,s,U⟩:=h;exact⟨f,d,s,U.a r⟩
 o:=λ l p g w g' h v j J P=>by
  obtain⟨f,d,s,U⟩:=h;exact⟨f,⟨j.trans d.d,J.trans d.b,P.trans d.e,v⟩,s,U⟩
 m:=λ p g w w' h r=>by
  obtain⟨f,X,d,T,k,V⟩:=h;exact⟨f,_,d,T.c r,k,V.b k r⟩
 n:=λ p g w g' h v j J P=>by
  obtain⟨f,X,d,T,k,V⟩:=h;exact⟨f,_,⟨j.trans d.d,J.trans d.b,P.trans d.e,v⟩,T,k,V⟩
 S:=λ l p g w h=>by
  obtain⟨f,e,_⟩:=h;rw[e];rfl
 i:=abB K.a
 D:=XY K.a
 R:=Wn D.A
 L:=afm D.A
 H:=Vj D.A
 B:=agx D.A
 t:=ael D.A
 y:=abQ D.A
 C:=abp L
 O:=Zy L
 E:=ac9 D.A
 N:=Xi D.A
 z:=acb D.A
 u:=Wp D.A
 q:=Uz D.A
 I:=WK K.a
 G:=aeF
end
section
open Go.ConcN (sumTo upd sumTo_upd upd_ne upd_same)
def lG(P:ef)(main:Bool)(Stop:ai->b2->df->Prop):dI->ai->b2->df->Prop
 | .eM,p,g,w=>∀d,Stop p g (w.at d)
 | .mk f,p,g,w=>(∀d,Stop p g (w.at d))\/
  (g.status= .running/\∀d,∃g' w' es p',ea P main g (w.at d)= .go g' w' es/\g'.status= .running/\ey p p' (w.at d) w' es/\lG P main Stop (f (w.at d)) p' g' w')
section
variable{P:ef}{S:Nat->Prop}{Stop:ai->b2->df->Prop}
theorem UY{B0}:∀r M p c a w sl t q,ml c.size q<=M->c[0]?=some a->hL P t c q->mr (eG S) w.heap.size t->gI B0 p t->(∀b,S b->b<w.heap.size/\¬p.a b)->(∀b,p.a b->b<w.heap.size)->lG P true Stop r p a w->∃N h a' w' o t' q' p',mn P N (j3 c w sl) t=(.next (j3 h w' o),t')/\h.size=c.size/\h[0]?=some a'/\Stop p' a' w'/\hL P t' h q'/\mr (eG S) w'.heap.size t'/\gI B0 p' t'/\(∀b,p.a b->p'.a b)/\(∀b,S b->b<w'.heap.size/\¬p'.a b)/\(∀b,p'.a b->b<w'.heap.size)/\iG p w p' w':=by
 intro r
 induction r using dI.b.induction with|_ r R=>
  intro M
  induction M with
  |zero=>intro p c a w sl t q L h0 m u s v z J;cases r with|eM=>exact⟨0,_,a,w,_,t,q,p,rfl,rfl,h0,J _,m,u,s,λ _ x=>x,v,z,.b _ _⟩|mk f=>obtain aj| ⟨E,I⟩:=J;exact⟨0,_,a,w,_,t,q,p,rfl,rfl,h0,aj _,m,u,s,λ _ x=>x,v,z,.b _ _⟩;exact Kg (M:=0) R (by omega) L h0 m u s v z E I
  |succ M au=>intro p c a w sl t q L h0 m u s v z J;cases r with|eM=>exact⟨0,_,a,w,_,t,q,p,rfl,rfl,h0,J _,m,u,s,λ _ x=>x,v,z,.b _ _⟩|mk f=>
    obtain aj| ⟨E,I⟩:=J;exact⟨0,_,a,w,_,t,q,p,rfl,rfl,h0,aj _,m,u,s,λ _ x=>x,v,z,.b _ _⟩;exact Kg (M:=M+1) R (λ k aJ=>by
     obtain rfl:k=M:=by omega
     omega) L h0 m u s v z E I
where
 Kg {f:df->dI} {M:Nat}
  (R:∀y,dI.a y (.mk f)->∀(M:Nat)(p:ai)(c:Array b2)(a:b2)(w:df)(sl:Option (Nat×Nat))(t:kg)(q:Nat->Nat),ml c.size q<=M->c[0]?=some a->hL P t c q->mr (eG S) w.heap.size t->gI B0 p t->
   (∀b,S b->b<w.heap.size/\¬p.a b)->(∀b,p.a b->b<w.heap.size)->lG P true Stop y p a w->
   ∃(N:Nat)(h:Array b2)(a':b2)(w':df)(o:Option (Nat×Nat))(t':kg)(q':Nat->Nat)(p':ai),
    mn P N (j3 c w sl) t=(.next (j3 h w' o),t')/\h.size=c.size/\h[0]?=some a'/\Stop p' a' w'/\hL P t' h q'/\mr (eG S) w'.heap.size t'/\gI B0 p' t'/\(∀b,p.a b->p'.a b)/\(∀b,S b->b<w'.heap.size/\¬p'.a b)/\(∀b,p'.a b->b<w'.heap.size)/\iG p w p' w')
  (au:∀k,k+1=M->∀(p:ai)(c:Array b2)(a:b2)(w:df)(sl:Option (Nat×Nat))(t:kg)(q:Nat->Nat),ml c.size q<=k->c[0]?=some a->hL P t c q->mr (eG S) w.heap.size t->gI B0 p t->
   (∀b,S b->b<w.heap.size/\¬p.a b)->(∀b,p.a b->b<w.heap.size)->lG P true Stop (.mk f) p a w->
   ∃(N:Nat)(h:Array b2)(a':b2)(w':df)(o:Option (Nat×Nat))(t':kg)(q':Nat->Nat)(p':ai),
    mn P N (j3 c w sl) t=(.next (j3 h w' o),t')/\h.size=c.size/\h[0]?=some a'/\Stop p' a' w'/\hL P t' h q'/\mr (eG S) w'.heap.size t'/\gI B0 p' t'/\(∀b,p.a b->p'.a b)/\(∀b,S b->b<w'.heap.size/\¬p'.a b)/\(∀b,p'.a b->b<w'.heap.size)/\iG p w p' w')
  {p:ai} {c:Array b2} {a:b2} {w:df} {sl:Option (Nat×Nat)} {t:kg} {q:Nat->Nat} (L:ml c.size q<=M) (h0:c[0]?=some a) (m:hL P t c q) (u:mr (eG S) w.heap.size t) (s:gI B0 p t)
  (v:∀b,S b->b<w.heap.size/\¬p.a b) (z:∀b,p.a b->b<w.heap.size) (E:a.status= .running)
  (I:∀d,∃g' w' es p',ea P true a (w.at d)= .go g' w' es/\g'.status= .running/\ey p p' (w.at d) w' es/\lG P true Stop (f (w.at d)) p' g' w'):
  ∃(N:Nat)(h:Array b2)(a':b2)(w':df)(o:Option (Nat×Nat))(t':kg)(q':Nat->Nat)(p':ai),
   mn P N (j3 c w sl) t=(.next (j3 h w' o),t')/\h.size=c.size/\h[0]?=some a'/\Stop p' a' w'/\hL P t' h q'/\mr (eG S) w'.heap.size t'/\gI B0 p' t'/\(∀b,p.a b->p'.a b)/\(∀b,S b->b<w'.heap.size/\¬p'.a b)/\(∀b,p'.a b->b<w'.heap.size)/\iG p w p' w':=by
  have ay:∀g∈c,awake g:=by
   intro g F;obtain⟨i,K,rfl⟩:=Array.mem_iff_getElem.1 F;rcases k8 i with rfl|ae
   ·grind[eo,awake_of]
   ·exact awake_of ((m.old i _ ae (by grind)).status.elim .inl λ x=> .inr (.inr x))
  obtain⟨i,g,d,o,K,F,aD⟩:=crowd_pick (P:=P) (w:=w) (sl:=sl) ay ⟨0,a,h0,E⟩;rcases k8 i with rfl|ae
  ·
   obtain rfl:g=a:=by grind
   obtain⟨a',w',es,p',aA,_,B,ax⟩:=I d;have aq:=o1 (P:=P) (sl:=o) (i:=0) K (show ea P (0==0) g (w.at d)=_ from aA);have Q:((c.map (woken P g a' w')).setIfInBounds 0 a').size=c.size:=by simp
   have ab:0<c.size:=(eb.1 h0).1;have ar:w.heap.size<=w'.heap.size:=B.b;have ao:∀b,S b->b<w'.heap.size/\¬p'.a b:=λ b C=>by
    obtain⟨aF,aL⟩:=v b C;refine⟨hQ aF ar,λ H=>?_⟩;rcases B.i b H with y| ⟨y,_⟩
    ·trivial
    ·have y:w.heap.size<=b:=y;omega
   have an:∀b,p'.a b->b<w'.heap.size:=λ b H=>by
    rcases B.i b H with y| ⟨_,y⟩
    all_goals grind
   obtain⟨N,h,am,aw,al,t',q',av,H,ah,T,Z,V,X,W,ag,Y,U,aa⟩:=R (f (w.at d)) (.mk f _) (ml c.size q) p' ((c.map (woken P g a' w')).setIfInBounds 0 a') a' w' o (t++mm 0 g.frame.fn g.frame.place es) q (by simp) (by grind)
    ⟨λ j x D n=>by
     have ad:0≠j:=by omega
     rw[et ad,en]at n;obtain⟨y,ak,rfl⟩:=eH.1 n;have G:=m.old j y D ak;rw[woken_quitsD G,kp t (by omega) _ (λ op l=>gz l)];omega,λ j D=>by
     rw[kp t (g':=0) (by omega) _ (λ op l=>gz l)];exact m.above j (by omega)⟩
    ((
     u.mono ar).own λ e A=>AB (λ b C=>(ao b C).2) an (B.d e A)) (s.g B.j (λ op l x n b C=>by
     obtain⟨e,A,rfl⟩:=fR l;obtain⟨aG,aH,aI,_⟩:=D9 (B.d e A) n
     grind) λ op l a=>by
     obtain⟨e,A,rfl⟩:=fR l;exact Jq (B.d e A) a) ao an ax
   exact⟨N+1,_,_,_,al,_,_,_,by grind[mn],ah.trans Q,T,Z,V,X,W,λ b C=>ag b (B.j b C),Y,U,((iG.j w d).c B.g).c aa⟩
  ·
   have G:=m.old i g ae K;have aB:(i==0)=false:=by simp;omega
   have ab:i<c.size:=(eb.1 K).1;cases af:q i with
   |zero=>rw[af]at G;rw[G.1]at F;cases F
   |succ k=>
    rw[af]at G;rcases G with⟨az,_⟩| ⟨_,g',es,ac,aE,aC⟩
    ·rw[az]at F;cases F
    have aq:=o1 (P:=P) (sl:=o) (i:=i) K (by rw[aB];exact aE (w.at d));have Q:((c.map (woken P g g' (w.at d))).setIfInBounds i g').size=c.size:=by simp
    have aK:ml c.size (upd q i k)+ (k+1)=ml c.size q+k:=by
     have:=sumTo_upd q k id ab;simpa[af]using this
    cases M with
    |zero=>omega
    |succ M=>
     obtain⟨N,h,am,aw,al,t',q',av,H,ah,T,Z,V,X,W,ag,Y,U,aa⟩:=au M rfl p ((c.map (woken P g g' (w.at d))).setIfInBounds i g') a (w.at d) o (t++mm i g.frame.fn g.frame.place es) (upd q i k) (by rw[Q];omega)
      (by
       have ad:i≠0:=by omega
       rw[et ad,en,h0];simp[woken_run E])
      ⟨λ j x D n=>by
       by_cases O:i=j
       ·subst O;rw[hB (by simpa using ab)]at n;obtain rfl:=n2 n;rw[upd_same,Deaf_own];exact aC
       ·rw[et O,en]at n;obtain⟨y,ak,rfl⟩:=eH.1 n;have ap:=m.old j y D ak;rw[woken_quitsD ap,upd_ne q k (Ne.symm O),kp t O _ (λ op l=>gz l)];exact ap,λ j D=>by
       rw[kp t (g':=i) (by simp at D;omega) _ (λ op l=>gz l)];exact m.above j (by simpa using D)⟩
      (u.mute (by omega) ac) (s.g (λ _ y=>y) (λ op l x n b C=>by
       obtain⟨e,A,rfl⟩:=fR l;rw[touch_mute (ac e A)]at n;cases n) λ op l a=>by
       obtain⟨e,A,rfl⟩:=fR l;exact xd (ac e A) a) v z (.inr ⟨E,I⟩)
     exact⟨N+1,h,am,aw,al,t',q',av,by simp only[mn,aD,aq];exact H,ah.trans Q,T,Z,V,X,W,ag,Y,U,(iG.j w d).c aa⟩
end
end
section
variable {o:Obj} {v:Nat->cr}
def yX(ops:Array l8):Nat->Array Bool->List (List Nat)|0,_=> [[]]|a+1,listed=>match gE .any ops listed with| []=> [[]]|r::rs=>(r::rs).flatMap λ i=>(yX ops a (listed.setIfInBounds i true)).map (i:: ·)
theorem Mz(ops:Array l8):∀(a t:Nat)(listed:Array Bool),gu .any ops a t listed []∈yX ops a listed
 |0,t,listed=>by grind[gu,yX]
 |a+1,t,listed=>by
  change(match(gE _ _ _)[t% (gE _ _ _).length]? with
   |some i=>gu _ _ _ (t/ (gE _ _ _).length) _ _
   |none=> [].reverse)∈_
  unfold yX;cases c:gE _ _ _ with
  |nil=>simp
  |cons x xs=>
   have b:t% (x::xs).length< (x::xs).length:=n1 _ (by simp);rw[gw b];simp only[];rw[linearise_go_acc,List.reverse_singleton,List.singleton_append];exact List.mem_flatMap.2 ⟨_,by grind,List.mem_map.2 ⟨_,Mz _ _ _ _,rfl⟩⟩
def ga(P:ef)(main:Bool)(p:ai)(g:b2)(w:df)(Stop:ai->b2->df->Prop):Prop:=g.status= .running/\∃r,lG P main Stop r p g w
section
variable{P:ef}{main:Bool}{g g':b2}{p p':ai}{w w':df}{Stop:ai->b2->df->Prop}
theorem lG.b{r:dI}(h:lG P main Stop r p g w)(d:Nat):lG P main Stop r p g (w.at d):=by
 cases r with
 |eM=>trivial
 |mk f=>trivial
theorem ga.a(h:ga P main p g w Stop)(d:Nat):ga P main p g (w.at d) Stop:= ⟨h.1,let⟨r,x⟩:=h.2; ⟨r,x.b d⟩⟩
theorem aeC(a:g.status= .running)(h:∀d,Stop p g (w.at d)):ga P main p g w Stop:= ⟨a,.eM,h⟩
theorem xk(e:g.status= .running)(h:∀d,∃g' w' es p',ea P main g (w.at d)= .go g' w' es/\ey p p' (w.at d) w' es/\ga P main p' g' w' Stop):ga P main p g w Stop:=by
 classical
 have i:∀d,∃r g' w' es p',ea P main g (w.at d)= .go g' w' es/\g'.status= .running/\ey p p' (w.at d) w' es/\lG P main Stop r p' g' w':=λ d=>
  let⟨g',w',es,p',a,b,c,r,x⟩:=h d
  ⟨r,g',w',es,p',a,c,b,x⟩
 let f:df->dI:=λ w1=>if j:∃r g' w' es p',ea P main g w1= .go g' w' es/\g'.status= .running/\ey p p' w1 w' es/\lG P main Stop r p' g' w' then j.choose else .eM
 refine⟨e,.mk f,.inr ⟨e,λ d=>?_⟩⟩;have:=(i d).choose_spec
 grind
theorem Tx:∀{k:Nat}{g g':b2},(∀w,jo P main k g w=jl P main k g w)->gJ P main k g=true->qD P main k g=true->dR P main k g=g'->ga P main p g' w Stop->ga P main p g w Stop
 |0,g,_,_,_,_,b,e=>by
  have j:g=_:=b
  grind
 |k+1,g,g',i,a,c,b,e=>by
  have f:∀w,ea P main g w= .go (lO P main g) w (vf P main g):=λ w=>by
   simp_all[jo,jl,List.cons.injEq]
  simp only[gJ,qD,ee,kV]at a c;have h:=Tx (k:=k) (λ w=>by
   simp_all[jo,jl,List.cons.injEq]) a.2 c.2 b e
  exact xk (AM a.1.1) λ d=> ⟨_,_,_,_,f _,by grind[ey.l],h.a d⟩
theorem Es{k:Nat}{g':b2}(h:Cq P main k g g')(a:ga P main p g' w Stop):ga P main p g w Stop:=
 Tx (λ w=>congrArg (·.1) (h w)) (congrArg (·.2.1) (h lT)) (congrArg (·.2.2.1) (h lT)) (congrArg (·.2.2.2) (h lT)) a
theorem yc(i:g.status= .running)(k:∀w,ea P main g w= .go (aK g (v w.heap.size)) {w with heap:=w.heap.push o} #[])
 (j:ga P main (p.c w.heap.size) (aK g (v w.heap.size)) {w with heap:=w.heap.push o} Stop):ga P main p g w Stop:=by
 refine xk i λ d=> ⟨_,_,_,p.c w.heap.size,k _,⟨by simp,λ a b _=>?_,λ a b=>?_,λ a b=>?_,λ a=> .inl,λ a=> .inl,λ a c f=> .inr (f.resolve_left c),λ e l=>by grind,rfl,rfl,rfl⟩,j.a d⟩
 ·grind
 ·rcases b with h|rfl
  ·grind
  ·exact .inr ⟨eQ _,by show w.heap.size< (w.heap.push o).size;simp⟩
 ·rcases b with h|rfl
  ·grind
  ·exact .inr ⟨eQ _,by show w.heap.size< (w.heap.push o).size;simp⟩
theorem II(h:g.status= .running)(j:∀w,ea P main g w= .go (aK g (v w.heap.size)) {w with heap:=w.heap.push o} #[])
 (i:ga P main p (aK g (v w.heap.size)) {w with heap:=w.heap.push o} Stop):ga P main p g w Stop:=by
 refine xk h λ d=> ⟨_,_,_,p,j _,⟨by simp,λ a b _=>?_,λ a b=> .inl b,λ a b=> .inl b,λ a=>id,λ a=>id,λ a c f=>absurd f c,λ e k=>by grind,rfl,rfl,rfl⟩,i.a d⟩
 grind
theorem Xz(a:g.status= .running){f:List Nat->b2}{ok:List Nat->Prop}(h:∀w,∃l,ok l/\ea P main g w= .go (f l) {w with drawn:=w.drawn+1} #[])(c:∀l,ok l->ga P main p (f l) w Stop):ga P main p g w Stop:=
 xk a λ d=>by
  obtain⟨l,b,e⟩:=h (w.at d);exact⟨_,_,_,p,e,{ey.l p _ with},(c l b).a _⟩
end
end
section
variable(A:Ar)(f:Nat->cr)(b:Nat)(l:List Nat)
def xU:=Af TP 147
def pc0:=gY xU
def pc1:=gY (bX xU)
def og:=gY (bX (bX xU))
def Hn:=λ i=> [A.g,A.k,A.h].getD i dk
def PE:=MG A (Hn A) [.code xU]
def P0:=MG A f [.inRegion (ek pc0) l,.code (bX xU)]
theorem pe:Cq TP true 2 (PE A) (P0 A (Hn A) [0,1,2,3]):=λ w=>by kernel_rfl
theorem p00(w:df):ea TP true (P0 A f [0,1,2,3]) w= .go (aK (P0 A f [0,1,2,3]) (aQ w.heap.size)) {w with heap:=w.heap.push (.cells (f 0).cells 138 (0,0))} #[]:=by kernel_rfl
theorem Yg(v:cr):aK (P0 A f [0,1,2,3]) v=P0 A (sw f 3 v) [1,2,3]:=by kernel_rfl
theorem Yz(w:df):ea TP true (P0 A f [1,2,3]) w= .go (aK (P0 A f [1,2,3]) (aQ w.heap.size)) {w with heap:=w.heap.push (.cells (f 1).cells 191 (0,0))} #[]:=by kernel_rfl
theorem T8(v:cr):aK (P0 A f [1,2,3]) v=P0 A (sw f 4 v) [2,3]:=by kernel_rfl
theorem p02(w:df):ea TP true (P0 A f [2,3]) w= .go (aK (P0 A f [2,3]) (aQ w.heap.size)) {w with heap:=w.heap.push (.cells (f 2).cells 3 (0,0))} #[]:=by kernel_rfl
theorem XZ(v:cr):aK (P0 A f [2,3]) v=P0 A (sw f 5 v) [3]:=by kernel_rfl
def P1:=MG A f [.inRegion (ek pc1) [0],.code (bX (bX xU))]
theorem p03:Cq TP true 4 (P0 A f [3]) (P1 A (sw f 6 (.slice none 0 0))):=λ w=>by kernel_rfl
theorem Ye(w:df):ea TP true (P1 A f) w= .go (aK (P1 A f) (aQ w.heap.size)) {w with heap:=w.heap.push (.cells #[.int .u64 0,.int .u32 0] 252 (0,0))} #[]:=by kernel_rfl
def P2:=MG A f [.code og,.code m1]
theorem p11(v:cr):Cq TP true 2 (aK (P1 A f) v) (P2 A (sw f 7 v)):=λ w=>by kernel_rfl
def PG:=MG A f [.inRegion (ek og) l,.code m1]
def A7(L:List Nat):Bool:=(L.take 5).isPerm [0,1,2,3,4]&& (L.drop 5== [5])&&Nat.blt (L.idxOf 0) (L.idxOf 4)&&Nat.blt (L.idxOf 2) (L.idxOf 4)
theorem Xr:(yX (ek og) (ek og).size (gf (ek og).size false)).all A7=true:=by kernel_rfl
def Ji:Code->Nat| .region i _ _=>i|_=>0
theorem ZK:TP.follows .mixedOrders=true:=by kernel_rfl
theorem ahi(w:df):∃L,A7 L=true/\ea TP true (P2 A f) w= .go (PG A f L) {w with drawn:=w.drawn+1} #[]:=by
 refine⟨lb (TP.follows .mixedOrders) (ek og) (w.tape w.drawn (.order 147 (Ji og))),?_,?_⟩
 ·grind[Xr,hY,ZK,lb,Region.linearise,Mz]
 ·have e:P2 A f=Conc.G (({fn:=147,tmps:= #[],todo:= [],defers:= [],mode:= .run,kind:= .normal}:lB).at ⟨⟨mF f⟩,[]⟩ (.code (.region (Ji og) (ek og) true):: [.code m1])) A.j:=by
   rfl
  rfl
theorem g0(w:df):ea TP true (PG A f (0::l)) w= .go (aK (PG A f (0::l)) (cX w.heap.size)) {w with heap:=w.heap.push (.chan 0 #[] false 0 0 false)} #[]:=by kernel_rfl
theorem Xf(v:cr):aK (PG A f (0::l)) v=PG A (sw f 12 v) l:=by kernel_rfl
theorem g1(w:df):ea TP true (PG A f (1::l)) w= .go (aK (PG A f (1::l)) (cX w.heap.size)) {w with heap:=w.heap.push (.chan 0 #[] false 0 0 false)} #[]:=by kernel_rfl
theorem Ys(v:cr):aK (PG A f (1::l)) v=PG A (sw f 13 v) l:=by kernel_rfl
theorem g2(w:df):ea TP true (PG A f (2::l)) w= .go (aK (PG A f (2::l)) (aQ w.heap.size)) {w with heap:=w.heap.push (.cells #[.chan none] 253 (0,0))} #[]:=by kernel_rfl
theorem UG(v:cr):aK (PG A f (2::l)) v=PG A (sw f 8 v) l:=by kernel_rfl
theorem g3(w:df):ea TP true (PG A f (3::l)) w= .go (aK (PG A f (3::l)) (aQ w.heap.size)) {w with heap:=w.heap.push (.cells #[.chan none] 254 (0,0))} #[]:=by kernel_rfl
theorem ai6:dh (PG A f (4::l)) (bj (PG A f (4::l))):=ao (by kernel_rfl)
theorem ahs:(bY (PG A f (4::l))).eval (sk (bj (PG A f (4::l))).op)=f 8:=by kernel_rfl
theorem aav:dh (PG A f [5]) (bj (PG A f [5])):=ao (by kernel_rfl)
theorem Xw:(bY (PG A f [5])).eval (sk (bj (PG A f [5])).op)=f 9:=by kernel_rfl
end
section
variable{P:ef}{main:Bool}{g g':b2}{o:l8}{p p':ai}{w w':df}{Stop:ai->b2->df->Prop}
variable {i:Nat} {v:cr}
theorem du.d:∀{r:dI}{p:ai}{g:b2}{w:df},du P main Stop r p g w->lG P main Stop r p g w
 | .eM,p,g,w,h=>λ d=>h _ (jn _ _ _)
 | .mk f,p,g,w,h=>h.imp (λ h d=>h _ (jn _ _ _)) λ⟨a,h⟩=> ⟨a,λ d=>let⟨g',w',es,p',x,y,z,u⟩:=h _ (jn _ _ _); ⟨g',w',es,p',x,y,z,du.d u⟩⟩
theorem lG.a:∀{r:dI}{p:ai}{g:b2}{w:df}{Stop':ai->b2->df->Prop},lG P main Stop r p g w->(∀p g w,Stop p g w->ga P main p g w Stop')->ga P main p g w Stop':=by
 intro r
 induction r with
 |eM=>exact λ h k=>k _ _ _ (h _)
 |mk f e=>
  intro p g w Stop' h k;rcases h with h| ⟨b,h⟩
  ·exact k _ _ _ (h _)
  ·refine xk b λ d=>?_;obtain⟨g',w',es,p',a,_,c,x⟩:=h d
   grind
theorem bG.a{Stop':ai->b2->df->Prop}(h:bG P main p g w Stop)(k:∀p g w,Stop p g w->ga P main p g w Stop'):ga P main p g w Stop':=let⟨r,x⟩:=h.2;x.d.a k
theorem Ld{t ty:fl}{x y:ew}{b:Nat}{u:cr}(h:dh g o)(z:g.status= .running)(C:o.op= .store t x y)(G:(bY g).eval x=aQ b)(H:(bY g).eval y=v)(I:∀w,(fu t).run P w= .ok 1 w)(r:∀w es,(fu t).events P w es=es)
 (A:v.cells= #[v]) (c:v.oneCell'=true) (K:p.a b) (F:p.b b) (n:w.heap[b]?=some (.cells #[u] ty (0,0)))
 (E:ga P main p (aK g dk) (w.setCell ⟨b,0,none⟩ v) Stop):ga P main p g w Stop:=by
 refine xk z λ d=>?_;have i:(w.at d).heap[b]?=some (.cells #[u] ty (0,0)):=n;have q:(w.at d).cell? ⟨b,0,none⟩=some u:=j2 (w.at d) b 0 _ ty _ i;have s:(w.at d).frozen? ⟨b,0,none⟩=false:=oj (w.at d) b 0 _ ty i;have k:=run_store P (w.at d) ⟨b,0,none⟩ v .plain c;have j:=k5 P (w.at d) #[] ⟨b,0,none⟩ v .plain c;simp only[q,s,k3,if_false]at k j;have m:(⟨b,0,none⟩:ht).add 0= ⟨b,0,none⟩:=by rfl
 have D:(ej (bY g).eval o).run P (w.at d)= .ok .skip ((w.at d).setCell ⟨b,0,none⟩ v):=by
  simp_all[ej,aQ,hM,eV,l9,hA]
 refine⟨_,_,_,p,h.f D,⟨by simp,λ a J B=>fx _ _ _ _ λ e=>B (e▸F),λ _ h=> .inl h,λ _ h=> .inl h,λ _ h=>h,λ _ h=>h,λ a c l=>absurd l c,xp λ e f=>?_,rfl,rfl,rfl⟩,E.a d⟩;unfold ej at f;simp only[C,G,H,aQ]at f;simp[hM,eV,l9,I,r,A,hA,m,k,j]at f
 grind[RA]
end
def sl(i:Nat):=if i=0 then 12 else if i=1 then 13 else if i=2 then 8 else 9
def vl(i b:Nat):Value:=if i<2 then cX b else aQ b
def ob(s:Bool)(c:cr)(i:Nat):Obj:=if i<2 then .chan 0 #[] false 0 0 false else if i=2 then .cells #[if s then c else .chan none] 253 (0,0)else .cells #[.chan none] 254 (0,0)
structure PI(n0:Nat)(w0:df)(ps:ai)(f0 f:Nat->cr)(w:df)(p:ai)(dn:Nat->Bool)(b:Nat->Nat):Prop where
 d:∀i,i<4->dn i=true->f (sl i)=vl i (b i)
 c:∀i,i<4->dn i=true->w.heap[b i]?=some (ob (dn 4) (f 12) i)
 u:∀i,i<4->dn i=true->n0<=b i
 n:∀i j,i<4->j<4->dn i=true->dn j=true->b i=b j->i=j
 t:∀a,p.a a↔ps.a a\/∃i,2<=i/\i<4/\dn i=true/\a=b i
 r:∀a,p.b a↔ps.b a\/∃i,2<=i/\i<4/\dn i=true/\a=b i
 s:∀a,a<n0->w.heap[a]?=w0.heap[a]?
 k:n0<=w.heap.size
 e:w.os=w0.os/\w.output=w0.output/\w.tape=w0.tape
 m:∀j,j≠12->j≠13->j≠8->j≠9->f j=f0 j
 l:dn 4=true->dn 0=true/\dn 2=true
def iv(dn:Nat->Bool)(i:Nat):Nat->Bool:=λ j=>if j=i then true else dn j
def vI(b:Nat->Nat)(i n:Nat):Nat->Nat:=λ j=>if j=i then n else b j
section
variable{n0:Nat}{w0:df}{ps:ai}{f0 f:Nat->cr}{w:df}{p:ai}{dn:Nat->Bool}{b:Nat->Nat}
theorem PI.y(h:PI n0 w0 ps f0 f w p dn b){i:Nat}(c:i<4)(a:dn i=true):b i<w.heap.size:=(eb.1 (h.c i c a)).1
theorem acE{i j:Nat}(a:i<4)(b:j<4)(h:i≠j):sl i≠sl j:=by
 have:(i=0\/i=1\/i=2\/i=3)/\(j=0\/j=1\/j=2\/j=3):=by omega
 obtain⟨rfl|rfl|rfl|rfl,rfl|rfl|rfl|rfl⟩:=this<;>first|exact absurd rfl h|decide
theorem He{f:Nat->cr}{i j:Nat}{v:cr}(h:i≠j):sw f j v i=f i:=by
 grind[sw,yB]
theorem aeI{f:Nat->cr}{i:Nat}{v:cr}:sw f i v i=v:=by
 grind[sw,Nat.beq_refl]
theorem R6{s:Bool}{c c':cr}{i:Nat}(h:s=true->c=c'):ob s c i=ob s c' i:=by
 cases s with
 |true=>grind
 |false=>rfl
theorem PI.h(h:PI n0 w0 ps f0 f w p dn b){i:Nat}(F:i<4)(A:dn i=false):
 PI n0 w0 ps f0 (sw f (sl i) (vl i w.heap.size)) {w with heap:=w.heap.push (ob (dn 4) (f 12) i)} (if i<2 then p else p.c w.heap.size) (iv dn i) (vI b i w.heap.size):=by
 have u:iv dn i 4=dn 4:=by unfold iv;rw[if_neg (by omega)]
 have q:∀j,j<4->j≠i->iv dn i j=dn j/\vI b i w.heap.size j=b j:=λ j d c=>by unfold iv vI;rw[if_neg c,if_neg c];exact⟨rfl,rfl⟩
 have t:vI b i w.heap.size i=w.heap.size:=by unfold vI;rw[if_pos rfl]
 have K:iv dn i i=true:=by unfold iv;rw[if_pos rfl]
 have D:dn 4=true->sw f (sl i) (vl i w.heap.size) 12=f 12:=λ J=>He λ e=>by
  have:i=0:=by
   have:i=0\/i=1\/i=2\/i=3:=by omega
   rcases this with rfl|rfl|rfl|rfl<;>first|rfl| (exfalso;revert e;decide)
  rw[this,(h.l J).1]at A;cases A
 have G:∀a,(∃j,2<=j/\j<4/\iv dn i j=true/\a=vI b i w.heap.size j)↔(∃j,2<=j/\j<4/\dn j=true/\a=b j)\/(2<=i/\a=w.heap.size):=λ a=>by
  constructor
  ·rintro⟨j,m,r,n,s⟩;by_cases c:j=i
   ·subst c;rw[t]at s;exact .inr ⟨m,s⟩
   ·obtain⟨g,l⟩:=q j r c;rw[g]at n;rw[l]at s;exact .inl ⟨j,m,r,n,s⟩
  ·rintro(⟨j,m,r,n,s⟩| ⟨m,s⟩)
   ·have c:j≠i:=λ e=>by rw[e,A]at n;cases n
    obtain⟨g,l⟩:=q j r c;exact⟨j,m,r,g.trans n,s.trans l.symm⟩
   ·exact⟨i,m,F,K,s.trans t.symm⟩
 refine⟨λ j d o=>?_,λ j d o=>?_,λ j d o=>?_,λ j k d v o E e=>?_,λ a=>?_,λ a=>?_,λ a C=>?_,?_,h.e,λ j B m r n=>?_,λ n=>?_⟩
 ·by_cases c:j=i
  ·subst c;rw[aeI,t]
  ·obtain⟨g,l⟩:=q j d c;rw[He (acE d F c),l];exact h.d j d (g▸o)
 ·rw[u];by_cases c:j=i
  ·subst c;rw[t];show(w.heap.push _)[w.heap.size]?=_;rw[C9,R6 λ u=>(D u).symm]
  ·obtain⟨g,l⟩:=q j d c;rw[g]at o;rw[l];show(w.heap.push _)[b j]?=_;rw[yC (h.y d o),h.c j d o,R6 λ u=>(D u).symm]
 ·by_cases c:j=i
  ·subst c;rw[t];exact h.k
  ·obtain⟨g,l⟩:=q j d c;rw[l];exact h.u j d (g▸o)
 ·by_cases c:j=i<;>by_cases z:k=i
  ·rw[c,z]
  ·obtain⟨g,l⟩:=q k v z;rw[c,t,l]at e;have:=h.y v (g▸E);omega
  ·obtain⟨g,l⟩:=q j d c;rw[z,t,l]at e;have:=h.y d (g▸o);omega
  ·obtain⟨g,l⟩:=q j d c;obtain⟨H,I⟩:=q k v z;rw[l,I]at e;exact h.n j k d v (g▸o) (H▸E) e
 ·rw[G];by_cases m:i<2
  ·rw[if_pos m,h.t a];have:¬2<=i:=by omega
   simp[this]
  ·rw[if_neg m];show p.a a\/a=w.heap.size↔_;rw[h.t a];have:2<=i:=by omega
   simp[this,or_assoc]
 ·rw[G];by_cases m:i<2
  ·rw[if_pos m,h.r a];have:¬2<=i:=by omega
   simp[this]
  ·rw[if_neg m];show p.b a\/a=w.heap.size↔_;rw[h.r a];have:2<=i:=by omega
   simp[this,or_assoc]
 ·exact(yC (hQ C h.k)).trans (h.s a C)
 ·show n0<=(w.heap.push _).size;have:=h.k;simp;omega
 ·rw[He λ e=>?_,h.m j B m r n];have:i=0\/i=1\/i=2\/i=3:=by omega
  rcases this with rfl|rfl|rfl|rfl
  ·exact B e
  ·exact m e
  ·exact r e
  ·exact n e
 ·rw[u]at n;obtain⟨x,y⟩:=h.l n;unfold iv;exact⟨by split<;>first|rfl|exact x,by split<;>first|rfl|exact y⟩
theorem PI.x(h:PI n0 w0 ps f0 f w p dn b)(h0:dn 0=true)(h2:dn 2=true)(h4:dn 4=false):PI n0 w0 ps f0 f (w.setCell ⟨b 2,0,none⟩ (f 12)) p (iv dn 4) b:=by
 have r:iv dn 4 4=true:=by rfl
 have d:∀j,j<4->iv dn 4 j=dn j:=λ j c=>by grind[iv]
 have i:=h.c 2 (by omega) h2;have q:ob (dn 4) (f 12) 2= .cells #[.chan none] 253 (0,0):=by rw[h4];rfl
 rw[q]at i;have v:(w.setCell ⟨b 2,0,none⟩ (f 12)).heap[b 2]?=some (.cells #[f 12] 253 (0,0)):=by
  rw[jA w _ 0 _ _ _ i];rfl
 have o:∀a,(∃j,2<=j/\j<4/\iv dn 4 j=true/\a=b j)↔∃j,2<=j/\j<4/\dn j=true/\a=b j:=λ a=>
  ⟨λ⟨j,x,y,z,u⟩=> ⟨j,x,y,(d j y)▸z,u⟩,λ⟨j,x,y,z,u⟩=> ⟨j,x,y,(d j y).trans z,u⟩⟩
 refine⟨λ j c g=>h.d j c ((d j c)▸g),λ j c g=>?_,λ j c g=>h.u j c ((d j c)▸g),λ j k c n g t e=>h.n j k c n ((d j c)▸g) ((d k n)▸t) e,λ a=>by rw[o];exact h.t a,λ a=>by rw[o];exact h.r a,λ a s=>?_,by simpa using h.k,h.e,h.m,λ _=> ⟨(d 0 (by omega)).trans h0,(d 2 (by omega)).trans h2⟩⟩
 ·rw[r];have l:=(d j c)▸g;by_cases m:j=2
  ·subst m;trivial
  ·rw[fx _ _ _ _ λ e=>m (h.n j 2 c (by omega) l h2 e),h.c j c l]
   grind[ob]
 ·have:=h.u 2 (by omega) h2;rw[fx _ _ _ _ (by grind)];exact h.s a s
theorem cv:∀b:Nat,(cX b).cells= #[cX b]/\(cX b).oneCell'=true:=λ b=> ⟨rfl,rfl⟩
theorem aeZ(w:df):(fu 253).run TP w= .ok 1 w:=by kernel_rfl
theorem ahf(w:df):(fu 254).run TP w= .ok 1 w:=by kernel_rfl
theorem YK(w:df)(es:Array ma):(fu 253).events TP w es=es:=by kernel_rfl
theorem ahq(w:df)(es:Array ma):(fu 254).events TP w es=es:=by kernel_rfl
theorem PI.q(h:PI n0 w0 ps f0 f w p dn b){i:Nat}(h2:2<=i)(h3:i<4)(a:dn i=true):p.a (b i)/\p.b (b i):= ⟨(h.t _).2 (by grind),(h.r _).2 (by grind)⟩
theorem MT{x a:Nat}{l:List Nat}(h:x≠a):(x::l).idxOf a=l.idxOf a+1:=by
 grind
theorem QN(A){Stop r}:∀l{f:Nat->cr}{w:df}{p:ai}{dn:Nat->Bool}{b:Nat->Nat},PI n0 w0 ps f0 f w p dn b->(∀i∈l,i<5)->l.Nodup->(∀i,i<5->(i∈l↔dn i=false))->(∀k,l.idxOf 4=k->k<l.length->(dn 0=true\/l.idxOf 0<k)/\(dn 2=true\/l.idxOf 2<k))->(∀f w p dn b,PI n0 w0 ps f0 f w p dn b->(∀i,i<5->dn i=true)->ga TP true p (PG A f r) w Stop)->ga TP true p (PG A f (l++r)) w Stop
 | [],f,w,p,dn,b,h,_,_,j,_,n=>n f w p dn b h λ i d=>by cases m:dn i with
  |true=>rfl|false=>exact absurd ((j i d).2 m) (by simp)
 |x::l,f,w,p,dn,b,h,hlt,hnd,j,hord,n=>by
  have L:=hlt x (by simp);have a:dn x=false:=(j x L).1 (by simp);have B:x∉l:=(hz.1 hnd).1;have J:=(hz.1 hnd).2;have I:∀i,i<5->(i∈l↔iv dn x i=false):=λ i d=>by unfold iv;by_cases c:i=x;subst c;simp[B];rw[if_neg c,<-j i d];simp[c]
  have K:∀k,l.idxOf 4=k->k<l.length->(iv dn x 0=true\/l.idxOf 0<k)/\(iv dn x 2=true\/l.idxOf 2<k):=λ k u z=>by
   have H:4∈l:=by rw[<-u]at z;exact List.idxOf_lt_length_iff.1 z
   have N:x≠4:=λ e=>B (e▸H);have E:(x::l).idxOf 4=k+1:=by rw[MT N,u]
   have⟨o,q⟩:=hord (k+1) E (by simp;omega);have one:∀i,(dn i=true\/(x::l).idxOf i<k+1)->(iv dn x i=true\/l.idxOf i<k):=λ i y=>by by_cases c:i=x;left;unfold iv;rw[if_pos c];obtain y|y:=y;left;unfold iv;rw[if_neg c];exact y;right;rw[MT (Ne.symm c)]at y;omega
   exact⟨one 0 o,one 2 q⟩
  have g:∀{f w p b},PI n0 w0 ps f0 f w p (iv dn x) b->ga TP true p (PG A f (l++r)) w Stop:=λ F=>QN A l F (λ i d=>hlt i (by simp[d])) J I K n;rw[List.cons_append];have M:x=0\/x=1\/x=2\/x=3\/x=4:=by omega
  obtain e|e|e|e|e:=M;subst e;refine II (v:=cX) rfl (g0 A f (l++r)) ?_;rw[Xf];exact g (h.h (by omega) a);subst e;refine II (v:=cX) rfl (g1 A f (l++r)) ?_;rw[Ys];exact g (h.h (by omega) a);subst e;refine yc (v:=aQ) rfl (g2 A f (l++r)) ?_;rw[UG];have G:dn 4=false:=by cases m:dn 4 with|false=>rfl|true=>rw[(h.l m).2]at a;cases a
  have:=h.h (i:=2) (by omega) a;rw[G]at this;exact g this;subst e;refine yc (v:=aQ) rfl (g3 A f _) ?_;exact g (h.h (by omega) a);subst e;have⟨o,q⟩:=hord 0 (by simp) (by simp);have s:dn 0=true:=o.resolve_right (by omega);have d2:dn 2=true:=q.resolve_right (by omega);have C:=h.d 0 (by omega) s;have Q:=h.d 2 (by omega) d2;have t:=h.c 2 (by omega) d2;have D:ob (dn 4) (f 12) 2= .cells #[.chan none] 253 (0,0):=by rw[a];rfl
  rw[D]at t;have⟨O,P⟩:=h.q (i:=2) (by omega) (by omega) d2;refine Ld (v:=f _) (ai6 A f _) rfl rfl ((ahs A f _).trans Q) rfl aeZ YK (by rw[show f 12=cX _ from C];rfl) (by rw[show f 12=cX _ from C];rfl) O P t ?_;exact g (h.x s d2 a)
end
structure uo(A:Ar)(n:Nat)(w0:df)(ps:ai)(p:ai)(w:df):Prop where
 c:A.f=n/\A.l=n+1/\A.i=n+2/\A.a=n+3
 r:n+4<=A.e/\n+4<=A.d/\n+4<=A.b/\n+4<=A.c
 q:w.heap[A.f]?=some (.cells A.g.cells 138 (0,0))
 l:w.heap[A.l]?=some (.cells A.k.cells 191 (0,0))
 t:w.heap[A.i]?=some (.cells A.h.cells 3 (0,0))
 u:ba A.a w 0 0
 k:w.heap[A.e]?=some (.cells #[cX A.b] 253 (0,0))
 s:w.heap[A.d]?=some (.cells #[cX A.c] 254 (0,0))
 i:w.heap[A.b]?=some (.chan 0 #[] false 0 0 false)
 h:w.heap[A.c]?=some (.chan 0 #[] false 0 0 false)
 m:A.b≠A.c/\A.e≠A.d/\A.e≠A.b/\A.e≠A.c/\A.d≠A.b/\A.d≠A.c
 g:∀a,a<n->w.heap[a]?=w0.heap[a]?
 d:w.os=w0.os/\w.output=w0.output/\w.tape=w0.tape
 e:n<=w.heap.size
 b:∀a,p.a a↔ps.a a\/a=A.f\/a=A.l\/a=A.i\/a=A.e\/a=A.d
 j:∀a,p.b a↔ps.b a\/a=A.f\/a=A.l\/a=A.i\/a=A.e\/a=A.d
def Np(A:Ar)(n:Nat)(w0:df)(ps:ai)(p:ai)(g:b2)(w:df):Prop:=
 ∃A':Ar,A'.g=A.g/\A'.k=A.k/\A'.h=A.h/\A'.j=A.j/\g=CW A'/\uo A' n w0 ps p w
theorem uo.o{A:Ar}{n:Nat}{w0:df}{ps p:ai}{w:df}(h:uo A n w0 ps p w)(d:Nat):uo A n w0 ps p (w.at d):= ⟨h.c,h.r,h.q,h.l,h.t,h.u,h.k,h.s,h.i,h.h,h.m,h.g,h.d,h.e,h.b,h.j⟩
section
variable(A:Ar)(f:Nat->cr)
theorem pg:Cq TP true 1 (PG A f []) (MG A f [.code m1]):=λ w=>by kernel_rfl
def yN(n:Nat):=sw (sw (sw (sw (sw (Hn A) 3 (aQ n)) 4 (aQ (n+1))) 5 (aQ (n+2))) 6 (.slice none 0 0)) 7 (aQ (n+3))
end
theorem Yd(A:Ar)(w0:df)(ps:ai)(au:∀a,ps.a a->a<w0.heap.size)(av:∀a,ps.b a->ps.a a):ga TP true ps (PE A) w0 (Np A w0.heap.size w0 ps):=by
 refine Es (pe A) ?_;generalize u:w0.heap.size=n;refine yc (v:=aQ) rfl (p00 A _) ?_;rw[Yg,u];refine yc (v:=aQ) rfl (Yz A _) ?_;rw[T8];simp only[hZ,u];refine yc (v:=aQ) rfl (p02 A _) ?_;rw[XZ];simp only[hZ,u];refine Es (p03 A _) ?_;refine II (v:=aQ) rfl (Ye A _) ?_;simp only[hZ,u];refine Es (p11 A _ _) ?_;show ga _ _ (((ps.c n).c _).c (n+2)) (P2 A (yN A n)) {w0 with heap:=(((w0.heap.push (.cells A.g.cells _ _)).push (.cells A.k.cells _ _)).push (.cells A.h.cells 3 _)).push _} _;generalize ax:({w0 with heap:=(((w0.heap.push (.cells A.g.cells 138 (0,0))).push (.cells A.k.cells 191 (0,0))).push (.cells A.h.cells 3 (0,0))).push (.cells #[.int .u64 0,.int .u32 0] 252 (0,0))}:df)=w1;generalize M:(((ps.c n).c (n+1)).c (n+2))=D;have aw:w1.heap.size=n+4:=by grind
 have ag:∀a,a<n->w1.heap[a]?=w0.heap[a]?:=λ a q=>by
  grind
 have Y:w1.heap[n]?=some (.cells A.g.cells 138 (0,0)):=by
  grind
 have Z:w1.heap[n+1]?=some (.cells A.k.cells 191 (0,0)):=by
  grind
 have aa:w1.heap[n+2]?=some (.cells A.h.cells 3 (0,0)):=by
  grind
 have ab:w1.heap[n+3]?=some (.cells #[.int .u64 0,.int .u32 0] 252 (0,0)):=by
  grind
 have I:w1.os=w0.os/\w1.output=w0.output/\w1.tape=w0.tape:=by grind
 have ak:∀a,D.a a↔ps.a a\/a=n\/a=n+1\/a=n+2:=λ a=>by rw[<-M];simp[ai.c,or_assoc]
 have al:∀a,D.b a↔ps.b a\/a=n\/a=n+1\/a=n+2:=λ a=>by rw[<-M];simp[ai.c,or_assoc]
 have R:PI (n+4) w1 D (yN A n) (yN A n) w1 D (λ _=>false) (λ _=>0):=
  ⟨λ _ _ h=>(by cases h),λ _ _ h=>(by cases h),λ _ _ h=>(by cases h),λ _ _ _ _ h=>(by cases h),λ a=> ⟨.inl,λ h=>h.elim id λ⟨_,_,_,h,_⟩=>(by cases h)⟩,λ a=> ⟨.inl,λ h=>h.elim id λ⟨_,_,_,h,_⟩=>(by cases h)⟩,λ _ _=>rfl,by omega,⟨rfl,rfl,rfl⟩,λ _ _ _ _ _=>rfl,λ h=>(by cases h)⟩
 refine Xz (ok:=λ L=>A7 L=true) (f:=PG A (yN A n)) rfl (ahi A _) λ L H=>?_;unfold A7 at H;simp only[ee,beq_iff_eq]at H;obtain⟨⟨⟨ac,ar⟩,ad⟩,ae⟩:=H;have C:(L.take 5).Perm [0,1,2,3,4]:=List.isPerm_iff.1 ac;have af:L=L.take 5++ [5]:=by grind[List.take_append_drop]
 have t:∀i,i<5->L.idxOf i=(L.take 5).idxOf i:=λ i o=>by
  grind
 have F:L.idxOf 0<L.idxOf 4:=n3▸ad;have G:L.idxOf 2<L.idxOf 4:=n3▸ae;rw[t 0 (by omega),t 4 (by omega)]at F;rw[t 2 (by omega),t 4 (by omega)]at G;rw[af];generalize L.take 5=l at C F G;refine QN A l R (λ i o=>?_) (C.nodup_iff.2 (by decide)) (λ i o=> ⟨λ _=>rfl,λ _=>C.mem_iff.2 (by
  grind)⟩) (λ k K _=> ⟨.inr (K▸F),.inr (K▸G)⟩) λ f w p J b h g=>?_
 ·have:=C.mem_iff.1 o;simp at this;omega
 ·have P:f 12=cX (b 0):=h.d 0 (by omega) (g 0 (by omega));have E:f 13=cX (b 1):=h.d 1 (by omega) (g 1 (by omega));have aq:f 8=aQ (b 2):=h.d 2 (by omega) (g 2 (by omega));have Q:f 9=aQ (b 3):=h.d 3 (by omega) (g 3 (by omega));have d4:J 4=true:=g 4 (by omega);have am:w.heap[b 0]?=some (.chan 0 #[] false 0 0 false):=h.c 0 (by omega) (g 0 (by omega));have an:w.heap[b 1]?=some (.chan 0 #[] false 0 0 false):=h.c 1 (by omega) (g 1 (by omega));have ao:w.heap[b 2]?=some (.cells #[cX (b 0)] 253 (0,0)):=by
   have:=h.c 2 (by omega) (g 2 (by omega));rw[d4,P]at this;trivial
  have O:w.heap[b 3]?=some (.cells #[.chan none] 254 (0,0)):=h.c 3 (by omega) (g 3 (by omega));have m:∀i j,i<4->j<4->i≠j->b i≠b j:=λ i j o aj ah e=>ah (h.n i j o aj (g i (by omega)) (g j (by omega)) e);have r:∀i,i<4->n+4<=b i:=λ i o=>h.u i o (g i (by omega));obtain⟨ap,w3⟩:=h.q (i:=3) (by omega) (by omega) (g 3 (by omega));refine Ld (v:=f _) (aav A f) rfl rfl ((Xw A f).trans Q) rfl ahf ahq (by rw[E];rfl) (by rw[E];rfl) ap w3 O ?_;refine Es (pg A f) ?_;have B:∀a,a≠b 3->(w.setCell ⟨b 3,0,none⟩ (f 13)).heap[a]?=w.heap[a]?:=λ a q=>fx _ _ _ _ q;have s:∀a,a<n+4->(w.setCell ⟨b 3,0,none⟩ (f 13)).heap[a]?=w1.heap[a]?:=λ a q=>by
   have:=r 3 (by omega);rw[B a (by omega)];exact h.s a q
  have N:∀a,(∃i,2<=i/\i<4/\J i=true/\a=b i)↔a=b 2\/a=b 3:=λ a=>by
   constructor
   ·rintro⟨i,x,y,_,z⟩;have:i=2\/i=3:=by omega
    rcases this with rfl|rfl
    all_goals omega
   grind
  have key:Np A n w0 ps p (MG A f [.code m1]) (w.setCell ⟨b 3,0,none⟩ (f 13)):=by
   refine⟨{A with a:=n+3,e:=b 2,f:=n,l:=n+1,i:=n+2,d:=b 3,b:=b 0,c:=b 1},rfl,rfl,rfl,rfl,?_,⟨⟨rfl,rfl,rfl,rfl⟩,⟨r 2 (by omega),r 3 (by omega),r 0 (by omega),r 1 (by omega)⟩,(s _ (by simp)).trans Y,(s _ (by simp)).trans Z,(s _ (by simp)).trans aa,⟨252,(s _ (by simp)).trans ab⟩,(B _ (m 2 3 (by omega) (by omega) (by omega))).trans ao,?_,(B _ (m 0 3 (by omega) (by omega) (by omega))).trans am,(B _ (m 1 3 (by omega) (by omega) (by omega))).trans an,
    ⟨m 0 1 (by omega) (by omega) (by omega),m 2 3 (by omega) (by omega) (by omega),m 2 0 (by omega) (by omega) (by omega),m 2 1 (by omega) (by omega) (by omega),m 3 0 (by omega) (by omega) (by omega),m 3 1 (by omega) (by omega) (by omega)⟩,λ a q=>(s a (by omega)).trans (ag a q),⟨h.e.1.trans I.1,h.e.2.1.trans I.2.1,h.e.2.2.trans I.2.2⟩,?_,λ a=>?_,λ a=>?_⟩⟩
   ·have k:∀j,j≠12->j≠13->j≠8->j≠9->f j=yN A n j:=h.m;show GG _ _ _ _ _=GG _ _ _ _ A.j
    congr 1
    unfold mF ye;rw[k 0 (by decide) (by decide) (by decide) (by decide),k 1 (by decide) (by decide) (by decide) (by decide),k 2 (by decide) (by decide) (by decide) (by decide),k 3 (by decide) (by decide) (by decide) (by decide),k 4 (by decide) (by decide) (by decide) (by decide),k 5 (by decide) (by decide) (by decide) (by decide),k 6 (by decide) (by decide) (by decide) (by decide),k 7 (by decide) (by decide) (by decide) (by decide),k 10 (by decide) (by decide) (by decide) (by decide),k 11 (by decide) (by decide) (by decide) (by decide),
     k 14 (by decide) (by decide) (by decide) (by decide),k 15 (by decide) (by decide) (by decide) (by decide),k 16 (by decide) (by decide) (by decide) (by decide),k 17 (by decide) (by decide) (by decide) (by decide),k 18 (by decide) (by decide) (by decide) (by decide),k 19 (by decide) (by decide) (by decide) (by decide),k 20 (by decide) (by decide) (by decide) (by decide),k 21 (by decide) (by decide) (by decide) (by decide),k 22 (by decide) (by decide) (by decide) (by decide),k 23 (by decide) (by decide) (by decide) (by decide),
     k 24 (by decide) (by decide) (by decide) (by decide),k 25 (by decide) (by decide) (by decide) (by decide),k 26 (by decide) (by decide) (by decide) (by decide),k 27 (by decide) (by decide) (by decide) (by decide),k 28 (by decide) (by decide) (by decide) (by decide),k 29 (by decide) (by decide) (by decide) (by decide),P,E,aq,Q]
    rfl
   ·rw[jA w _ 0 _ _ _ O,E];rfl
   ·grind
   ·rw[h.t a,N,ak]
    grind
   ·rw[h.r a,N,al]
    grind
  exact aeC rfl λ d=>let⟨A',S,T,U,V,W,X⟩:=key; ⟨A',S,T,U,V,W,X.o d⟩
section
variable(A:Ar)
theorem gm:Ch TP true 7 0 0 (CW A):=λ w=>by kernel_rfl
theorem Yq:bM TP true (JW A.a) 0 (CW A) (qy A 0):=Ch.a (gm A) (agR A) ((aeT A _ _ _ _).b λ d g=>Vi)
end
def sq(A:Ar)(xs:List cr)(fnd:cr->List cr)(p:ai)(w:df):RD:={A:=A,c:=xs,d:=p.a,e:=w,b:=fnd}
theorem afP{A xs fnd a n c S ps E w t q}(sl) (h0:E[0]?=some (PE A)) (ah:hL TP t E q) (V:mr (eG S) w.heap.size t) (aj:∀b,S b->b<w.heap.size/\¬ps.a b) (H:∀b,ps.a b->b<w.heap.size) (I:∀b,ps.b b->ps.a b) (ag:∀A' p w1,A'.g=A.g->A'.k=A.k->A'.h=A.h->A'.j=A.j->uo A' w.heap.size w ps p w1->(∀b,p.a b->b<w1.heap.size)->uT (sq A' xs fnd p w1)/\ra (sq A' xs fnd p w1) a n c):∃N F w' M t' q' p' l g A' B w1,mn TP N (j3 E w sl) t=(.next (j3 F w' M),t')/\A'.g=A.g/\A'.k=A.k/\A'.h=A.h/\A'.j=A.j/\uo A' w.heap.size w ps B w1/\Jd (Ft (sq A' xs fnd B w1) a n c) (λ b=>S b\/b=A'.a) w p' F q' t' w' l g:=by
 have⟨ay,r,am⟩:=Yd A w ps H I;obtain⟨N,ad,au,w1,ao,ap,an,B,aa,av,e3,⟨A',Q,R,T,U,rfl,v⟩,W,Z,X,aq,P,O,ar⟩:=UY (B0:=w.heap.size) (S:=S) r _ ps E _ w sl t q (eQ _) h0 ah V (gI.c V.seen _) aj H am;have⟨K,L⟩:=ag A' B w1 Q R T U v O;have ok:=XN K L;have J:∀x,w.heap.size+3<=x->x≠A'.e->x≠A'.d->¬B.a x:=λ x G ae af ak=>by rcases(v.b x).1 ak with y|y|y|y|y|y;have:=H x y;omega;have:=v.c.1;omega;have:=v.c.2.1;omega;have:=v.c.2.2.1;omega;exact ae y;exact af y
 have aw:=v.r;have ax:=v.c;have D:=v.m;have C:Cx (Ft (sq A' xs fnd B w1) a n c) S w B ad an ap w1:={
   y:= ⟨_,e3,Yq A'⟩
   r:=W
   h:=Z
   f:=X
   p:=λ b C=>by rcases(v.j b).1 C with y|y;exact(v.b b).2 (.inl (I b y));exact(v.b b).2 (.inr y)
   m:=λ b C=> ⟨O b C,λ al=>(P b al).2 C⟩
   l:=λ b C=>(P b C).1
   d:= ⟨by show w.heap.size<=A'.a;omega,by show w.heap.size<=A'.b;omega,by show w.heap.size<=A'.c;omega⟩
   c:= ⟨J A'.a (by omega) (by omega) (by omega),J A'.b (by omega) (Ne.symm D.2.2.1) (Ne.symm D.2.2.2.2.1),J A'.c (by omega) (Ne.symm D.2.2.2.1) (Ne.symm D.2.2.2.2.2)⟩
   i:= ⟨D.1,by show A'.a≠A'.b;omega,by show A'.a≠A'.c;omega⟩
   s:=λ x G=>G
   z:=λ x G=> .inl (by show B.a x;rcases(v.j x).1 G with y|y;exact(v.b x).2 (.inl (I x y));exact(v.b x).2 (.inr y))
   u:=v.u
   k:=v.i
   j:=v.h
   o:=λ x _=>rfl
   e:= ⟨v.e,v.g,v.d.1,v.d.2.1,v.d.2.2⟩};have⟨Y,F,w',M,t',q',p',l,g,ab,ac⟩:=dY.I ok C ao
 haveI:aW:= ⟨0,λ _=>true,λ _ _=>False,λ _ _ _ h=>h.elim⟩;exact⟨N+Y,F,w',M,t',q',p',l,g,A',B,w1,zA aa ab,Q,R,T,U,v,ac⟩
section
variable {fs:Array np} {f:FuncId} {fn:np} {P:ef}
def uK:Func:={name:= "x",origin:= "",params:= #[],resultTypes:= #[],nfree:=0,ntmps:=0,results:= #[],body:=none,norace:=false,tmpNames:= #[]}
theorem Zt:(hh uK).isNone=true:=by kernel_rfl
theorem Xx:(hU uK).isNone=true:=by kernel_rfl
theorem IP:(uK.name== "runtime.NumGoroutine")=false:=by decide
theorem Ha(h:fs[f]?=some uK)(args:Array cr)(v:df):∃x v2,(callFunc f args).run (lp P fs) v= .halt x v2/\BH v v2 x:=by
 refine⟨.unsupported (.extern "x"),v,?_,rfl,id⟩;show(match fs[f]? with|none=>_|some fn=>_:Sem Next).run (lp P fs) v=_;rw[h];have a:=dr.1 Zt;have b:=dr.1 Xx;simp only[IP,a,b];rfl
def BE(fn:np):Bool:=(fn.name== "internal/bytealg.IndexByteString" ||fn.name== "internal/bytealg.CountString")&&fn.origin== ""
theorem aaU:(Extern.allNextRows.lookup "internal/bytealg.IndexByteString").isNone=true:=by kernel_rfl
theorem afq:(Extern.allNextRows.lookup "internal/bytealg.CountString").isNone=true:=by kernel_rfl
theorem GX:(Extern.allNextRows.lookup "").isNone=true:=by kernel_rfl
theorem Vp:(Extern.allGenericRows.lookup "internal/bytealg.IndexByteString").isNone=true:=by kernel_rfl
theorem ZS:(Extern.allGenericRows.lookup "internal/bytealg.CountString").isNone=true:=by kernel_rfl
theorem Xj:(Extern.allTypedRows.lookup "internal/bytealg.IndexByteString").isNone=true:=by kernel_rfl
theorem ag3:(Extern.allTypedRows.lookup "internal/bytealg.CountString").isNone=true:=by kernel_rfl
theorem acG:Extern.allRows.lookup "internal/bytealg.IndexByteString" =some Extern.BytealgIndexByte.indexByte:=by kernel_rfl
theorem aiC:Extern.allRows.lookup "internal/bytealg.CountString" =some Extern.BytealgCount.count:=by kernel_rfl
def BF(fn:np):Bool:=fn.name== "internal/bytealg.IndexString" &&fn.origin== ""
theorem YT:(Extern.allNextRows.lookup "internal/bytealg.IndexString").isNone=true:=by kernel_rfl
theorem aa9:(Extern.allGenericRows.lookup "internal/bytealg.IndexString").isNone=true:=by kernel_rfl
theorem Vy:(Extern.allTypedRows.lookup "internal/bytealg.IndexString").isNone=true:=by kernel_rfl
theorem aaF:Extern.allRows.lookup "internal/bytealg.IndexString" =some Extern.BytealgIndex.index:=by kernel_rfl
theorem Vf[aW][Gl](j:∀g,g<P.globals.size->Gl.a g=true)(h:fs[f]?=some fn)(i:P.funcs[f]?=some fn)(k:fn.body.isNone=true)(b:BF fn=true):(fn.name== "runtime.NumGoroutine")=false/\wa P fs f:=by
 unfold BF at b;simp only[ee,beq_iff_eq]at b;obtain⟨a,c⟩:=b;have d:(fn.name== "runtime.NumGoroutine")=false:=by rw[a];decide
 refine⟨d,IQ (e:=lk) h i d k ?_ ?_ λ _ _ _ _ l=>aby j l⟩
 ·simp only[hh,a,c,dr.1 YT,dr.1 GX];rfl
 ·simp only[hU,a,c,dr.1 aa9,dr.1 Vy,aaF];rfl
theorem afv[aW][Gl](h:fs[f]?=some fn)(i:P.funcs[f]?=some fn)(j:fn.body.isNone=true)(d:BE fn=true):(fn.name== "runtime.NumGoroutine")=false/\wa P fs f:=by
 unfold BE at d;simp only[ee,iA,beq_iff_eq]at d;obtain⟨a|a,c⟩:=d
 ·have b:(fn.name== "runtime.NumGoroutine")=false:=by rw[a];decide
  refine⟨b,IQ (e:=kq) h i b j ?_ ?_ λ _ _ _ _ g=>aan g⟩
  ·simp only[hh,a,c,dr.1 aaU,dr.1 GX];rfl
  ·simp only[hU,a,c,dr.1 Vp,dr.1 Xj,acG];rfl
 ·have b:(fn.name== "runtime.NumGoroutine")=false:=by rw[a];decide
  refine⟨b,IQ (e:=lf) h i b j ?_ ?_ λ _ _ _ _ g=>YV g⟩
  ·simp only[hh,a,c,dr.1 afq,dr.1 GX];rfl
  ·simp only[hU,a,c,dr.1 ZS,dr.1 ag3,aiC];rfl
def kx(G:Gl)(fn:np):=match fn.body with|some c=> @cK _ G TP TP 30 c&&!(fn.name== "runtime.NumGoroutine")|none=>BE fn|| (BF fn&& (k4 TP.globals.size).all G.a)
theorem R7[aW][G:Gl](e:P.globals=TP.globals)(h:fs[f]?=some fn)(b:P.funcs[f]?=some fn)(c:fn.body.isNone=true)(a:(BE fn|| (BF fn&& (k4 TP.globals.size).all G.a))=true):
 (fn.name== "runtime.NumGoroutine")=false/\wa P fs f:=by
 rw[iA,ee,hY]at a;rcases a with a| ⟨a,d⟩
 ·exact afv h b c a
 ·exact Vf (λ g i=>d g (List.mem_range.2 (by rw[<-e];exact i))) h b c a
abbrev tf(fn:np):=kx I9 fn
theorem ag8{G b:Gl}(h:∀g,G.a g=true->b.a g=true)(a:kx G fn=true):kx b fn=true:=by
 unfold kx at a⊢;split at a
 ·simp only[ee]at a⊢;exact⟨sU h _ a.1,a.2⟩
 ·rw[iA,ee,hY]at a⊢;exact a.imp id λ⟨c,d⟩=> ⟨c,λ g e=>h g (d g e)⟩
theorem Ns[aW][G:Gl]{nx:FuncId->Bool}(a:kx G fn=true)(h:fs[f]?=some fn)(h1:TP.funcs[f]?=some fn):
 (
  fn.name== "runtime.NumGoroutine")=false/\((fn.body.isNone=true/\((∀args v,∃x v2,(callFunc f args).run (lp TP fs) v= .halt x v2/\BH v v2 x)\/wa TP fs f))\/
  (fn.body.isNone=false/\∃b,TP.funcs[f]?=some b/\(b.name== "runtime.NumGoroutine")=false/\b.body.isNone=false/\(nx f=true\/b=fn))):=by
 unfold kx at a;split at a
 ·rename_i c d;simp only[ee,Bool.not_eq_true']at a;exact⟨a.2,.inr ⟨by rw[d];rfl,fn,h1,a.2,by rw[d];rfl,.inr rfl⟩⟩
 ·rename_i d;have e:fn.body.isNone=true:=by rw[d];rfl
  obtain⟨g,i⟩:=R7 rfl h h1 e a;exact⟨g,.inl ⟨e,.inr i⟩⟩
def sJ:=TP.funcs.map λ fn=>if tf fn=true then fn else uK
structure FS where
 d:Array np
 c:∀(i:Nat)fn,TP.funcs[i]?=some fn->tf fn=true->i≠147->d[i]?=some fn
abbrev FS.Q(X:FS):=lp TP X.d
theorem FS.a(X:FS){i:Nat}{fn:np}(h:TP.funcs[i]?=some fn)(b:tf fn=true)(a:i≠147):X.Q.funcs[i]?=some fn:=X.c i fn h b a
theorem YQ:TP.follows .mixedOrders=true:=by kernel_rfl
theorem FS.b(X:FS):X.Q.follows .mixedOrders=true:=YQ
def DN:FS:= ⟨sJ,λ i fn h a _=>by unfold sJ;rw[en,h];simp[a]⟩
@[reducible] def oT[Gl](c:Nat->cr->Prop)(h:∀r a b,c r a->c r b->a=b):aW:= ⟨TP.globals.size,cK TP TP 30,c,h⟩
def CR:dC:= ⟨TP,sJ,λ _=>false,30⟩
theorem Fl[aW][Gl]:nC TP:=ahU (n:=40) (by kernel_rfl)
theorem aat[aW]:sO TP sJ λ _=>false:=by intro f c h;have h0:=h;unfold sJ at h;rw[en]at h;obtain⟨fn,b,rfl⟩:=eH.1 h;cases a:tf fn with
 |false=>rw[a]at h0;exact⟨IP,.inl ⟨rfl,.inl λ args v=>Ha h0 args v⟩⟩|true=>simp only[a,if_true]at h0⊢;exact Ns (nx:=λ _=>false) a h0 b
theorem Gx{j:Nat->cr->Prop}{h:∀r a b,j r a->j r b->a=b}: @dC.a (oT j h) Bf I9 CR:=by
 letI:=oT j h
 refine⟨Fl,rfl,aat,λ c=>(jG c).symm,λ f fn c i _ k=>?_⟩
 ·show cK (lp TP sJ) TP 30 c=true;rw[jG];have i:sJ[f]?=some fn:=i;unfold sJ at i;rw[en]at i;obtain⟨g,l,d⟩:=eH.1 i;cases e:tf g with
  |false=>rw[e]at d;simp at d;rw[<-d]at k;cases k
  |true=>
   rw[e]at d;simp at d;subst d;unfold tf kx at e;rw[k]at e;simp only[ee]at e;exact e.1
end
section
variable {P:ef}
abbrev pO:=Nat->Option (Array cr×Bool)
def AE(q:Option (Array cr×Bool))(o:Obj):Obj:=match q,o with
 |some (cs,true),.cells _ ty _=> .cells cs ty (0,cs.size)
 |some (cs,false),.cells _ ty fr=> .cells cs ty fr
 |_,_=> .cells #[] 0 (0,0)
def jD(w:df)(Nd:pO):World:={w with heap:=w.heap.mapIdx λ i o=>AE (Nd i) o}
theorem ue(w:df)(Nd:pO):(jD w Nd).heap.size=w.heap.size:=by simp[jD]
theorem ES{w:df}{Nd:pO}{r:Nat}{o:Obj}(h:w.heap[r]?=some o):(jD w Nd).heap[r]?=some (AE (Nd r) o):=by
 simp[jD,h]
variable[aW]
def jI(Nd:pO):ah where
 h:=λ r a=>r=a/\(Nd r).isSome=true
 f:=λ r a b h k=>h.1.symm.trans k.1
 e:=λ r s a h k=>h.1.trans k.1.symm
 d:=λ r a h=>by omega
 c:=λ g h=>by cases h
def jq(Nd:pO)(n:Nat)(r:Nat):Bool:=match Nd r with|some (_,true)=>decide (r<n)|_=>false
structure wo(Nd:pO)(p:ai)(w:df):Prop where
 c:∀r cs d,Nd r=some (cs,d)->p.a r/\(d=false->p.b r)
 b:∀r cs d,Nd r=some (cs,d)->∃cs' ty fr,w.heap[r]?=some (.cells cs' ty fr)/\AV (jI Nd) cs cs'
 a:aW.n<=w.heap.size
variable{Nd:pO}{p:ai}{w:df}
theorem UF(h:wo Nd p w):cw (jq Nd w.heap.size) (jI Nd) (jD w Nd) w:=by
 refine⟨λ r a f=>?_,λ r f=>?_,by rw[ue];exact⟨h.a,h.a⟩⟩
 ·obtain⟨rfl,g⟩:=f;obtain⟨⟨cs,d⟩,c⟩:=eg.1 g;obtain⟨cs',ty,fr,b,e⟩:=h.b r cs d c;have i:=(eb.1 b).1;refine⟨_,_,ES b,b,?_⟩;rw[c];cases d with
  |true=>
   have:jq Nd w.heap.size r=true:=by grind[jq]
   rw[this];exact .qb _ _ e
  |false=>
   have:jq Nd w.heap.size r=false:=by simp[jq,c]
   rw[this];exact .jM _ _ e
 grind[jq,ue]
theorem aiX(Nd:pO)(w:df):Hd (jD w Nd):=by
 intro r o a;have b:r<w.heap.size:=by grind[ue,eb]
 rw[ES (eo b)]at a;cases a;have:∃cs ty fr,AE (Nd r) w.heap[r]= .cells cs ty fr:=by
  unfold AE;split<;>exact⟨_,_,_,rfl⟩
 obtain⟨cs,ty,fr,e⟩:=this;rw[e];exact⟨by grind,rfl⟩
theorem du.h{main:Bool}{Stop:ai->b2->df->Prop}{n:Nat}:∀{r:dI}{p:ai}{g:b2}{w:df},du P main Stop r p g w->n<=w.heap.size->du P main (λ p g w=>Stop p g w/\n<=w.heap.size) r p g w:=by
 intro r
 induction r with
 |eM=>exact λ h i w1 e=> ⟨h _ e,hy i e.b⟩
 |mk f k=>
  intro p g w h i;rcases h with h| ⟨j,h⟩
  ·exact .inl λ w1 e=> ⟨h _ e,hy i e.b⟩
  ·refine .inr ⟨j,λ w1 e=>?_⟩;obtain⟨g',w',es,p',a,b,c,d⟩:=h w1 e;exact⟨_,_,_,_,a,b,c,k _ d (hy i (hy e.b c.b))⟩
theorem ey.r{p p' e:ai}{w w':df}{es:Array ma}(h:ey p p' w w' es):ey (p.d e) (p'.d e) w w' es:=
 {
  b:=h.b
  f:=λ a g l=>h.f a g λ x=>l (.inl x)
  i:=λ a g=>g.elim (λ x=>(h.i a x).imp .inl id) λ x=> .inl (.inr x)
  k:=λ a g=>g.elim (λ x=>(h.k a x).imp .inl id) λ x=> .inl (.inr x)
  j:=λ a g=>g.imp (h.j a) id
  o:=λ a g=>g.imp (h.o a) id
  n:=λ a l g=>g.elim (λ x=> .inl (h.n a (λ y=>l (.inl y)) x)) λ x=>(l (.inr x)).elim
  d:=λ v q=>(h.d v q).b
  m:=h.m
  c:=h.c
  h:=h.h}
theorem du.e{main:Bool}{Stop:ai->b2->df->Prop}{e:ai}:∀{r:dI}{p:ai}{g:b2}{w:df},du P main Stop r p g w->du P main (λ p' g w=>∃q,p'=q.d e/\Stop q g w) r (p.d e) g w:=by
 intro r
 induction r with
 |eM=>exact λ h w1 i=> ⟨_,rfl,h _ i.g⟩
 |mk f k=>
  intro p g w h;rcases h with h| ⟨j,h⟩
  ·exact .inl λ w1 i=> ⟨_,rfl,h _ i.g⟩
  ·refine .inr ⟨j,λ w1 i=>?_⟩;obtain⟨g',w',es,p',a,b,c,d⟩:=h w1 i.g;exact⟨_,_,_,_,a,b,c.r,k _ d⟩
structure aed(X:cS)(Nd:pO)(b:lB)(Post:mx->df->Prop)(p:ai)(w:df)(p':ai)(g:b2)(w2:df)(n:ah)(v2:df)(a':mx)(fr2:lB):Prop where
 f:∀a,p'.a a↔p.a a\/∃r,n r a
 k:∀a,p'.b a↔p.b a\/∃r,n r a/\jq Nd w.heap.size r=false
 j:g=G0 fr2 X.g
 e:cw (jq Nd w.heap.size) n v2 w2
 l:bF (jI Nd) n
 h:∀r a,n r a->(r=a/\(Nd r).isSome=true)\/(w.heap.size<=r/\w.heap.size<=a)
 i:∀a,p.a a->a<w.heap.size->¬(∃cs,Nd a=some (cs,false))->w2.heap[a]?=w.heap[a]?
 m:w.heap.size<=w2.heap.size
 c:GF CR n X.a X.d X.e X.f (b.at a' X.a) fr2
 d:∃T D,Post a' (v2.tp T D)
theorem HD(z:CR.a){X}(I:X.b){why}(M:X.a= [.code (.refuse why)]){b fr' a c}(P:b.roundOf=none){Post} (t:wo Nd p w) (L:GF CR (jI Nd) X.a X.d X.e X.f (b.at a (.code c::X.a)) fr') (S:∀T,c.wp CR.Q (λ e a' w'=>e= .normal/\Post a' w') a ((jD w Nd).tp T 0)) (m2):bG TP m2 p (G0 fr' X.g) w (λ p' g w2=>∃u v2 a' fr2,aed X Nd b Post p w p' g w2 u v2 a' fr2):=by
 refine⟨rfl,?_⟩;let F:=jq Nd w.heap.size;let own:Nat->Prop:=λ a=>∃cs,Nd a=some (cs,false);let e:ai:= ⟨λ a=>p.a a/\a<w.heap.size/\¬own a,λ a=>p.b a/\p.a a/\a<w.heap.size/\¬own a⟩;have⟨r,R⟩:=Xa z I M (λ _=>rfl) P (UF t) (aiX Nd w) L S m2;have Y:∀a,F a=false->(Nd a).isSome=true->a<w.heap.size->own a:=λ a v h2 aa=>by have⟨⟨cs,s⟩,n⟩:=eg.1 h2;cases s with|false=>grind|true=>
   grind[jq]
 have ab:∀a,own a->F a=false/\(Nd a).isSome=true:=λ a⟨cs,n⟩=> ⟨by grind[jq],by grind⟩;have ac:∀a,(Nd a).isSome=true->p.a a:=λ a h=>by have⟨⟨cs,s⟩,n⟩:=eg.1 h;exact(t.c a _ _ n).1
 have ad:∀a,own a->p.b a:=λ a⟨cs,n⟩=>(t.c a cs false n).2 rfl;have Z:∀a,(Nd a).isSome=true->a<w.heap.size:=λ a h=>by have⟨⟨cs,s⟩,n⟩:=eg.1 h;have⟨cs',ty,fr,v,_⟩:=t.b a cs s n;grind
 have h0:((j7 F (jI Nd)).d e).d p=p:=by
  have key:∀a,(((j7 F (jI Nd)).d e).d p).a a↔p.a a:=λ a=>by
   constructor
   ·rintro((⟨r,o,h⟩|h)|h)
    all_goals grind
   ·exact .inr
  have U:∀a,(((j7 F (jI Nd)).d e).d p).b a↔p.b a:=λ a=>by
   constructor
   ·rintro((⟨r,⟨o,h⟩,K⟩|h)|h)
    all_goals grind
   ·exact .inr
  generalize ((j7 F (jI Nd)).d e).d p=V at key U;have⟨ae,ag⟩:=p;have⟨af,ah⟩:=V
  grind[ai.mk.injEq]
 have J:uz e (j7 F (jI Nd)) w w:= ⟨λ _ _=>rfl,λ a h=>h.2.1,λ a h⟨r,⟨o,h2⟩,x⟩=>h.2.2 (by grind)⟩;have y:=((R.h (eQ _)).g (e:=e) (λ a h=> ⟨h.2.1,h.2.2.1,h.2.2.2⟩) J).e (e:=p);rw[h0]at y;refine⟨r,y.a ?_⟩;rintro p' g w2⟨aj,rfl,q,rfl,⟨⟨u,v2,a',fr2,o,B,C,W,D,E,G,H⟩,Q⟩,A⟩;subst o;have N:∀r a,u r a->(r=a/\(Nd r).isSome=true)\/(w.heap.size<=r/\w.heap.size<=a):=λ r a O=>by
  rcases E r a O with h|h
  exact .inl h
  grind[ue]
 refine⟨u,v2,a',fr2,{f:=λ a=>?_,k:=λ a=>?_,j:=B,e:=C,l:=D,h:=N,i:=λ a v h2 x=>A.b a ⟨v,h2,x⟩,m:=Q,c:=G,d:=H}⟩
 ·constructor
  ·rintro((h|h)|h)
   exact .inr h
   all_goals grind
  ·rintro(h|h)
   exact .inr h;exact .inl (.inl h)
 ·constructor
  ·rintro((⟨r,h,K⟩|h)|h)
   all_goals grind
  ·rintro(h|h)
   exact .inr h;exact .inl (.inl h)
end
end Go.Rs
