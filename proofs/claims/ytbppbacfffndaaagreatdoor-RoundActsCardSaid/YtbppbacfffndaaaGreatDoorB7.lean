/- Part of a proof that the statement holds. No conditions. -/
import Derived.Conc.LeavingOf
import Derived.Shelf.Slices.Clone
import Derived.Shelf.Strings.Search2
import Derived.Shelf.Strings.Count
import Derived.Test.YtbppbacfffndaaaGreatDoorB6
set_option linter.all false
set_option maxRecDepth 100000
open List renaming length->b2,getElem?_eq_some_iff->ee,getElem?_eq_getElem->eg,getElem?_take->en,getElem?_drop->eL,append_nil->fV,mem_cons->gf,mem_cons_of_mem->gE,pairwise_cons->hz,size_toArray->hA,mem_flatMap->hG,ext_getElem?->hS,getElem?_eq_none->jA,length_append->kk,flatMap_cons->kH,not_mem_nil->lH,range->ml,drop_eq_getElem_cons->mm,length_eq_zero_iff->ng,getElem?_toArray->nL,mem_of_getElem?->nY,getElem?_of_mem->nZ,map_singleton->n9,mem_singleton->oh,append_assoc->oj,length_cons->o0,nodup_cons->o6,Pairwise->pS,mem_map->p5
open Array renaming getElem?_eq_some_iff->ea,getElem?_toList->ei,replicate->ep,getElem?_eq_getElem->ev,getElem?_setIfInBounds_ne->eV,getD_eq_getD_getElem?->fb,mapM_eq_mapM_toList->fl,getElem?_map->fz,getElem?_append_left->hN,getElem?_push->j2,toList_inj->lv,getElem?_extract->mH,getElem?_eq_none->nc,getElem?_append->nv,getElem_toList->nz,size_push->oV
open Go renaming Value->eb,World->ef,Frame->eH,Act->fu,Program->fv,execOp->fR,undef->hh,results->hJ,eqGuard->hU,Operand->ih,binOp->j1,Addr->k9,stepG->lB,yielded->l4,Obj->mn,unwind->mo,cell_of_row->mv,wpIn_region->mA,lone->nb,Oper->ny,TypeId->nB,loadCellsFrom->n1,runN->n4,callsIn_wide->oH,typeInfo->o3,Deferred->o4,Question->o5,run_underlying->o8,wpIn_seq->o9,Code->pt,wpOps_cons->pv,Item->pN,IntKind->qn,Calls->q3,Sem->rH,Func->sr,maxLen->sv,sizeOf->sA,run_append_nil->sB,size_zeroCells->sE,doReturn->s0,callsIn_of_wp->s8
open Go.Sem renaming run_bind->ej,runT_fst->hP,run->l9
open Go.Value.bool renaming inj->eo
open Option renaming bind_some->et,getD_some->gw,map_some->hY,map_eq_some_iff->mr
open Nat renaming le_refl->ez,eq_of_beq_eq_true->gg,beq->hq,le_trans->hB,zero_le->hL,lt_of_lt_of_le->hR,lt_or_ge->jc,zero_add->lk,sub_mul->n2,mul_le_mul_right->n5,mod_lt->ov,mul_one->so
open Option.some renaming inj->eQ
open Go.IntKind renaming wrap->fx
open Go.Instr renaming takeDeferred->fH,storeAt->j3,indexAt->pc,sliceAt->pk,loadAt->pH,index->qq,alloc->qF
open Go.Builtin renaming zeroCells->gb,append_->lf,firstCells->nH,lenOf->oL,len_->o2
open Go.GStep renaming after->gl
open Go.Region renaming wanted->hg
open Bool renaming false_eq_true->hy,and_eq_true->hF
open Go.Act renaming put->hD,eval->hQ
open Go.Proofs.Tryz renaming func184->hM,func133->kR,func160->kV,func216->k3,func217->k4,func233->k5,func214->k6,func234->k7,func215->k8,f166->p8,func166->qi,func185->q6,func158->q7,func186->q8,func159->q9,func156->re,func145->rm,func115->rr,f156->s5
open Go.RowKit renaming Below->hZ
open Go.Next renaming value->iA
open Go.stepG renaming exec->kg,oper->rL
open Go.Result renaming andThen_ok->kn
open Go.Goroutine renaming frame->kp
open Go.World renaming putObj->kq,putObj_heap_other->mx
open Go.Operand renaming tmp->kL,func->o1
open Int renaming toNat_natCast->lb
open List.Perm renaming refl->lA
open Go.Cell renaming okWide->lL,ok->q0
open Classical renaming axiomOfChoice->lV
open Go.Oper renaming upon_value->l1,wp->p6
open Go.Value renaming func->l7,okWide->nf,agg->sf
open Pure renaming pure->ma
open Go.GStep.go renaming inj->mb
open Go.Obj renaming cells->np
open Go.OpenSpec renaming ofChange->nV
open Go.Conc renaming G->n3,stepG_value->o7,crowd->qW
open Go.DataW renaming TrodAll->pn
open Go.Proofs renaming sortWorldK->pz
open Go.RowKit.Below renaming refl->pV
open Go.Proofs.Lays2 renaming n15->p1
open Go.Sort renaming flatK->p7,ahead->sc,putCells->sy
open Go.Frame renaming oper?->qz
open Go.Addr renaming add_mid->qO,add->s6
open Go.Proofs.Lays renaming n138->q4,n219->q5
open List.Pairwise renaming nil->rV
open Go.Fence renaming wide->r1
open Go.Proofs.Any renaming slices_Clone_int->r3,slices_Clone_int_nil->r4,slices_Clone_int_zero->r5,strings_Count_one->r8,stringslite_Index_one->r9
open Go.DataW.Whole renaming of_heap->s4
open Go.ChangeSpec renaming post_blind->s7
namespace Go.Rs
open Go.ChangeShapes Go.Conc Go.Proofs Go.RowKit Go.Sort Go.WideShapes
section
variable {fn:sr} {f i:Nat} {nm:Nat->eb->Prop}
noncomputable def Si:Code:=(.seq (.region 200 #[⟨some 30,.field 138 (.tmp 0) 0,0,"x",#[],none⟩,⟨some 31,.field 25 (.tmp 30) 0,0,"x",#[],none⟩,⟨some 32,.field 25 (.tmp 30) 1,0,"x",#[],none⟩,⟨some 27,.indexAddr 22 (.tmp 31) (.const (.int .i64 0)),0,"x",#[],none⟩,⟨some 28,.indexAddr 23 (.tmp 32) (.const (.int .i64 0)),0,"x",#[],none⟩,⟨some 29,.indexAddr 191 (.tmp 1) (.const (.int .i64 0)),0,"x",#[],none⟩,⟨some 33,.call {callee:= .builtin .len,args:= #[(.tmp 31)],argTypes:= #[22]},3,"x",#[],none⟩,⟨some 34,.call {callee:= .builtin .len,args:= #[(.tmp 32)],argTypes:= #[23]},3,"x",#[],none⟩,⟨some 35,.call {callee:= .builtin .len,args:= #[(.tmp 1)],argTypes:= #[191]},3,"x",#[],none⟩,⟨some 36,.binOp .lss 3 (.tmp 2) (.const (.int .i64 0)) 3,0,"x",#[],none⟩,⟨some 37,.binOp .lss 3 (.tmp 33) (.const (.int .i64 7)) 3,0,"x",#[],none⟩,⟨some 38,.binOp .lss 3 (.const (.int .i64 0)) (.tmp 33) 3,0,"x",#[],none⟩,⟨some 39,.binOp .lss 3 (.tmp 34) (.const (.int .i64 1000000)) 3,0,"x",#[],none⟩,⟨some 40,.binOp .lss 3 (.const (.int .i64 0)) (.tmp 34) 3,0,"x",#[],none⟩,⟨some 41,.binOp .lss 3 (.tmp 35) (.const (.int .i64 1000000)) 3,0,"x",#[],none⟩,⟨some 42,.binOp .lss 3 (.const (.int .i64 0)) (.tmp 35) 3,0,"x",#[],none⟩,⟨some 56,.slice 22 (.tmp 31) none (some (.tmp 33)) none,22,"x",#[],none⟩,⟨some 57,.slice 23 (.tmp 32) none (some (.tmp 34)) none,23,"x",#[],none⟩,⟨some 58,.slice 191 (.tmp 1) none (some (.tmp 35)) none,191,"x",#[],none⟩] false) (.seq (.cond (.tmp 37) .skip (.refuse "x")) (.seq (.cond (.tmp 38) .skip (.refuse "x")) (.seq (.cond (.tmp 39) .skip (.refuse "x")) (.seq (.cond (.tmp 40) .skip (.refuse "x")) (.seq (.cond (.tmp 41) .skip (.refuse "x")) (.cond (.tmp 42) .skip (.refuse "x"))))))))
noncomputable def XF:Code:=(.seq (.region 210 #[⟨some 43,.move (.const (.int .i64 0)),0,"x",#[],none⟩] false) (.block 210 (.loop (.seq (.region 211 #[⟨some 44,.binOp .lss 3 (.tmp 43) (.tmp 33) 3,0,"x",#[],none⟩] false) (.seq (.cond (.tmp 44) .skip (.exit 210)) (.region 212 #[⟨some 45,.indexAddr 22 (.tmp 31) (.tmp 43),0,"x",#[],none⟩,⟨some 46,.load 136 (.tmp 45),0,"x",#[],none⟩,⟨some 62,.field 136 (.tmp 46) 0,0,"x",#[],none⟩,⟨some 63,.binOp .eql 9 (.tmp 62) (.const (.string ⟨⟨[]⟩⟩)) 9,0,"x",#[],none⟩,⟨some 62,.field 136 (.tmp 46) 1,0,"x",#[],none⟩,⟨some 63,.binOp .lss 3 (.tmp 62) (.const (.int .i64 0)) 3,0,"x",#[],none⟩,⟨some 47,.binOp .add 3 (.tmp 43) (.const (.int .i64 1)) 3,0,"x",#[],none⟩,⟨some 43,.move (.tmp 47),0,"x",#[],none⟩] false))))))
noncomputable def lnH:Code:=(.seq (.region 220 #[⟨some 43,.move (.const (.int .i64 0)),0,"x",#[],none⟩] false) (.block 220 (.loop (.seq (.region 221 #[⟨some 44,.binOp .lss 3 (.tmp 43) (.tmp 34) 3,0,"x",#[],none⟩] false) (.seq (.cond (.tmp 44) .skip (.exit 220)) (.seq (.region 222 #[⟨some 45,.indexAddr 23 (.tmp 32) (.tmp 43),0,"x",#[],none⟩,⟨some 46,.load 168 (.tmp 45),0,"x",#[],none⟩,⟨some 62,.index 168 (.tmp 46) (.const (.int .i64 0)),0,"x",#[],none⟩,⟨some 63,.binOp .lss 3 (.tmp 62) (.const (.int .i64 0)) 3,0,"x",#[],none⟩,⟨some 62,.index 168 (.tmp 46) (.const (.int .i64 1)),0,"x",#[],none⟩,⟨some 63,.binOp .lss 3 (.tmp 62) (.const (.int .i64 0)) 3,0,"x",#[],none⟩,⟨some 48,.index 168 (.tmp 46) (.const (.int .i64 0)),0,"x",#[],none⟩,⟨some 49,.index 168 (.tmp 46) (.const (.int .i64 1)),0,"x",#[],none⟩,⟨some 52,.binOp .neq 3 (.tmp 48) (.tmp 49) 3,0,"x",#[],none⟩] false) (.seq (.cond (.tmp 52) .skip (.refuse "x")) (.region 223 #[⟨some 47,.binOp .add 3 (.tmp 43) (.const (.int .i64 1)) 3,0,"x",#[],none⟩,⟨some 43,.move (.tmp 47),0,"x",#[],none⟩] false))))))))
noncomputable def lnL:Code:=(.seq (.region 230 #[⟨some 43,.move (.const (.int .i64 0)),0,"x",#[],none⟩] false) (.block 230 (.loop (.seq (.region 231 #[⟨some 44,.binOp .lss 3 (.tmp 43) (.tmp 35) 3,0,"x",#[],none⟩] false) (.seq (.cond (.tmp 44) .skip (.exit 230)) (.region 232 #[⟨some 45,.indexAddr 191 (.tmp 1) (.tmp 43),0,"x",#[],none⟩,⟨some 46,.load 149 (.tmp 45),0,"x",#[],none⟩,⟨some 53,.field 149 (.tmp 46) 0,0,"x",#[],none⟩,⟨some 54,.field 149 (.tmp 46) 1,0,"x",#[],none⟩,⟨some 62,.index 147 (.tmp 53) (.const (.int .i64 0)),0,"x",#[],none⟩,⟨some 63,.binOp .lss 3 (.tmp 62) (.const (.int .i64 0)) 3,0,"x",#[],none⟩,⟨some 62,.index 147 (.tmp 53) (.const (.int .i64 1)),0,"x",#[],none⟩,⟨some 63,.binOp .lss 3 (.tmp 62) (.const (.int .i64 0)) 3,0,"x",#[],none⟩,⟨some 62,.index 147 (.tmp 53) (.const (.int .i64 2)),0,"x",#[],none⟩,⟨some 63,.binOp .lss 3 (.tmp 62) (.const (.int .i64 0)) 3,0,"x",#[],none⟩,⟨some 62,.index 147 (.tmp 53) (.const (.int .i64 3)),0,"x",#[],none⟩,⟨some 63,.binOp .lss 3 (.tmp 62) (.const (.int .i64 0)) 3,0,"x",#[],none⟩,⟨some 62,.index 147 (.tmp 53) (.const (.int .i64 4)),0,"x",#[],none⟩,⟨some 63,.binOp .lss 3 (.tmp 62) (.const (.int .i64 0)) 3,0,"x",#[],none⟩,⟨some 62,.index 147 (.tmp 53) (.const (.int .i64 5)),0,"x",#[],none⟩,⟨some 63,.binOp .lss 3 (.tmp 62) (.const (.int .i64 0)) 3,0,"x",#[],none⟩,⟨some 62,.index 147 (.tmp 54) (.const (.int .i64 0)),0,"x",#[],none⟩,⟨some 63,.binOp .lss 3 (.tmp 62) (.const (.int .i64 0)) 3,0,"x",#[],none⟩,⟨some 62,.index 147 (.tmp 54) (.const (.int .i64 1)),0,"x",#[],none⟩,⟨some 63,.binOp .lss 3 (.tmp 62) (.const (.int .i64 0)) 3,0,"x",#[],none⟩,⟨some 62,.index 147 (.tmp 54) (.const (.int .i64 2)),0,"x",#[],none⟩,⟨some 63,.binOp .lss 3 (.tmp 62) (.const (.int .i64 0)) 3,0,"x",#[],none⟩,⟨some 62,.index 147 (.tmp 54) (.const (.int .i64 3)),0,"x",#[],none⟩,⟨some 63,.binOp .lss 3 (.tmp 62) (.const (.int .i64 0)) 3,0,"x",#[],none⟩,⟨some 62,.index 147 (.tmp 54) (.const (.int .i64 4)),0,"x",#[],none⟩,⟨some 63,.binOp .lss 3 (.tmp 62) (.const (.int .i64 0)) 3,0,"x",#[],none⟩,⟨some 62,.index 147 (.tmp 54) (.const (.int .i64 5)),0,"x",#[],none⟩,⟨some 63,.binOp .lss 3 (.tmp 62) (.const (.int .i64 0)) 3,0,"x",#[],none⟩,⟨some 47,.binOp .add 3 (.tmp 43) (.const (.int .i64 1)) 3,0,"x",#[],none⟩,⟨some 43,.move (.tmp 47),0,"x",#[],none⟩] false))))))
noncomputable def Pd:Code:=(.region 239 #[⟨some 59,.alloc 138,0,"x",#[],none⟩,⟨none,.store 138 (.tmp 59) (.tmp 0),0,"x",#[],none⟩] false)
noncomputable def XH:Code:=(.region 240 #[⟨some 40,.move (.tmp 2),0,"x",#[],none⟩,⟨some 2,.box 138 (.tmp 0),0,"x",#[],none⟩,⟨some 3,.box 3 (.tmp 40),0,"x",#[],none⟩,⟨some 6,.alloc 228,0,"x",#[],none⟩] false)
noncomputable def Zh:Code:=(.seq (.region 241 #[⟨some 55,.move (.const (.int .i64 0)),0,"x",#[],none⟩] false) (.block 241 (.loop (.seq (.region 242 #[⟨some 44,.binOp .lss 3 (.tmp 55) (.tmp 35) 3,0,"x",#[],none⟩] false) (.seq (.cond (.tmp 44) .skip (.exit 241)) (.seq (.region 243 #[⟨some 45,.indexAddr 191 (.tmp 1) (.tmp 55),0,"x",#[],none⟩,⟨some 46,.load 149 (.tmp 45),0,"x",#[],none⟩,⟨some 5,.alloc 149,0,"x",#[],none⟩,⟨none,.store 149 (.tmp 5) (.tmp 46),0,"x",#[],none⟩] false) (.seq w5 (.region 244 #[⟨some 47,.binOp .add 3 (.tmp 55) (.const (.int .i64 1)) 3,0,"x",#[],none⟩,⟨some 55,.move (.tmp 47),0,"x",#[],none⟩] false))))))))
noncomputable def ahV:Code:=(.region 245 #[⟨some 48,.load 228 (.tmp 6),228,"x",#[],none⟩] false)
noncomputable def jr:Code:= .seq Si (.seq XF (.seq lnH (.seq lnL (.seq Pd (.seq XH (.seq Zh ahV))))))
noncomputable def Av:Code:= .region 246 #[⟨some 49,.call {callee:= .value (.func 166),args:= #[.tmp 48,.func 167],argTypes:= #[228,257]},0,"x",#[],none⟩] false
noncomputable def rK:Code:= .region 247 #[⟨some 50,.move (.const (.slice none 0 0)),228,"x",#[],none⟩,⟨some 51,.call {callee:= .builtin .append,args:= #[.tmp 50,.tmp 48],argTypes:= #[228,228]},228,"x",#[],none⟩] false
noncomputable def qC:Code:= .seq jr (.seq Av (.seq rK .ret))
noncomputable def kh:Func:={name:= "x",origin:= "",params:= #[138,191,3],resultTypes:= #[228],nfree:=0,ntmps:=64,results:= #[.tmp 51],body:=some qC,norace:=false,tmpNames:= #[]}
noncomputable instance pQ:Gl:= ⟨λ g=>Nat.blt g TP.globals.size⟩
theorem abT:∀g,I9.a g=true->pQ.a g=true:=λ g h=>by cases h
noncomputable def tK:=TP.funcs.map λ fn=>if kx pQ fn=true then fn else uK
noncomputable def jS:=tK.setIfInBounds 147 kh
theorem YR:tK.size=TP.funcs.size:=by simp[tK]
theorem XO:Nat.ble 148 TP.funcs.size=true:=by kernel_rfl
theorem UW:147<TP.funcs.size:=Nat.le_of_ble_eq_true XO
theorem qa:jS[147]?=some kh:=by grind[jS,Array.getElem?_setIfInBounds_self_of_lt,YR,UW]
theorem ze(h:f≠147):jS[f]?=tK[f]?:=by grind[jS,eV]
theorem Jt(h:TP.funcs[i]?=some fn)(b:kx pQ fn=true)(a:i≠147):jS[i]?=some fn:=by grind[ze,tK]
noncomputable def FM:FS:= ⟨jS,λ i fn h b a=>Jt h (ag8 abT b) a⟩
theorem iC(h:TP.funcs[i]?=some fn)(b:kx pQ fn=true)(a:i≠147):FM.Q.funcs[i]?=some fn:=Jt h b a
noncomputable def CM:dC:= ⟨TP,jS,λ f=>hq f 147,30⟩
theorem aiV:TP.funcs[147]?=some Tryz.f147:=rfl
theorem Cz{a}(h:tK[f]?=some a):a=uK\/(TP.funcs[f]?=some a/\kx pQ a=true):=by grind[tK,mr,kx,pQ]
theorem LU(b:kx pQ fn=true){c}(a:fn.body=some c):cK TP TP 30 c=true:=by grind[kx]
theorem ab4[aW]:sO TP jS λ f=>hq f 147:=by
 intro f e h;by_cases b:f=147
 subst b;rw[qa]at h;cases h;exact⟨by decide,.inr ⟨rfl,Tryz.f147,aiV,by kernel_rfl,by kernel_rfl,.inl (by decide)⟩⟩;have a:=h;rw[ze b]at a;rcases Cz a with rfl| ⟨c,d⟩
 exact⟨rfl,.inl ⟨rfl,.inl λ args v=>Ha h args v⟩⟩;exact Ns (nx:=λ f=>hq f 147) d h c
theorem Ko:cK TP TP 30 qC=true:=by kernel_rfl
theorem P4{h}: @dC.a (oT nm h) Bf pQ CM:=by
 letI:=oT nm h;refine⟨Fl,rfl,ab4,λ c=>(jG c).symm,λ f fn c d j i=>?_⟩;show cK (lp TP jS) TP 30 c=true;rw[jG];have d:jS[f]?=some fn:=d;have g:f≠147:=λ e=>by subst e;trivial
 rw[ze g]at d;rcases Cz d with rfl| ⟨_,k⟩
 trivial;grind[LU]
noncomputable def CQ:dC:= ⟨CM.Q,jS,λ _=>false,30⟩
theorem OM{nm h}: @dC.a (oT nm h) Bf pQ CQ:=by
 letI:=oT nm h;have all:∀{f:Nat}{fn:sr}{c:pt},jS[f]?=some fn->fn.body=some c->cK TP TP 30 c=true:=λ{f fn c}d e=>by
  by_cases k:f=147
  subst k;rw[qa]at d;cases d;have e:some qC=some c:=e
  grind[Ko]
  rw[ze k]at d;rcases Cz d with rfl| ⟨_,g⟩
  trivial
  grind[LU]
 refine⟨λ t i z m o=>Fl t i z m o,rfl,λ f l d=>?_,λ c=>?_,λ f fn c d _ e=>?_⟩
 have d:jS[f]?=some l:=d;have j:=d;by_cases k:f=147;subst k;rw[qa]at d;cases d;exact⟨rfl,.inr ⟨rfl,_,j,rfl,rfl,.inr rfl⟩⟩;rw[ze k]at d;rcases Cz d with rfl| ⟨m,g⟩
 exact⟨IP,.inl ⟨rfl,.inl λ args v=>Ha j args v⟩⟩;unfold kx at g;split at g;rename_i c e;simp only[hF,Bool.not_eq_true']at g;exact⟨g.2,.inr ⟨by rw[e];rfl,l,j,g.2,by rw[e];rfl,.inr rfl⟩⟩;rename_i e;have n:l.body.isNone=true:=by rw[e];rfl
 have:=R7 (P:=CM.Q) (fs:=jS) rfl j j n g;exact⟨this.1,.inl ⟨n,.inr this.2⟩⟩;exact((jG c).trans (oY c)).symm;exact(jG c).trans ((oY c).trans (all d e))
end
end Go.Rs
namespace Go.Abs.N
open Go.Abs
section
local instance:Dr:= ⟨false⟩
abbrev X0:Ty:=.ay .i64
abbrev X1:Ty:=.aF X0 X0
abbrev X2:=Int×Int×Int×Int×Int×Int
abbrev X3:=X2×Int×Int×Int×Int×Int×Int
abbrev X4:Ty:=.aF X0 X1
abbrev X5:Ty:=.aF X0 X4
abbrev X6:Ty:=.aF X0 X5
abbrev X7:Ty:=.aF X0 X6
abbrev X8:Ty:=.aF X7 X7
abbrev X9:=X3×Int×X3×Int×Int
abbrev Zp:Ty:=.aF X8 X1
abbrev X11:Ty:=.aF X0 Zp
abbrev E0:Ty:=.aF X8 X11
abbrev fo:Ty:=.aH E0
abbrev Vg:Ty:=.aF .aJ X0
abbrev Ex:=Int×Int
abbrev oP:Ty:=.aH X1
abbrev tJ:Ty:=.aH Vg
abbrev lZ:Ty:=.aF tJ oP
abbrev UD:=List UInt8
abbrev Ut:=UD×Int
abbrev oN:=List Ex
abbrev j9:Ty:=.aH X8
abbrev iW:=List X9
abbrev rW:=List Ut
abbrev qs:=rW×oN
abbrev mu:=List X3
def zE(n:Nat)(d:qs×mu×Int×rW×oN×Int×Int×Int×Int×Unit)(again:(qs×mu×Int×rW×oN×Int×Int×Int×Int×Unit)->Option iW)(ks:(qs×mu×Int×oN×Int×Int×Unit->Option iW)×Unit):=match d,ks with| (b,c,f,g,h,i,j,k,a,_),(k0,_)=>bif decide (a<i)then (aG g a).bind λ e=>again (b,c,f,g,h,i,j,k,(fx .i64 (a+1)),()) else k0 (b,c,f,h,j,k,())
def AK(n:Nat)(d:qs×mu×Int×oN×Int×Int×Int×Unit)(again:(qs×mu×Int×oN×Int×Int×Int×Unit)->Option iW)(ks:(qs×mu×Int×Int×Unit->Option iW)×Unit):=match d,ks with| (b,c,f,g,h,i,a,_),(k0,_)=>bif decide (a<h)then (aG g a).bind λ e=>(aG [e.1,e.2] 0).bind λ x=>(aG [e.1,e.2] 1).bind λ l=>(aG [e.1,e.2] 0).bind λ j=>(aG [e.1,e.2] 1).bind λ k=>bif j !=k then again (b,c,f,g,h,i,(fx .i64 (a+1)),()) else none else k0 (b,c,f,i,())
def B5(n:Nat)(d:qs×mu×Int×Int×Int×Unit)(again:(qs×mu×Int×Int×Int×Unit)->Option iW)(ks:(qs×mu×Int×Int×Unit->Option iW)×Unit):=match d,ks with| (f,a,g,b,c,_),(k0,_)=>bif decide (c<b)then (aG a c).bind λ e=>(aG [e.1.1,e.1.2.1,e.1.2.2.1,e.1.2.2.2.1,e.1.2.2.2.2.1,e.1.2.2.2.2.2] 0).bind λ x=>(aG [e.1.1,e.1.2.1,e.1.2.2.1,e.1.2.2.2.1,e.1.2.2.2.2.1,e.1.2.2.2.2.2] 1).bind λ h=>(aG [e.1.1,e.1.2.1,e.1.2.2.1,e.1.2.2.2.1,e.1.2.2.2.2.1,e.1.2.2.2.2.2] 2).bind λ k=>(aG [e.1.1,e.1.2.1,e.1.2.2.1,e.1.2.2.2.1,e.1.2.2.2.2.1,e.1.2.2.2.2.2] 3).bind λ l=>(aG [e.1.1,e.1.2.1,e.1.2.2.1,e.1.2.2.2.1,e.1.2.2.2.2.1,e.1.2.2.2.2.2] 4).bind λ m=>(aG [e.1.1,e.1.2.1,e.1.2.2.1,e.1.2.2.2.1,e.1.2.2.2.2.1,e.1.2.2.2.2.2] 5).bind λ o=>(aG [e.2.1,e.2.2.1,e.2.2.2.1,e.2.2.2.2.1,e.2.2.2.2.2.1,e.2.2.2.2.2.2] 0).bind λ p=>(aG [e.2.1,e.2.2.1,e.2.2.2.1,e.2.2.2.2.1,e.2.2.2.2.2.1,e.2.2.2.2.2.2] 1).bind λ q=>(aG [e.2.1,e.2.2.1,e.2.2.2.1,e.2.2.2.2.1,e.2.2.2.2.2.1,e.2.2.2.2.2.2] 2).bind λ r=>(aG [e.2.1,e.2.2.1,e.2.2.2.1,e.2.2.2.2.1,e.2.2.2.2.2.1,e.2.2.2.2.2.2] 3).bind λ s=>(aG [e.2.1,e.2.2.1,e.2.2.2.1,e.2.2.2.2.1,e.2.2.2.2.2.1,e.2.2.2.2.2.2] 4).bind λ i=>(aG [e.2.1,e.2.2.1,e.2.2.2.1,e.2.2.2.2.1,e.2.2.2.2.2.1,e.2.2.2.2.2.2] 5).bind λ j=>again (f,a,g,b,(fx .i64 (c+1)),()) else k0 (f,a,g,b,())
def ua(n:Nat)(d:mu×(List (Ex×X3))×Int×Int×rW×oN×Int×Int×Int×Int×Int×Int×Int×Int×Int×Int×Int×Int×Int×iW×Unit)(y:Ex×X2×Int×Int×Int×Int×Int×Int)(again:(mu×(List (Ex×X3))×Int×Int×rW×oN×Int×Int×Int×Int×Int×Int×Int×Int×Int×Int×Int×Int×Int×iW×Unit)->Option iW)(ks:Unit):=match d,ks with| (q,r,v,w,s,t,a,b,c,g,h,i,j,k,l,m,o,e,f,p,_),(_)=>(jk (b2 p+b2 ([(((y.2.1.1,(y.2.1.2.1,(y.2.1.2.2.1,(y.2.1.2.2.2.1,(y.2.1.2.2.2.2.1,y.2.1.2.2.2.2.2))))),(y.2.2.1,(y.2.2.2.1,(y.2.2.2.2.1,(y.2.2.2.2.2.1,(y.2.2.2.2.2.2.1,y.2.2.2.2.2.2.2)))))),(a,(((b,(c,(g,(h,(i,j))))),(k,(l,(m,(o,(e,f)))))),(y.1.1,y.1.2))))]:List X9))).bind λ u=>again (q,r,v,w,s,t,a,b,c,g,h,i,j,k,l,m,o,e,f,(p++ ([(((y.2.1.1,(y.2.1.2.1,(y.2.1.2.2.1,(y.2.1.2.2.2.1,(y.2.1.2.2.2.2.1,y.2.1.2.2.2.2.2))))),(y.2.2.1,(y.2.2.2.1,(y.2.2.2.2.1,(y.2.2.2.2.2.1,(y.2.2.2.2.2.2.1,y.2.2.2.2.2.2.2)))))),(a,(((b,(c,(g,(h,(i,j))))),(k,(l,(m,(o,(e,f)))))),(y.1.1,y.1.2))))]:List X9)),())
def tF(n:Nat)(d:mu×Int×Int×rW×oN×Int×iW×Unit)(again:(mu×Int×Int×rW×oN×Int×iW×Unit)->Option iW)(ks:(iW×Unit->Option iW)×Unit):=match d,ks with| (b,g,a,c,f,l,h,_),(k0,_)=>bif decide (a<g)then (aG b a).bind λ e=>(tN n (c,f) ((e.1.1,(e.1.2.1,(e.1.2.2.1,(e.1.2.2.2.1,(e.1.2.2.2.2.1,e.1.2.2.2.2.2))))),(e.2.1,(e.2.2.1,(e.2.2.2.1,(e.2.2.2.2.1,(e.2.2.2.2.2.1,e.2.2.2.2.2.2))))))).bind λ x=>la (ua n) (()) (λ(i,r,m,p,j,k,o,s,t,u,v,w,y,z,A,B,C,D,E,q,_)=>again (i,m,(fx .i64 (p+1)),j,k,o,q,())) x (b,x,g,a,c,f,l,e.1.1,e.1.2.1,e.1.2.2.1,e.1.2.2.2.1,e.1.2.2.2.2.1,e.1.2.2.2.2.2,e.2.1,e.2.2.1,e.2.2.2.1,e.2.2.2.2.1,e.2.2.2.2.2.1,e.2.2.2.2.2.2,h,()) else k0 (h,())
def BX(n:Nat)(a:rW×oN)(b:List X3)(d:Int):=(aG a.1 0).bind λ e=>(aG a.2 0).bind λ u=>(aG b 0).bind λ v=>(iB a.1 0 (b2 a.1:Int)).bind λ x=>(iB a.2 0 (b2 a.2:Int)).bind λ w=>(iB b 0 (b2 b:Int)).bind λ y=>bif decide ((b2 a.1:Int)<7)then bif decide (0< (b2 a.1:Int))then bif decide ((b2 a.2:Int)<1000000)then bif decide (0< (b2 a.2:Int))then bif decide ((b2 b:Int)<1000000)then bif decide (0< (b2 b:Int))then cq (zE n) n (a,b,d,a.1,a.2,(b2 a.1:Int),(b2 a.2:Int),(b2 b:Int),0,()) (λ(f,h,k,o,p,q,_)=>cq (AK n) n (f,h,k,o,p,q,0,()) (λ(g,i,l,r,_)=>cq (B5 n) n (g,i,l,r,0,()) (λ(c,j,m,s,_)=>cq (tF n) n (j,s,0,c.1,c.2,m,([]:List X9),()) (λ(t,_)=>some (t),()),()),()),()) else none else none else none else none else none else none
def zo:cf:= ⟨64,[j9,(.dX X1 X8),X0,X0,tJ,oP,X0,X0,X0,X0,X0,X0,X0,X0,X0,X0,X0,X0,X0,fo],[(1,.v (.aj j9)),(2,.v (.cu 64 0)),(3,.v (.cu 65 0)),(5,.v (.cu 66 0)),(6,.v (.cu 67 0)),(15,.v (.aj (.dX X1 X8))),(35,.v (.aj X0)),(55,.v (.aj X0))],[(64,.cp lZ [.aj tJ,.aj oP]),(65,.cp X0 [.aj X0]),(66,.cp X8 [.aj X0,.aj X0,.aj X0,.aj X0,.aj X0,.aj X0,.aj X0,.aj X0,.aj X0,.aj X0,.aj X0,.aj X0]),(67,.cp fo [.iR 68]),(68,.jH E0)],[]⟩
def A8:List (dN×cf):= []
theorem ZR(n)(d)(x)(again)(ks):dv (R:=(ax [fo])) (ja n) (bT.b (R:=(ax [fo]))) (vv (lp (iw (lp Go.Rs.jr 3)) 0)) [] (GP zo [1,2,3,5,6,15,35,55] 16 17 X1 X8 d x) (tH λ st=>dv (R:=(ax [fo])) (ja n) (bT.b (R:=(ax [fo]))) (wQ (lp (iw (lp Go.Rs.jr 3)) 0)) [] st (wR (ja n) zo [1,2,3,5,6,15,35,55] A8 again ks))=ua n d x again ks:=by kernel_rfl
theorem aii(X:Go.Rs.FS)(n):eS X.Q (bT.b (R:=(ax [fo]))) false (lp (iw (lp Go.Rs.jr 3)) 0) ((λ n=>qX (R:=(ax [fo])) (ja n) X1 X8 (vp (lp (iw (lp Go.Rs.jr 3)) 0)) zo A8 (ua n)) n):=RZ (vX X n) X.b (p:=16) (q:=17) (F:= [1,2,3,5,6,15,35,55]) (Oa:= []) (Ob:= []) (by kernel_rfl) (by kernel_rfl) trivial trivial (ZR n)
def I3:cf:= ⟨64,[lZ,j9,X0,tJ,oP,X0,X0,X0,X0],[(0,.v (.aj lZ)),(1,.v (.aj j9)),(2,.v (.aj X0)),(31,.v (.aj tJ)),(32,.v (.aj oP)),(33,.v (.aj X0)),(34,.v (.aj X0)),(35,.v (.aj X0)),(43,.v (.aj X0))],[],[]⟩
def QO:List (dN×cf):= [(.ou 210,⟨64,[lZ,j9,X0,oP,X0,X0],[(0,.v (.aj lZ)),(1,.v (.aj j9)),(2,.v (.aj X0)),(32,.v (.aj oP)),(34,.v (.aj X0)),(35,.v (.aj X0))],[],[]⟩)]
def Jy(n:Nat):Ev (ax [fo]):=mG n (ja n) I3 QO (zE n)
theorem aeg(n)(d)(again)(ks):dv (R:=(ax [fo])) (ja n) (bT.b (R:=(ax [fo]))) (iw (lp Go.Rs.jr 0)) [] (mk I3 d) (mL (ja n) I3 QO again ks)=zE n d again ks:=by kernel_rfl
theorem afS(X:Go.Rs.FS)(n):eS X.Q (bT.b (R:=(ax [fo]))) false (lp Go.Rs.jr 0) (Jy n):=rk (vX X n) X.b (by kernel_rfl) (O:= []) trivial (aeg n)
def Fz:cf:= ⟨64,[lZ,j9,X0,oP,X0,X0,X0],[(0,.v (.aj lZ)),(1,.v (.aj j9)),(2,.v (.aj X0)),(32,.v (.aj oP)),(34,.v (.aj X0)),(35,.v (.aj X0)),(43,.v (.aj X0))],[],[]⟩
def NX:List (dN×cf):= [(.ou 220,⟨64,[lZ,j9,X0,X0],[(0,.v (.aj lZ)),(1,.v (.aj j9)),(2,.v (.aj X0)),(35,.v (.aj X0))],[],[]⟩)]
def Hs(n:Nat):Ev (ax [fo]):=mG n (ja n) Fz NX (AK n)
theorem aa2(n)(d)(again)(ks):dv (R:=(ax [fo])) (ja n) (bT.b (R:=(ax [fo]))) (iw (lp Go.Rs.jr 1)) [] (mk Fz d) (mL (ja n) Fz NX again ks)=AK n d again ks:=by kernel_rfl
theorem aeB(X:Go.Rs.FS)(n):eS X.Q (bT.b (R:=(ax [fo]))) false (lp Go.Rs.jr 1) (Hs n):=rk (vX X n) X.b (by kernel_rfl) (O:= []) trivial (aa2 n)
def FI:cf:= ⟨64,[lZ,j9,X0,X0,X0],[(0,.v (.aj lZ)),(1,.v (.aj j9)),(2,.v (.aj X0)),(35,.v (.aj X0)),(43,.v (.aj X0))],[],[]⟩
def MQ:List (dN×cf):= [(.ou 230,⟨64,[lZ,j9,X0,X0],[(0,.v (.aj lZ)),(1,.v (.aj j9)),(2,.v (.aj X0)),(35,.v (.aj X0))],[],[]⟩)]
def Hw(n:Nat):Ev (ax [fo]):=mG n (ja n) FI MQ (B5 n)
theorem aie(n)(d)(again)(ks):dv (R:=(ax [fo])) (ja n) (bT.b (R:=(ax [fo]))) (iw (lp Go.Rs.jr 2)) [] (mk FI d) (mL (ja n) FI MQ again ks)=B5 n d again ks:=by kernel_rfl
theorem Zr(X:Go.Rs.FS)(n):eS X.Q (bT.b (R:=(ax [fo]))) false (lp Go.Rs.jr 2) (Hw n):=rk (vX X n) X.b (by kernel_rfl) (O:= []) trivial (aie n)
def HS:cf:= ⟨64,[j9,X0,X0,tJ,oP,X0,fo],[(1,.v (.aj j9)),(2,.v (.cu 64 0)),(3,.v (.cu 65 0)),(6,.v (.cu 66 0)),(35,.v (.aj X0)),(55,.v (.aj X0))],[(64,.cp lZ [.aj tJ,.aj oP]),(65,.cp X0 [.aj X0]),(66,.cp fo [.iR 67]),(67,.jH E0)],[]⟩
def PN:List (dN×cf):= [(.ou 241,⟨64,[fo],[(6,.v (.cu 64 0))],[(64,.cp fo [.iR 65]),(65,.jH E0)],[]⟩)]
def Gd(n:Nat):Ev (ax [fo]):=mG n (ja n) HS PN (tF n)
theorem agH(n)(d)(again)(ks):dv (R:=(ax [fo])) (ja n) (bT.b (R:=(ax [fo]))) (iw (lp Go.Rs.jr 3)) [(λ n=>qX (R:=(ax [fo])) (ja n) X1 X8 (vp (lp (iw (lp Go.Rs.jr 3)) 0)) zo A8 (ua n)) n] (mk HS d) (mL (ja n) HS PN again ks)=tF n d again ks:=by kernel_rfl
theorem age(X:Go.Rs.FS)(n):eS X.Q (bT.b (R:=(ax [fo]))) false (lp Go.Rs.jr 3) (Gd n):=rk (vX X n) X.b (by kernel_rfl) (O:= [(λ n=>qX (R:=(ax [fo])) (ja n) X1 X8 (vp (lp (iw (lp Go.Rs.jr 3)) 0)) zo A8 (ua n)) n]) ⟨aii X n,trivial⟩ (agH n)
end
section
local instance:Dr:= ⟨false⟩
variable {k1:Unit->Option (List ((Int×Int)×bS))}
def Fq(x:bS)(y:(Int×Int)×bS):=∃f t:Nat,f<6/\t<6/\y.1=((f:Int),(t:Int))/\vJ f t x y.2
section
variable{n:Nat}(hn:1000000<n){pl:xn}(hV:pl.1.length<7)(hH:pl.2.length<1000000)(hirr:∀h∈pl.2,h.1≠h.2)(x:bS)
include hn hV hH hirr
theorem KL{f}(b:f<pl.1.length){k0:xn×bS×Int×Int×Unit->Option (List ((Int×Int)×bS))}{M0} (h0:k0 (pl,x,(pl.1.length:Int),(f:Int),())=some M0) (h1:k1 ()=some []):∀m j,j<=pl.1.length->pl.1.length- j<m->∃M,cq (xA n) m (pl,x,(f:Int),(pl.1.length:Int),(f:Int),(pl.1.length:Int),(j:Int),()) (k0,k1,())=some (M++M0)/\M.length<=pl.1.length- j/\∀y∈M,Fq x y
 |0,j,_,h=>by omega|m+1,j,r,s=>by
  rw[cq];by_cases c:j<pl.1.length
  have a:decide ((j:Int)< (pl.1.length:Int))=true:=by grind
  obtain⟨k,q,e,l⟩:=agb hn hV hH hirr x b c;have i:fx .i64 ((j:Int)+1)=((j+1:Nat):Int):=by grind[nu]
  obtain⟨M,g,o,p⟩:=KL b h0 h1 m (j+1) c (by omega);simp only[xA,a,cond_true,e,et,i];cases t:(q==0)with
  |true=>
   simp only[cond_true];refine⟨(((f:Int),(j:Int)),k)::M,?_,by grind,λ y d=>?_⟩;rw[g,h1];rfl;rcases gf.1 d with rfl|d;exact⟨f,j,by omega,by omega,rfl,by grind⟩
   grind
  |false=>
   grind
  have a:decide ((j:Int)< (pl.1.length:Int))=false:=decide_eq_false (by omega);simp only[xA,a,cond_false];simp_all
theorem Q8{k0:Unit->Option (List ((Int×Int)×bS))}(h0:k0 ()=some [])(h1:k1 ()=some []):∀m i,i<=pl.1.length->pl.1.length- i<m->∃M,cq (tR n) m (pl,x,(pl.1.length:Int),(i:Int),()) (k0,k1,())=some M/\M.length<=(pl.1.length- i)*6/\∀y∈M,Fq x y
 |0,i,_,h=>by omega|m+1,i,o,p=>by
  rw[cq];by_cases a:i<pl.1.length
  have l:decide ((i:Int)< (pl.1.length:Int))=true:=by grind
  have q:fx .i64 ((i:Int)+1)=((i+1:Nat):Int):=by grind[nu]
  obtain⟨M0,g,j,k⟩:=Q8 h0 h1 m (i+1) a (by omega);obtain⟨M,e1,f,e3⟩:=KL hn hV hH hirr x a (k0:=λ(d,e,b,c,_)=>cq (tR n) m (d,e,b,(fx .i64 (c+ (1:Int))),()) (k0,k1,())) (k1:=λ _=>k1 ()) (M0:=M0) (by grind) h1 n 0 (hL _) (by omega)
  grind[tR,e1,e3,kk];grind[decide,decide_eq_false,tR]
theorem yF:∃M,tN n pl x=some M/\M.length<=36/\∀y∈M,Fq x y:=by have⟨M,h1,a,h3⟩:=Q8 hn hV hH hirr x (k0:=λ _=>some []) (k1:=λ _=>some []) rfl rfl n 0 (hL _) (by omega);grind[h3,tN,Gt,h1]
end
def vG(num:Int)(x:bS)(y:(Int×Int)×bS):bA:=(y.2,num,x,y.1.1,y.1.2)
def SS(n:Nat)(pl:xn)(num:Int)(x:bS):=((tN n pl x).getD []).map (vG num x)
section
variable{n:Nat}(hn:1000000<n){pl:xn}(hV:pl.1.length<7)(hH:pl.2.length<1000000)(hirr:∀h∈pl.2,h.1≠h.2)
include hn hV hH hirr
theorem NA(num)(x):(SS n pl num x).length<=36:=by have⟨M,h1,h2,a⟩:=yF hn hV hH hirr x;grind[SS,h1,h2]
theorem af4(num)(x:bS):xD n pl num x=some (SS n pl num x):=by
 have⟨M,a,d,e⟩:=yF hn hV hH hirr x;unfold xD SS;rw[a];simp[et,gw];have key:∀M c own,own.length+M.length<=4294967296->la (ui n) (()) (λ(h,i,g,b,_)=>some (b)) M (num,x,c,own,())=some (own++M.map (vG num x)):=by
  intro M
  induction M with|nil=>grind[la]|cons y M f=>grind[la,ui,zG,vG,oj]
 grind
theorem RQ{num x e a b}(c:a∈SS n pl num x)(d:b∈SS n pl num e)(h:eT a=eT b):a=b:=by have⟨M,j,_,k⟩:=yF hn hV hH hirr x;have⟨o,g,_,i⟩:=yF hn hV hH hirr e;unfold SS at c d;rw[j]at c;rw[g]at d;simp only[gw]at c d;obtain⟨y,l,rfl⟩:=p5.1 c;obtain⟨z,m,rfl⟩:=p5.1 d;have⟨e1,e2⟩:=Vm h;have e1:y.2=z.2:=e1;have e2:x=e:=e2;have⟨f,t,q,r,s,u⟩:=k y l;have⟨f',t',p,p2,p3,p4⟩:=i z m;grind[e1,e2,YA,Prod.ext]
end
end
section
local instance:Dr:= ⟨false⟩
section
variable{n:Nat}(hn:1000000<n){pl:xn}(hV:pl.1.length<7)(hH:pl.2.length<1000000)(hirr:∀h∈pl.2,h.1≠h.2)(hV0:0<pl.1.length)(hH0:0<pl.2.length)
variable {ly:List bS}
include hn hV hH hirr
theorem M4(num)(e:ly.length<1000000){k0:List bA×Unit->Option (List bA)}(h0:∀l,k0 (l,())=some l):∀m i(own:List bA),i<=ly.length->ly.length- i<m->own.length+ (ly.length- i)*36<=4294967296->cq (tF n) m (ly,(ly.length:Int),(i:Int),pl.1,pl.2,num,own,()) (k0,())=some (own++ (ly.drop i).flatMap (SS n pl num))
 |0,i,own,_,h,_=>by omega|m+1,i,own,A,C,z=>by
  rw[cq];by_cases j:i<ly.length
  have f:decide ((i:Int)< (ly.length:Int))=true:=by grind
  have k:fx .i64 ((i:Int)+1)=((i+1:Nat):Int):=by grind[nu]
  have g:aG ly (i:Int)=some ly[i]:=by grind[oR,eg]
  obtain⟨M,e1,v,w⟩:=yF hn hV hH hirr ly[i];have x:SS n pl num ly[i]=M.map (vG num ly[i]):=by grind[SS,e1]
  simp only[tF,f,cond_true,g,et];have d:tN n (pl.1,pl.2) ((ly[i].1.1,(ly[i].1.2.1,(ly[i].1.2.2.1,(ly[i].1.2.2.2.1,(ly[i].1.2.2.2.2.1,ly[i].1.2.2.2.2.2))))),(ly[i].2.1,(ly[i].2.2.1,(ly[i].2.2.2.1,(ly[i].2.2.2.2.1,(ly[i].2.2.2.2.2.1,ly[i].2.2.2.2.2.2))))))=some M:=e1;rw[d];simp only[et];have key:∀(a c:List ((Int×Int)×bS))(b:List bA),b.length+a.length+ (ly.length- (i+1))*36<=4294967296->
   la (ua n) (()) (λ(o,E,r,t,p,q,s,F,G,H,I,J,K,L,N,O,P,Q,R,u,_)=>
    cq (tF n) m (o,r,(fx .i64 (t+ (1:Int))),p,q,s,u,()) (k0,())) a
    (ly,c,(ly.length:Int),(i:Int),pl.1,pl.2,num,ly[i].1.1,ly[i].1.2.1,ly[i].1.2.2.1,ly[i].1.2.2.2.1,ly[i].1.2.2.2.2.1,ly[i].1.2.2.2.2.2,ly[i].2.1,ly[i].2.2.1,ly[i].2.2.2.1,ly[i].2.2.2.2.1,ly[i].2.2.2.2.2.1,ly[i].2.2.2.2.2.2,b,())=
    some (b++a.map (vG num ly[i])++ (ly.drop (i+1)).flatMap (SS n pl num)):=by
   intro a
   induction a with
   |nil=>
    intro c b B;rw[la];simp only[k];rw[M4 _ e h0 m (i+1) _ j (by omega) (by omega)];simp
   |cons y a D=>
    grind[la,ua,zG,vG]
  grind[h1,mm,oj];grind[decide,decide_eq_false,tF,List.drop_eq_nil_of_le]
include hV0 hH0
theorem P5(num)(j:ly.length<1000000)(m:0<ly.length):BX n pl ly num=some (ly.flatMap (SS n pl num)):=by
 have b:∀{k:Nat},k<1000000->k<=maxLen:=λ h=>by unfold sv;omega
 unfold BX;have a:∀{α:Type}(l:List α),0<l.length->∃e,aG l 0=some e:=λ l h=> ⟨l[0],by have:=oR l 0;grind⟩;have⟨p,d⟩:=a pl.1 hV0;have⟨q,f⟩:=a pl.2 hH0;have⟨s,g⟩:=a ly m;rw[d,f,g,xV _ _ (ez _),xV _ _ (ez _),xV _ _ (ez _)];simp[et];rw[decide_eq_true (by omega),decide_eq_true (by omega),decide_eq_true (by omega),decide_eq_true (by omega),decide_eq_true (by omega),decide_eq_true (by omega)];simp[cond_true];have c:=M4 hn hV hH hirr num j (k0:=λ(o,_)=>some o) (λ l=>rfl) n 0 [] (hL _) (by omega) (by grind);rw[List.nil_append,List.drop_zero]at c;refine iy (n:=n) pl.1 (λ i=>(pl,ly,num,pl.1,pl.2,((b2 pl.1):Int),((b2 pl.2):Int),((b2 ly):Int),(i:Int),())) (λ i r=>some (ly.flatMap (SS n _ _))) (b (by omega)) ?_ ?_ (by omega)
 grind[h1,h2,h3,h4,h5,h6,zE]
 intro h again;simp only[zE,h,cond_false];refine iy (n:=n) pl.2 (λ i=>(pl,ly,num,pl.2,((b2 pl.2):Int),((b2 ly):Int),(i:Int),())) (λ i r=>some (ly.flatMap (SS n _ _))) (b (by omega)) ?_ ?_ (by omega);intro i e r h1 h2 h3 h4 h5 h6 again w;have v:(e.1 !=e.2)=true:=by
  grind
 have t:aG [e.1,e.2] 0=some e.1:=rfl;have u:aG [e.1,e.2] 1=some e.2:=rfl
 grind[AK,h5,h4,h6]
 intro h again;simp only[AK,h,cond_false];refine iy (n:=n) _ (λ i=>(pl,ly,num,((b2 ly):Int),(i:Int),())) (λ i r=>some (ly.flatMap (SS n _ _))) (b (by omega)) ?_ ?_ (by omega)
 all_goals simp_all[h1,h2,h3,h4,h5,h6,aG,B5,et,cond_true,cond_false]
end
end
end Go.Abs.N
namespace Go.Abs
open Go.Proofs
section
local instance:Dr:= ⟨false⟩
@[reducible] def wM:List Ty:= [iT,.aH dW,.ay .i64]
def Lv:Exit->au->Option (List bA)| .normal,st=>bif hq st.N 64 then(match Map.av st.a 48 with|some ⟨[],true,.v (.dj id v2)⟩=>(match Map.av st.b id with|some (a,.c8 e l)=>bif hq v2 a then gN (t:= .aH e) (t':= .aH bq) l else none|_=>none)|_=>none)else none|_,_=>none
theorem adw(n)(b:eU)(a:List bS)(num:Int):dv (R:=List bA) (N.ja n) (bT.b (R:=List bA)) Go.Rs.jr [N.Jy n,N.Hs n,N.Hw n,N.Gd n] (uN 64 wM [] (b,a,num) ()) Lv=N.BX n b a num:=by kernel_rfl
structure ae2(w:ef)(l:List bA)(a':fu)(w':ef):Prop where
 e:a'.tmps.size=64
 b:∀d∈a'.defers,∃D,d={target:= .collected D,args:= #[]}/\w'.heap[D]?=some (.deferred (some []))/\w.heap.size<=D
 c:a'.defers.Nodup
 a:cm w w'
 f:∃f,a'.tmps[48]?=some f/\xe w' w.heap.size f l
theorem Kq(X:Go.Rs.FS){n w ok vs}{t:eU}{r:List bS}{num:Int}{l:List bA}(ah:fe X.Q w ok wM vs (t,r,num))(B:N.BX n t r num=some l):Go.Rs.jr.wp X.Q (λ e a' w'=>e= .normal/\ae2 w l a' w') ⟨vs.toArray++ep (64- vs.toArray.size) hh,[]⟩ w:=by
 let K:bC:= ⟨w,ft ok w,λ _=>False,[],#[],0,w.heap.size⟩;have Y:oB X.Q (bT.b (R:=List bA)) false (λ s b=>b=l/\jz K s):={
  d:=λ s s' b p B=> ⟨p.1,p.2.f B.h⟩
  c:=λ h=>absurd rfl h
  g:=λ _ _=> ⟨K,l,λ _ _=>Iff.rfl⟩
  f:=λ h=>absurd rfl h};rw[<-wpIn_wide (n:=7)];have Z:nN X.Q (bT.b (R:=List bA)) false Go.Rs.jr [N.Jy n,N.Hs n,N.Hw n,N.Gd n]:=my ⟨N.afS X n,N.aeB X n,N.Zr X n,N.age X n,trivial⟩;have H:=L8 (P:=X.Q) (N:=64) (ins:=wM) (caps:= []) (x:=(t,r,num)) (y:=()) (w:=w) (ok:=ok) (vs:=vs) (cs:= []) (by decide) ah rfl #[];simp[fV]at H;refine wpIn_mono (ji (N.vX X n) X.b Go.Rs.jr _ Z none rfl _ Y _ _ _ _ _ _ ((adw n t r num).trans B) H ⟨rfl,jz.k _⟩) ?_;rintro e a' w'⟨s',aj,st',⟨am,j⟩,⟨rfl,q⟩,a⟩;cases e with
 |normal=>refine⟨rfl,?_⟩;simp[Lv]at a;cases z:hq st'.N 64 with|false=>rw[z]at a;cases a|true=>
   rw[z]at a;simp[cond_true]at a;split at a
   rename_i id v2 af;split at a;rename_i O e l0 aa;cases A:hq v2 O with
   |false=>rw[A]at a;cases a
   |true=>
    rw[A]at a;simp only[cond_true]at a;have ag:=cU A;subst ag;obtain⟨ab,C⟩:=kC a;have ac:e=bq:=by injection ab
    subst ac;have C:_=l0:=C;subst C;obtain⟨own,U,V⟩:=j.k 48 _ af;obtain⟨an,ak,ar,I,_,_,ai⟩:=(V.b (cG _)).2;obtain⟨al,au,J,p2⟩:=j.q id _ _ aa;rw[I]at J;cases J;have ae:=ai rfl;subst ae;obtain⟨rfl,p3⟩:=p2;have m:=q.f j.C.h;refine⟨by rw[j.n];exact cU z,λ d G=>?_,by rw[j.g];exact j.h.h,⟨m.j,m.g,m.c,m.d,λ b p=>m.e b p λ v=>v⟩,own,U,?_⟩;rw[j.g]at G;obtain⟨D,Q,E,S,F⟩:=j.h.f d G;refine⟨D,Q,?_,?_⟩;rw[j.e.e D (ea.1 E).1 λ v=>S (j.h.e D v)];exact E;rw[q.h]at F;exact F;rcases p3 with⟨o,u⟩| ⟨b,off,cap,M,L,o,u,ao,ap,aq,T⟩;exact .inl ⟨o,u⟩;refine .inr ⟨b,off,cap,M,L,o,?_,u,λ i y ad=>?_⟩;have W:dB own b:=by rw[o];simp[dB,oi]
    rcases(j.f id _ _ b I W).1 with k|k;exact hB q.d k;rcases q.M b k with k|k;exact k.elim;exact k;have:=T i y ad;exact(kJ bq rfl y _).1 this
   cases a;cases a
 |_=>cases a
end
end Go.Abs
namespace Go.Rs
open Go.ChangeShapes Go.Conc Go.Proofs Go.RowKit Go.Sort Go.WideShapes
section
local instance:Abs.Dr:= ⟨false⟩
open Go.Abs (bS bA eU dW bq iT aX dJ)
noncomputable def xF:Oper:= ⟨some 49,.call {callee:= .value (.func 166),args:= #[.tmp 48,.func 167],argTypes:= #[228,257]},0,"x",#[],none⟩
theorem Q0(X:FS){a u v n0 L}(OJ:a.tmps[48]?=some v)(ae:Abs.xe u n0 v L)(ah:L.length<4611686018427387904):Av.wp X.Q (λ e a' q=>e= .normal/\a'=a.put (some 49) (.tuple #[])/\(q.os=u.os/\q.tape=u.tape/\q.output=u.output)/\u.heap.size<=q.heap.size/\(∀b,b<u.heap.size->(b<n0\/∀c ty fr,u.heap[b]?≠some (.cells c ty fr))->q.heap[b]?=u.heap[b]?)/\∃A,L.Perm A/\mP A/\Abs.xe q n0 v A) a u:=by
 have z:∀y,(aX bq y).length=27:=λ y=>Abs.mz bq rfl y;refine wp_region ?_;show wpOps X.Q #[xF] _ [0] a u;rw[pv];unfold wpOp;rw[show(#[xF]:Array ny)[0]?=some xF from rfl];simp only[show hg xF (l4 #[xF] a.tmps)=true from rfl,if_true];refine .inl ?_;unfold p6;have R:Abs.lE X.Q 166:= ⟨p8,X.a qi (by kernel_rfl) (by decide),by kernel_rfl,by kernel_rfl⟩;have J:=Abs.E1 (P:=X.Q) (a:=a) (w:=u) (o:=xF) (f:= .func 166) (fid:=166) (first:= #[]) (cap:= #[]) rfl rfl R;have K:a.eval (.tmp 48)=v:=by simp[hQ,OJ]
 have Q:(#[]:Array eb)++ (#[kL 48,o1 167]).map a.eval++ #[]= #[v,.func (.func 167) #[] #[]]:=by
  have e:(#[kL 48,o1 167]).map a.eval= #[a.eval (.tmp 48),a.eval (.func 167)]:=by simp
  rw[e,K];rfl
 rw[Q]at J;rw[J,Oper.upon_enter];obtain⟨rfl,rfl⟩| ⟨g,off,cap,cs,T,rfl,ab,D,S⟩:=ae
 refine(Abs.QJ X none 0 u).mono ?_;rintro e w'⟨rfl,rfl⟩;show wpOps _ _ _ [] _ _;exact⟨rfl,rfl,⟨rfl,rfl,rfl⟩,ez _,λ _ _ _=>rfl,_,.refl _,.nil,.inl ⟨rfl,rfl⟩⟩;have cell:∀j,j<L.length*27->cs[off+j]?=(L.flatMap (aX bq))[j]?:=λ j k=>by
  have p:j/27<L.length:=by omega
  have aa:j%27<27:=ov _ (by omega);have r:=S (j/27) _ (eg p);have B:=tq z L (j/27) (j%27) _ (eg p) aa
  grind[Abs.aS]
 have O:HoldsK (aX bq) 27 u g off L.toArray:=by
  intro j k
  grind[size_flatK,p7,aX,Bw,ev,mv,World.frozen?]
 have G:g<u.heap.size:=(ea.1 D).1;have I:=Abs.Rv X g off cap L.toArray u O G (by omega);rw[hA]at I;refine I.mono ?_;rintro e w'⟨rfl,d,n,os,⟨s,_,H⟩,ad,rfl⟩;show wpOps _ _ _ _ _ _;have s:d.size=L.length:=by omega
 have H:d.toList.Perm L:=by
  grind[Array.extract_size,hA]
 have F:∀b,b<u.heap.size->(pz (aX bq) 27 u g off n d os).heap[b]?=if b=g then some (.cells (sy id off (p7 (aX bq) 27 d) cs) T (0,0))else u.heap[b]?:=λ b C=>by
  unfold pz grow putRowK putRow mapBlock sc;simp only;rw[hN (by simpa using C),Array.getElem?_modify];by_cases e:b=g;subst e;simp[D,onCells];rw[if_neg e,if_neg (λ h=>e h.symm)]
 refine⟨rfl,rfl,⟨rfl,rfl,rfl⟩,?_,λ b C t=>?_,d.toList,H.symm,?_,.inr ⟨g,off,cap,sy id off (p7 (aX bq) 27 d) cs,T,?_,ab,?_,λ i x p=>?_⟩⟩;unfold pz grow putRowK putRow mapBlock sc;simp;rw[F b C,if_neg];rintro rfl;rcases t with t|t
 omega;exact t _ _ _ D;unfold mP;rw[List.pairwise_iff_getElem];intro i j p k W;have r:=ad i j (hL _) W (by rw[<-s];simpa using k);have V:i<d.size:=by simpa using p
 have Z:j<d.size:=by simpa using k
 have M:d[i]! =d[i]:=getElem!_pos d i V;have N:d[j]! =d[j]:=getElem!_pos d j Z;rw[M,N]at r;simp only[Go.Proofs.ltOf,decide_eq_false_iff_not,Int.not_lt]at r;rw[nz,nz];have:=Abs.xG (l:=Abs.eT d[i]) (m:=Abs.eT d[j]) rfl;have r:0<=Abs.eR (Abs.eT d[j]) (Abs.eT d[i]):=r;show Abs.eR (Abs.eT d[i]) (Abs.eT d[j])<=0;omega;have:d.toList.length=L.length:=by simpa using s
 rw[this];rw[F g G,if_pos rfl];have af:i<d.toList.length:=(ee.1 p).1;have ag:i<L.length:=by
  have:d.toList.length=L.length:=by simpa using s
  omega
 refine hS λ j=>?_;unfold Abs.aS;rw[en];by_cases k:j<27;rw[if_pos k,eL,ei];have ac:i*27+j<d.size*27:=by rw[s];omega
 have U:off+ (i*27+j)<cs.size:=by
  have:=cell (i*27+j) (by omega);rw[eg (by rw[uE z];omega)]at this;exact(ea.1 this).1
 have B:=tq z d.toList i j x p k;rw[<-Bw]at B;rw[<-B,ei];have E:i*27+j< (p7 (aX bq) 27 d).size:=by rw[size_flatK];exact ac
 rw[ev E];simp only[sy];rw[show off+i*27+j=off+ (i*27+j)from by omega,Array.getElem?_mapIdx,ev U];simp only[hY];have Y:off<=off+ (i*27+j)/\off+ (i*27+j)<off+ (p7 (aX bq) 27 d).size:= ⟨by omega,by omega⟩;rw[if_pos Y,show off+ (i*27+j)- off=i*27+j from by omega,getElem!_pos (p7 (aX bq) 27 d) (i*27+j) E];rfl;rw[if_neg k,jA (by rw[z];omega)]
end
section dp
variable{P:fv}{hp:Array mn}{α γ:Type}
variable {v:eb} {Φ:α->Prop} {t:nB} {n:Nat} {s:rH α} {ag:Bool} {k:qn} {f:α->rH γ} {x:α} {d:TypeDesc}
def DP(P:fv)(hp:Array mn)(Φ:α->Prop)(s:rH α):=∀w,w.heap=hp->(∃x,s.run P w= .ok x w/\Φ x)\/∃y u,s.run P w= .halt y u/\jX y=true
theorem DP.b{Φ x}(h:Φ x):DP P hp Φ (ma x:rH α):=λ w _=> .inl ⟨x,rfl,h⟩
theorem DP.e{Φ Ψ}(h:DP P hp Ψ s)(k:∀x,Ψ x->DP P hp Φ (f x)):DP P hp Φ (s>>=f):=λ w a=>by
 rcases h w a with⟨x,e,c⟩| ⟨y,u,e,d⟩
 ·rcases k x c w a with⟨z,b,g⟩| ⟨y,u,b,d⟩;all_goals simp_all
 simp_all
theorem DP.m(h:∀w,s.run P w= .ok x w)(a:Φ x):DP P hp Φ s:=λ w _=> .inl ⟨x,h w,a⟩
theorem DP.a{Φ}(h:∀w,s.run P w= .ok x w)(k:DP P hp Φ (f x)):DP P hp Φ (s>>=f):=DP.e (Ψ:=λ y=>y=x) (DP.m h rfl) λ y e=>e▸k
theorem DP.c(why):DP P hp Φ (stuck why:rH α):=λ w _=> .inr ⟨_,w,rfl,rfl⟩
theorem DP.i{u}(a:jX (.unsupported u)=true):DP P hp Φ (unsupported u:rH α):=λ w _=> .inr (by simp_all)
theorem DP.g(k)(x y)(c):DP P hp Φ (boundsPanic k x y c:rH α):=λ w _=>by
 refine .inr ?_;unfold boundsPanic;dsimp only;split
 exact⟨_,_,rfl,rfl⟩;exact⟨_,_,rfl,rfl⟩
theorem rC(h:P.underlying t=some d)(w):(underlying t).run P w= .ok d w:=by simp_all[underlying,program,ej,l9]
theorem Ll{d}(h:P.info? t=some d)(w):(o3 t).run P w= .ok d w:=by simp_all[o3,program,ej,l9]
theorem vK{d}(h:P.info? t=some d)(w):(sA t).run P w= .ok d.size w:=by simp_all[sA,ej,Ll]
def Cy:TypeDesc->Bool| .struct _| .array _ _=>true|_=>false
theorem Qk(h:P.underlying t=some d)(w):(isAgg t).run P w= .ok (Cy d) w:=by unfold isAgg;rw[ej,rC h];cases d<;>rfl
def oQ(P:fv)(t n:Nat)(ag:Bool):=(match P.underlying t with|some d=>(match Cy d,ag with|true,true=>true|false,false=>true|_,_=>false)|none=>false)&& (match P.info? t with|some i=>hq i.size n|none=>false)
theorem EG{t}(h:oQ P t n ag=true):(∃d,P.underlying t=some d/\Cy d=ag)/\∃i,P.info? t=some i/\i.size=n:=by grind[oQ,Cy,gg]
def qc(cs:Array eb)(o n:Nat)(ag:Bool)(u:eb):=if ag=true then u= .agg (cs.extract o (o+n))else cs[o]?=some u
theorem DP.j{t o cs}(h:oQ P t n ag=true):DP P hp (qc cs o n ag) (part t cs o):=by have⟨⟨d,a,b⟩,i,c,e⟩:=EG h;refine DP.a (Qk a) ?_;rw[b];cases ag with|true=>refine DP.a (vK c) (DP.b ?_);grind[qc]|false=>grind[hy,DP.b,qc,DP.c]
def pM(P:fv)(T i o n:Nat)(ag:Bool):Bool:=match P.underlying T with|some (.struct fs)=>(match fs[i]? with|some f=>hq f.offset o&&oQ P f.type n ag|none=>false)|_=>false
theorem DP.l{T i o}(h:pM P T i o n ag=true):DP P hp (λ u=>∃cs,v= .agg cs/\qc cs o n ag u) (Instr.field T v i):=by
 unfold pM at h;split at h
 rename_i fs a;split at h;rename_i f b;rw[hF]at h;have c:=gg h.1;refine DP.a (rC a) ?_;simp only[b];unfold asAgg;cases v with
 |agg cs=>simp_all[DP.a,DP.j,id]
 |_=>exact DP.e (DP.c (Φ:=λ _=>False) _) λ _ h=>h.elim
 trivial;trivial
def w8(P:fv)(T e:Nat):Bool:=match P.underlying T with|some (.array _ t)=>hq t e&&oQ P t 1 false|_=>false
theorem DP.o{T e k}{n:Nat}{v}(h:w8 P T e=true):DP P hp (λ u=>∃cs,v= .agg cs/\cs[n]?=some u) (qq T v (.int k n)):=by
 unfold w8 at h;split at h;rename_i len t f;rw[hF]at h;have⟨_,i,c,d⟩:=EG h.2;unfold qq asIntOf;refine DP.a (x:=(k,(n:Int))) (λ w=>rfl) ?_;refine DP.a (rC f) ?_;cases v with
  |agg cs=>
   simp only;split
   ·refine DP.a (vK c) ?_;rw[d];refine λ w g=>(DP.j (o:=n*1) h.2 w g).imp (λ⟨x,a,b⟩=> ⟨x,?_,cs,rfl,?_⟩) id;all_goals grind[qc]
   grind[DP.g]|_=>exact DP.c _
 trivial
def nK(P:fv)(T n:Nat):Bool:=match P.underlying T with|some (.slice t)=>(match P.info? t with|some i=>hq i.size n|none=>false)|_=>false
theorem DP.h{T m}{n:Int}(h:nK P T m=true):DP P hp (λ u=>∃ad l c,v= .slice (some ad) l c/\0<=n/\n<l/\u= .pointer (some (ad.add (n.toNat*m)))) (pc T v (.int k n)):=by
 unfold nK at h;split at h
 rename_i t b;split at h;rename_i i e;have f:=gg h;refine DP.a (x:=(k,n)) (λ w=>rfl) ?_;refine DP.a (rC b) ?_;cases v with
 |slice a l c=>
  simp only;refine DP.a (x:=(a,l,t)) (λ w=>rfl) ?_;refine DP.a (rC b) ?_;simp only;cases a with
  |none=>grind[DP.g]
  |some ad=>
   simp only;split;rename_i d;refine DP.a (vK e) (DP.b ⟨_,l,c,rfl,d.1,d.2,?_⟩);rw[f]
   grind[hy,DP.g]
 |_=>exact DP.e (DP.c (Φ:=λ _=>False) _) λ _ h=>h.elim
 trivial;trivial
theorem DP.u{T m ty:Nat}(h:nK P T m=true):DP P hp (λ u=>∃a l c,v= .slice a l c/\u= .int .i64 l) (o2 #[T] ty #[v]):=by
 unfold nK at h;split at h
 rename_i t b;refine DP.a (rC b) ?_;cases v with
 |slice a l c=>exact DP.b ⟨a,l,c,rfl,rfl⟩
 |_=>exact DP.c _
 trivial
theorem DP.w{T m}{n:Int}(h:nK P T m=true):DP P hp (λ u=>∃a l c,v= .slice a l c/\n<=c) (pk T v none (some (.int k n)) none):=by
 unfold nK at h;split at h
 ·rename_i t b;split at h;rename_i i d;refine DP.a (rC b) ?_;refine DP.a (rC b) ?_;cases v with
   |slice a l c=>
    simp only;refine DP.e (Ψ:=λ _=>n<=c) ?_ λ x e=>?_
    ·refine DP.a (x:=c) (λ w=>rfl) ?_;simp only;refine DP.e (Ψ:=λ _=>n<=c) ?_ λ x e=>?_;all_goals grind[Instr.sliceBound,asIntOf,DP.b,DP.g]
    ·exact DP.a (vK d) (DP.b (by grind))|_=>exact DP.c _
  trivial
 trivial
end dp
section dp
variable{P:fv}{hp:Array mn}{α γ:Type}
variable {n:Int} {a:k9} {o:mn} {x:eb}
theorem adx{w:ef}(h:w.heap[a.block]?=some o)(hp:An o=true)(q):∃x,w.farLoad P a q= .error x/\jX x=true:=by unfold World.farLoad;rw[h];cases o with|view _ _=>trivial|pending _ _=>trivial|_=>exact⟨_,rfl,by unfold World.noCell;rw[h];rfl⟩
theorem qT(a:k9)(n):(a.add n).off=a.off+n/\(a.add n).block=a.block:=by grind[s6]
theorem DP.p(h:hp[a.block]?=some o)(e:An o=true):DP P hp (λ v=>∃c ty fr,hp[a.block]?=some (.cells c ty fr)/\a.spot=none/\c[a.off]?=some v) (load a):=λ w g=>by
 unfold Go.load;have d:w.heap[a.block]?=some o:=by grind
 cases b:w.cell? a with
 |some v=>refine .inl ⟨v,by grind[l9],?_⟩;unfold World.cell? at b;rw[d]at b;cases o with
  |cells c ty fr=>simp_all|_=>trivial
 |none=>have⟨x,i,f⟩:=adx (P:=P) d e (Mode.plain== .atomic);simp_all[l9]
theorem DP.d{a o}(h:hp[a.block]?=some o)(d:An o=true):∀n i b,DP P hp (λ vs=>∃l:List eb,l.length=n/\vs=b++l.toArray/\∀j,j<n->∃c ty fr,hp[a.block]?=some (.cells c ty fr)/\(a.add (i+j)).spot=none/\c[a.off+ (i+j)]?=l[j]?) (n1 a i n b)
 |0,i,b=>DP.b ⟨[],rfl,by simp,λ j k=>by omega⟩|n+1,i,b=>by unfold n1;refine DP.e (DP.p (o:=o) (by grind[qT]) d) λ v m=>?_;have⟨c,ty,fr,f,q,g⟩:=m;rw[(qT a i).2]at f;rw[(qT a i).1]at g;refine λ w p=>(DP.d h d n (i+1) (b.push v) w p).imp ?_ id;rintro⟨x,e,l,s,t,k⟩;refine⟨x,e,v::l,by grind,by grind,λ j r=>?_⟩;grind
def Rc(hp:Array mn)(a:k9)(n:Nat)(u:eb):=∃vs c ty fr,u= .agg vs/\vs.size=n/\hp[a.block]?=some (.cells c ty fr)/\a.spot=none/\∀j,j<n->c[a.off+j]?=vs[j]?
theorem DP.f{T n a o}(k:oQ P T n true=true)(p:0<n)(h:hp[a.block]?=some o)(q:An o=true):DP P hp (Rc hp a n) (pH T (.pointer (some a))):=by
 have⟨⟨d,b,e⟩,i,f,g⟩:=EG k;refine DP.a (x:=a) (λ w=>rfl) ?_;refine DP.a (Qk b) ?_;rw[e];refine DP.a (vK f) ?_;rw[g];unfold loadCells;refine DP.e (DP.d h q n 0 #[]) λ vs s=>DP.b ?_;have⟨l,v,y,m⟩:=s;have⟨c,ty,fr,t,z,A⟩:=m 0 p;have r:a.spot=none:=by trivial
 refine⟨vs,c,ty,fr,rfl,by grind,t,r,λ j u=>?_⟩;grind
theorem DP.r(T c:Nat)(X Y):DP P hp (λ u=>∃m,x= .int .i64 m/\u= .bool (m<n)) (do hU .lss T X Y x (.int .i64 n);j1 .lss T x (.int .i64 n)):=by refine DP.a (x:=()) (λ w=>rfl) ?_;cases x with
 |int k m=>
  unfold j1;simp only;by_cases b:k= .i64
  subst b;exact DP.b ⟨m,rfl,rfl⟩;grind[DP.c]|pointer a=>cases a<;>exact DP.i rfl|_=>exact DP.c _
theorem DP.k{y}(T c:Nat)(X Y):DP P hp (λ u=>∃m,y= .int .i64 m/\u= .bool (n<m)) (do hU .lss T X Y (.int .i64 n) y;j1 .lss T (.int .i64 n) y):=by refine DP.a (x:=()) (λ w=>rfl) ?_;cases y with
 |int k m=>
  unfold j1;simp only;by_cases b:k= .i64
  subst b;exact DP.b ⟨m,rfl,rfl⟩;grind[DP.c]|pointer a=>cases a<;>exact DP.i rfl|_=>exact DP.c _
theorem DP.q{m}(T a:Nat)(X Y):DP P hp (λ u=>u= .bool (n !=m)) (do hU .neq T X Y (.int .i64 n) (.int .i64 m);j1 .neq T (.int .i64 n) (.int .i64 m)):=by refine DP.a (x:=()) (λ w=>rfl) ?_;unfold j1;exact DP.b rfl
theorem DP.t{m}(T a:Nat)(X Y):DP P hp (λ u=>u= .int .i64 (IntKind.i64.wrap (n+m))) (do hU .add T X Y (.int .i64 n) (.int .i64 m);j1 .add T (.int .i64 n) (.int .i64 m)):=by refine DP.a (x:=()) (λ w=>rfl) ?_;unfold j1;exact DP.b rfl
theorem DP.s{s}{T:Nat}(a:P.underlying T=some .string)(X Y):DP P hp (λ u=>∃r,x= .string r) (do hU .eql T X Y x (.string s);j1 .eql T x (.string s)):=by
 have b:∀w,(hU .eql T X Y x (.string s)).run P w= .ok () w:=λ w=>by cases x<;>rfl
 refine DP.a b ?_;cases x with|string r=>exact DP.b ⟨r,rfl⟩|_=>unfold j1;simp[Op.equal,Op.maxDepth];unfold Op.equalIn;simp only;refine DP.e (Ψ:=λ _=>False) (DP.a (rC a) ?_) λ _ h=>h.elim;exact DP.c _
end dp
section
variable {d ty T s:Nat} {n:Int} {u:Nat} {S:List Nat} {o:ny} {q:ih} {x:eb} {Φ:eb->Prop}
structure Nx(a a':fu)(d:Nat)(x:eb):Prop where
 e:a'.tmps.size=a.tmps.size
 h:a'.defers=a.defers
 g:a'.eval (.tmp d)=x
 c:∀i,i≠d->a'.eval (.tmp i)=a.eval (.tmp i)
theorem O6{a}(b:d<a.tmps.size):Nx a (a.put (some d) x) d x:=by refine⟨by simp[hD],rfl,?_,λ i c=>?_⟩;all_goals simp_all[hD,hQ,Array.getElem?_setIfInBounds,Ne.symm]
structure ew(S:List Nat)(a a':fu):Prop where
 f:a'.tmps.size=a.tmps.size
 g:a'.defers=a.defers
 e:∀i,i∉S->a'.eval (.tmp i)=a.eval (.tmp i)
theorem ew.j(S)(a):ew S a a:= ⟨rfl,rfl,λ _ _=>rfl⟩
theorem ew.c{a b c}(h:ew S a b)(g:ew S b c):ew S a c:= ⟨g.f.trans h.f,g.g.trans h.g,λ i d=>(g.e i d).trans (h.e i d)⟩
theorem Nx.f{a a'}(h:Nx a a' d x)(b:d∈S):ew S a a':= ⟨h.e,h.h,λ i c=>h.c i (by grind)⟩
theorem ew.h{b a a'}(h:ew S a a')(d:∀i∈S,i∈b):ew b a a':= ⟨h.f,h.g,λ i c=>h.e i (by grind)⟩
section
variable[aW][ck][Gl]{C:dC}{X:cS}{F:Nat->Bool}{R:eH->ef->Prop}
variable{cs:List eH}{hp:Array mn}{b:eH}{a:fu}{k:List pN}{ops:Array ny}{i:Nat}{l:List Nat}
variable(OK:C.a)(hX:X.b)(hnx:∀f,C.b f=false)
include OK hX hnx
theorem At.A{id k'}(h:At C X F R cs hp (b.at a (.code (.exit id)::k)))(c:exitTo id k=some k'):At C X F R cs hp (b.at a k'):=h.g OK hX hnx λ w=>by grind[lB,kg,Frame.at]
theorem At.j{s}(h:At C X F R cs hp (b.at a (.inRegion ops (i::l)::k)))(e:ops[i]?=some o)(g:∀j,hg o (l4 ops j)=true) (f:fR a.eval o=s>>=λ v=>ma (.value v)) (c:DP C.Q hp Φ s) (n:o.dst=some d) (p:d<a.tmps.size):∃a' x,Φ x/\Nx a a' d x/\At C X F R cs hp (b.at a' (.inRegion ops l::k)):=by have⟨x,q,m⟩:=h.M OK hX hnx e g f c;grind[O6]
theorem At.L{hp' s}(h:At C X F R cs hp (b.at a (.inRegion ops (i::l)::k)))(N:ops[i]?=some o)(V:∀T,hg o (l4 ops T)=true) (P:fR a.eval o=s>>=λ v=>ma (.value v)) (L:∀w,w.heap=hp->(∃x w',s.run C.Q w= .ok x w'/\w'.heap=hp'/\Φ x)\/∃y u,s.run C.Q w= .halt y u/\jX y=true):∃x,Φ x/\At C X F R cs hp' (b.at (a.put o.dst x) (.inRegion ops l::k)):=by
 have⟨w,r,B,w2,es,I,c,J,M⟩:=h.n OK hX hnx;have K:lB C.Q true (G0 (b.at a (.inRegion ops (i::l)::k)) cs) w=stepG.apply C.Q true (b.at a (.inRegion ops (i::l)::k)) cs none (fR a.eval o) w:=by
  have H:(b.at a (.inRegion ops (i::l)::k)).eval=a.eval:=by rfl
  rw[<-H];show kg _ true _ (b.at a (.inRegion _ (i::l)::k)) _ _ w=_;grind[kg,rL,qz,Frame.at]
 rw[K,P]at c;rcases L w I with⟨x,w',z,Q,S⟩| ⟨y,u,z,A⟩
 have n:(s>>=λ v=>(ma (iA v):rH Next)).run C.Q w= .ok (.value x) w':=by simp_all
 have d:=hP C.Q (s>>=λ v=>(ma (iA v):rH Next)) w #[];rw[n]at d;simp only[stepG.apply,if_true]at c;generalize O:(s>>=λ v=>(ma (iA v):rH Next)).runT C.Q w #[]=q at c d;obtain⟨q,G⟩:=q;simp only at d;subst d;simp only[gl]at c;have e:=mb c;have f:(b.at a (.inRegion ops (i::l)::k)).finish x=r:=congrArg kp e.1;have D:cs=B:=congrArg Goroutine.callers e.1;have E:w'=w2:=e.2.1;subst D E;refine⟨x,S,?_⟩;have:=J h.x;rw[<-f,Frame.finish_at,N,Q]at this;exact this;exfalso;have n:(s>>=λ v=>(ma (iA v):rH Next)).run C.Q w= .halt y u:=by rw[ej,z];rfl
 have d:=hP C.Q (s>>=λ v=>(ma (iA v):rH Next)) w #[];rw[n]at d;simp only[stepG.apply,if_true]at c;generalize O:(s>>=λ v=>(ma (iA v):rH Next)).runT C.Q w #[]=q at c d;obtain⟨q,G⟩:=q;simp only at d;subst d;cases y with
 |panic p=>
  simp only[gl]at c;have e:=mb c;have f:(b.at a (.inRegion ops (i::l)::k)).raise [{v:=p,recovered:=false}]=r:=congrArg kp e.1;obtain⟨U,j⟩:=vN (b.at a (.inRegion ops (i::l)::k)) [{v:=p,recovered:=false}];rw[f]at j;rcases M with t|t<;>rw[t]at j<;>cases j
 |stuck m=>simp only[gl]at c;cases c
 |unsupported u=>
  cases u with
  |initOrder g=>cases A
  |_=>simp only[gl]at c;cases c
 |_=>cases A
theorem At.G{o}(h:At C X F R cs hp (b.at a (.inRegion ops (i::l)::k)))(r:ops[i]?=some o)(I:∀J,hg o (l4 ops J)=true) (E:∀w,w.heap=hp->∃y u,(fR a.eval o).run C.Q w= .halt y u/\jX y=true):False:=by
 have⟨w,A,L,w2,es,B,c,N,G⟩:=h.n OK hX hnx;have D:lB C.Q true (G0 (b.at a (.inRegion ops (i::l)::k)) cs) w=stepG.apply C.Q true (b.at a (.inRegion ops (i::l)::k)) cs none (fR a.eval o) w:=by
  have z:(b.at a (.inRegion ops (i::l)::k)).eval=a.eval:=by funext x;exact Frame.eval_at b a _ x
  rw[<-z];show kg C.Q true true (b.at a (.inRegion _ (i::l)::k)) _ _ w=_;unfold kg;have f:(b.at a (.inRegion ops (i::l)::k)).todo= .inRegion ops (i::l)::k:=rfl;rw[f];simp[r,hY,I,gw,if_true];unfold rL;have t:(b.at a (.inRegion ops (i::l)::k)).oper?=some o:=by simp[qz,Frame.at,r]
  rw[t];rfl
 rw[D]at c;have⟨y,u,H,s⟩:=E w B;have d:=hP C.Q (fR a.eval o) w #[];rw[H]at d;simp only[stepG.apply,if_true]at c;generalize O:(fR a.eval o).runT C.Q w #[]=q at c d;have⟨q,M⟩:=q;simp at d;subst d;cases y with
 |panic p=>
  simp only[gl]at c;have e:=mb c;have f:(b.at a (.inRegion ops (i::l)::k)).raise [{v:=p,recovered:=false}]=A:=congrArg kp e.1;have⟨K,j⟩:=vN (b.at a (.inRegion ops (i::l)::k)) [{v:=p,recovered:=false}];rw[f]at j;rcases G with n|n<;>rw[n]at j<;>cases j|stuck m=>simp only[gl]at c;cases c|unsupported u=>
  cases u with
  |initOrder g=>cases s
  |_=>simp only[gl]at c;cases c
 |_=>cases s
theorem At.h{f o n e}(h:At C X F R cs hp (b.at a (.inRegion ops (i::l)::k)))(j:ops[i]?=some ⟨some d,.field T (.tmp s) f,ty,"x",#[],none⟩)(g:pM C.Q T f o n e=true)(m:d<a.tmps.size):∃a' x c,a.eval (.tmp s)= .agg c/\qc c o n e x/\Nx a a' d x/\At C X F R cs hp (b.at a' (.inRegion ops l::k)):=by have⟨a',x,⟨c,p,q⟩,r,t⟩:=h.j OK hX hnx j (λ _=>rfl) rfl (DP.l g) rfl m;grind
theorem At.r{e}{n:Nat}(h:At C X F R cs hp (b.at a (.inRegion ops (i::l)::k)))(g:ops[i]?=some ⟨some d,.index T (.tmp s) (.const (.int .i64 n)),ty,"x",#[],none⟩)(f:w8 C.Q T e=true)(j:d<a.tmps.size):∃a' x c,a.eval (.tmp s)= .agg c/\c[n]?=some x/\Nx a a' d x/\At C X F R cs hp (b.at a' (.inRegion ops l::k)):=by have⟨a',x,⟨c,m,o⟩,p,q⟩:=h.j OK hX hnx g (λ _=>rfl) rfl (DP.o f) rfl j;grind
theorem At.m{m kd}(h:At C X F R cs hp (b.at a (.inRegion ops (i::l)::k)))(f:ops[i]?=some ⟨some d,.indexAddr T (.tmp s) q,ty,"x",#[],none⟩)(g:a.eval q= .int kd n)(e:nK C.Q T m=true)(j:d<a.tmps.size):∃a' ad len c,a.eval (.tmp s)= .slice (some ad) len c/\0<=n/\n<len/\Nx a a' d (.pointer (some (ad.add (n.toNat*m))))/\At C X F R cs hp (b.at a' (.inRegion ops l::k)):=by obtain⟨a',x,⟨ad,len,c,o,p,r,rfl⟩,t,u⟩:=h.j OK hX hnx f (λ _=>rfl) (s:=pc T (a.eval (.tmp s)) (.int kd n)) (by rw[<-g];rfl) (DP.h e) rfl j;grind
theorem At.y{m}(h:At C X F R cs hp (b.at a (.inRegion ops (i::l)::k)))(f:ops[i]?=some ⟨some d,.call {callee:= .builtin .len,args:= #[(.tmp s)],argTypes:= #[T]},ty,"x",#[],none⟩)(e:nK C.Q T m=true)(g:d<a.tmps.size):∃a' ad len c,a.eval (.tmp s)= .slice ad len c/\Nx a a' d (.int .i64 len)/\At C X F R cs hp (b.at a' (.inRegion ops l::k)):=by obtain⟨a',x,⟨ad,len,c,j,rfl⟩,n,o⟩:=h.j OK hX hnx f (λ _=>rfl) (s:=o2 #[T] ty ((#[kL s]).map a.eval)) rfl (by rw[show(#[kL s]).map a.eval= #[a.eval (.tmp s)]by simp];exact DP.u e) rfl g;grind
theorem At.c(h:At C X F R cs hp (b.at a (.inRegion ops (i::l)::k)))(c:ops[i]?=some ⟨some d,.binOp .lss T (.tmp s) q u,ty,"x",#[],none⟩)(e:a.eval q= .int .i64 n)(f:d<a.tmps.size):∃a' m,a.eval (.tmp s)= .int .i64 m/\Nx a a' d (.bool (m<n))/\At C X F R cs hp (b.at a' (.inRegion ops l::k)):=by obtain⟨a',x,⟨m,g,rfl⟩,j,o⟩:=h.j OK hX hnx c (λ _=>rfl) (s:=do hU .lss T (.tmp s) q (a.eval (.tmp s)) (.int .i64 n);j1 .lss T (a.eval (.tmp s)) (.int .i64 n)) (by rw[<-e];rfl) (DP.r T u (.tmp s) q) rfl f;grind
theorem At.w(h:At C X F R cs hp (b.at a (.inRegion ops (i::l)::k)))(c:ops[i]?=some ⟨some d,.binOp .lss T (.const (.int .i64 n)) (.tmp s) u,ty,"x",#[],none⟩)(e:d<a.tmps.size):∃a' m,a.eval (.tmp s)= .int .i64 m/\Nx a a' d (.bool (n<m))/\At C X F R cs hp (b.at a' (.inRegion ops l::k)):=by obtain⟨a',x,⟨m,f,rfl⟩,g,j⟩:=h.j OK hX hnx c (λ _=>rfl) (s:=do hU .lss T (.const (.int .i64 n)) (.tmp s) (.int .i64 n) (a.eval (.tmp s));j1 .lss T (.int .i64 n) (a.eval (.tmp s))) rfl (DP.k T u (.const (.int .i64 n)) (.tmp s)) rfl e;grind
theorem At.H{t:Nat}{m}(h:At C X F R cs hp (b.at a (.inRegion ops (i::l)::k)))(c:ops[i]?=some ⟨some d,.binOp .neq T (.tmp s) (.tmp t) u,ty,"x",#[],none⟩)(h1:a.eval (.tmp s)= .int .i64 n)(h2:a.eval (.tmp t)= .int .i64 m)(e:d<a.tmps.size):∃a',Nx a a' d (.bool (n !=m))/\At C X F R cs hp (b.at a' (.inRegion ops l::k)):=by obtain⟨a',x,rfl,f,g⟩:=h.j OK hX hnx c (λ _=>rfl) (s:=do hU .neq T (.tmp s) (.tmp t) (.int .i64 n) (.int .i64 m);j1 .neq T (.int .i64 n) (.int .i64 m)) (by rw[<-h1,<-h2];rfl) (DP.q T u (.tmp s) (.tmp t)) rfl e;grind
theorem At.B{m}(h:At C X F R cs hp (b.at a (.inRegion ops (i::l)::k)))(c:ops[i]?=some ⟨some d,.binOp .add T (.tmp s) (.const (.int .i64 m)) u,ty,"x",#[],none⟩)(h1:a.eval (.tmp s)= .int .i64 n)(e:d<a.tmps.size):∃a',Nx a a' d (.int .i64 (IntKind.i64.wrap (n+m)))/\At C X F R cs hp (b.at a' (.inRegion ops l::k)):=by obtain⟨a',x,rfl,f,g⟩:=h.j OK hX hnx c (λ _=>rfl) (s:=do hU .add T (.tmp s) (.const (.int .i64 m)) (.int .i64 n) (.int .i64 m);j1 .add T (.int .i64 n) (.int .i64 m)) (by rw[<-h1];rfl) (DP.t T u (.tmp s) (.const (.int .i64 m))) rfl e;grind
theorem At.I{z}(h:At C X F R cs hp (b.at a (.inRegion ops (i::l)::k)))(e:ops[i]?=some ⟨some d,.binOp .eql T (.tmp s) (.const (.string z)) u,ty,"x",#[],none⟩)(c:C.Q.underlying T=some .string)(f:d<a.tmps.size):∃a' x r,a.eval (.tmp s)= .string r/\Nx a a' d x/\At C X F R cs hp (b.at a' (.inRegion ops l::k)):=by have⟨a',x,⟨r,g⟩,j,m⟩:=h.j OK hX hnx e (λ _=>rfl) (s:=do hU .eql T (.tmp s) (.const (.string z)) (a.eval (.tmp s)) (.string z);j1 .eql T (a.eval (.tmp s)) (.string z)) rfl (DP.s c (.tmp s) (.const (.string z))) rfl f;grind
theorem At.D{t m:Nat}(h:At C X F R cs hp (b.at a (.inRegion ops (i::l)::k)))(f:ops[i]?=some ⟨some d,.slice T (.tmp s) none (some (.tmp t)) none,ty,"x",#[],none⟩)(j:a.eval (.tmp t)= .int .i64 n)(e:nK C.Q T m=true)(g:d<a.tmps.size):∃a' x ad len c,a.eval (.tmp s)= .slice ad len c/\n<=c/\Nx a a' d x/\At C X F R cs hp (b.at a' (.inRegion ops l::k)):=by have⟨a',x,⟨ad,len,c,o,p⟩,q,r⟩:=h.j OK hX hnx f (λ _=>rfl) (s:=pk T (a.eval (.tmp s)) none (some (.int .i64 n)) none) (by rw[<-j];rfl) (DP.w e) rfl g;grind
theorem At.p(h:At C X F R cs hp (b.at a (.inRegion ops (i::l)::k)))(c:ops[i]?=some ⟨some d,.move q,ty,"x",#[],none⟩)(e:d<a.tmps.size):∃a',Nx a a' d (a.eval q)/\At C X F R cs hp (b.at a' (.inRegion ops l::k)):=by obtain⟨a',x,rfl,f,g⟩:=h.j OK hX hnx c (λ _=>rfl) (s:=ma (a.eval q)) rfl (DP.b (Φ:=λ x=>x=a.eval q) rfl) rfl e;grind
theorem At.t{n ad}(h:At C X F R cs hp (b.at a (.inRegion ops (i::l)::k)))(q:ops[i]?=some ⟨some d,.load T (.tmp s),ty,"x",#[],none⟩)(c:a.eval (.tmp s)= .pointer (some ad))(j:oQ C.Q T n true=true)(p:0<n)(r:d<a.tmps.size):∃a' x,Rc hp ad n x/\Nx a a' d x/\At C X F R cs hp (b.at a' (.inRegion ops l::k)):=by
 have m:a.tmps[s]?=some (.pointer (some ad)):=by have c:a.tmps.getD s hh= .pointer (some ad):=c;rw[fb]at c;cases e:a.tmps[s]? with|none=>rw[e]at c;cases c|some v=>grind
 have⟨o,f,g⟩:=h.E (fr:=b.at a _) (i:=s) m (ad:=ad) (.inl rfl);have⟨a',x,w,t,u⟩:=h.j OK hX hnx q (λ _=>rfl) (s:=pH T (.pointer (some ad))) (by rw[<-c];rfl) (DP.f j p f g) rfl r;grind
end
end
section
local instance:Abs.Dr:= ⟨false⟩
theorem XB:pM CQ.Q 138 0 0 2 true=true:=by kernel_rfl
theorem agi:pM CQ.Q 25 0 0 1 false=true:=by kernel_rfl
theorem aeh:pM CQ.Q 25 1 1 1 false=true:=by kernel_rfl
theorem ai1:pM CQ.Q 136 0 0 1 false=true:=by kernel_rfl
theorem aaa:pM CQ.Q 136 1 1 1 false=true:=by kernel_rfl
theorem adQ:pM CQ.Q 149 0 0 6 true=true:=by kernel_rfl
theorem VX:pM CQ.Q 149 1 6 6 true=true:=by kernel_rfl
theorem Di:w8 CQ.Q 168 3=true:=by kernel_rfl
theorem oe:w8 CQ.Q 147 3=true:=by kernel_rfl
theorem Dw:nK CQ.Q 22 2=true:=by kernel_rfl
theorem Da:nK CQ.Q 23 2=true:=by kernel_rfl
theorem BQ:nK CQ.Q 191 12=true:=by kernel_rfl
theorem Yw:oQ CQ.Q 136 2 true=true:=by kernel_rfl
theorem aaA:oQ CQ.Q 168 2 true=true:=by kernel_rfl
theorem ahv:oQ CQ.Q 149 12 true=true:=by kernel_rfl
theorem cU9:CQ.Q.underlying 9=some .string:=by kernel_rfl
section
variable[aW]{X:cS}{F:Nat->Bool}{R:eH->ef->Prop}
variable{cs:List eH}{hp:Array mn}{b:eH}{a:fu}{k:List pN}
variable(OK:CQ.a)(hX:X.b)
def HY(hp:Array mn)(ad:k9)(i:Nat):=∃c ty fr s z,hp[ad.block]?=some (.cells c ty fr)/\(ad.add (i*2)).spot=none/\c[ad.off+i*2]?=some (.string s)/\c[ad.off+i*2+1]?=some (.int .i64 z)
def gu:= [43,44,45,46,47,48,49,52,53,54,62,63]
include OK hX
theorem ac7{n c ad}(aF:n<1000000):∀(l m:Nat) a,m+l=n->At CQ X F R cs hp (b.at a (.code (.loop (.seq (.region 211 #[⟨some 44,.binOp .lss 3 (.tmp 43) (.tmp 33) 3,0,"x",#[],none⟩] false) (.seq (.cond (.tmp 44) .skip (.exit 210)) (.region 212 #[⟨some 45,.indexAddr 22 (.tmp 31) (.tmp 43),0,"x",#[],none⟩,⟨some 46,.load 136 (.tmp 45),0,"x",#[],none⟩,⟨some 62,.field 136 (.tmp 46) 0,0,"x",#[],none⟩,⟨some 63,.binOp .eql 9 (.tmp 62) (.const (.string ⟨⟨[]⟩⟩)) 9,0,"x",#[],none⟩,⟨some 62,.field 136 (.tmp 46) 1,0,"x",#[],none⟩,⟨some 63,.binOp .lss 3 (.tmp 62) (.const (.int .i64 0)) 3,0,"x",#[],none⟩,⟨some 47,.binOp .add 3 (.tmp 43) (.const (.int .i64 1)) 3,0,"x",#[],none⟩,⟨some 43,.move (.tmp 47),0,"x",#[],none⟩] false)))):: .inBlock 210::k))->a.tmps.size=64->a.eval (.tmp 31)= .slice (some ad) n c->a.eval (.tmp 33)= .int .i64 n->a.eval (.tmp 43)= .int .i64 m->∃a',ew gu a a'/\(∀i,m<=i->i<n->HY hp ad i)/\At CQ X F R cs hp (b.at a' k):=by
 have d:∀f,CQ.b f=false:=λ _=>rfl
 suffices H:∀L,L=(.seq (.region 211 #[⟨some 44,.binOp .lss 3 (.tmp 43) (.tmp 33) 3,0,"x",#[],none⟩] false) (.seq (.cond (.tmp 44) .skip (.exit 210)) (.region 212 #[⟨some 45,.indexAddr 22 (.tmp 31) (.tmp 43),0,"x",#[],none⟩,⟨some 46,.load 136 (.tmp 45),0,"x",#[],none⟩,⟨some 62,.field 136 (.tmp 46) 0,0,"x",#[],none⟩,⟨some 63,.binOp .eql 9 (.tmp 62) (.const (.string ⟨⟨[]⟩⟩)) 9,0,"x",#[],none⟩,⟨some 62,.field 136 (.tmp 46) 1,0,"x",#[],none⟩,⟨some 63,.binOp .lss 3 (.tmp 62) (.const (.int .i64 0)) 3,0,"x",#[],none⟩,⟨some 47,.binOp .add 3 (.tmp 43) (.const (.int .i64 1)) 3,0,"x",#[],none⟩,⟨some 43,.move (.tmp 47),0,"x",#[],none⟩] false)))->
  ∀l m a,m+l=n->At CQ X F R cs hp (b.at a (.code L:: .inLoop L:: .inBlock 210::k))->
  a.tmps.size=64->a.eval (.tmp 31)= .slice (some ad) n c->a.eval (.tmp 33)= .int .i64 n->a.eval (.tmp 43)= .int .i64 m->
  ∃a',ew gu a a'/\(∀i,m<=i->i<n->HY hp ad i)/\At CQ X F R cs hp (b.at a' k)by
  intro l m a A h;exact H _ rfl _ m a A (h.z OK hX d)
 intro L r l
 induction l with|zero=>
  intro m a A h S I x y;have aj:=r;rw[r]at h;have h:=h.f OK hX d;have h:=h.e OK hX d;have h:At CQ X F R cs hp (b.at a (.inRegion _ [0]::_)):=h;have⟨z,m1,g,e,h⟩:=h.c OK hX d rfl x (by omega);rw[y]at g;cases g;have h:=(h.d OK hX d).f OK hX d;have⟨t,j,h⟩:=h.l OK hX d;rw[e.g]at j;have j:=eo j;have B:t=false:=by grind
  subst B;simp[hy,if_false]at h;have h:=h.A OK hX d (k':=k) (by rfl);exact⟨_,e.f (by decide),by omega,h⟩|succ l T=>
  intro m a A h S I x y;have aj:=r;generalize aA:L=Y at T;have Q:At CQ X F R cs hp (b.at a (.code L:: .inLoop Y:: .inBlock 210::k)):=by grind
  rw[r]at Q;have h:=Q.f OK hX d;have h:=h.e OK hX d;have h:At CQ X F R cs hp (b.at a (.inRegion _ [0]::_)):=h;have⟨z,m1,g,e,h⟩:=h.c OK hX d rfl x (by omega);rw[y]at g;cases g;have h:=(h.d OK hX d).f OK hX d;have⟨t,j,h⟩:=h.l OK hX d;rw[e.g]at j;have j:=eo j;have B:t=true:=by grind
  subst B;simp[if_true]at h;have h:=(h.o OK hX d).e OK hX d;have h:At CQ X F R cs hp (b.at z (.inRegion _ [0,1,2,3,4,5,6,7]::_)):=h;have al:z.tmps.size=64:=e.e.trans S;have⟨Z,aw,aH,c2,J,_,_,s,h⟩:=h.m OK hX d rfl (n:=m) (kd:= .i64) (by rw[e.c 43 (by decide)];omega) Dw (by omega);rw[e.c 31 (by decide),I]at J;cases J;have am:Z.tmps.size=64:=s.e.trans al;obtain⟨aa,aJ,⟨vs,ax,ty,fr,rfl,aI,E,V,G⟩,o,h⟩:=h.t OK hX d rfl s.g Yw (by decide) (by omega);have an:aa.tmps.size=64:=o.e.trans am;have⟨ab,aK,ay,M,p4,p,h⟩:=h.h OK hX d rfl ai1 (by omega);rw[o.g]at M;cases M;have ao:ab.tmps.size=64:=p.e.trans an;have⟨ac,aL,ak,N,u,h⟩:=h.I OK hX d rfl cU9 (by omega);rw[p.g]at N;subst N;have ap:ac.tmps.size=64:=u.e.trans ao;have⟨ae,aM,az,O,U,v,h⟩:=h.h OK hX d rfl aaa (by omega);rw[u.c 46 (by decide),p.c 46 (by decide),o.g]at O;cases O;have aq:ae.tmps.size=64:=v.e.trans ap;have⟨af,aN,P,C,h⟩:=h.c OK hX d rfl (n:=0) rfl (by omega);rw[v.g]at P;subst P;have ar:af.tmps.size=64:=C.e.trans aq;have⟨ag,D,h⟩:=h.B OK hX d rfl (n:=m) (by rw[C.c _ (by decide),v.c _ (by decide),u.c _ (by decide),p.c _ (by decide),o.c _ (by decide),s.c _ (by decide),e.c 43 (by decide)];omega) (by omega);have au:ag.tmps.size=64:=D.e.trans ar;have⟨q,w,h⟩:=h.p OK hX d rfl (by omega);have av:q.tmps.size=64:=w.e.trans au;rw[D.g]at w;have K:ew gu a q:=((((((((e.f (by decide)).c (s.f (by decide))).c (o.f (by decide))).c (p.f (by decide))).c (u.f (by decide))).c (v.f (by decide))).c (C.f (by decide))).c (D.f (by decide))).c (w.f (by decide));have h:=(h.d OK hX d).q OK hX d;have ai:q.eval (.tmp 43)= .int .i64 ((m+1:Nat):Int):=by
   rw[w.g,Abs.nu (by omega) (by omega)];rfl
  have⟨a',W,aG,h⟩:=T (m+1) q (by omega) (by omega) av (by rw[K.e 31 (by decide)];omega) (by rw[K.e 33 (by decide)];omega) ai;refine⟨a',K.c W,λ i aC aD=>?_,h⟩;rcases jc m i with aE|aB
  grind
  have:i=m:=by omega
  subst this;have ah:=(qT ad (i*2)).1;have g:=(qT ad (i*2)).2;simp only[lb]at E V G;rw[ah]at G;rw[g]at E;unfold qc at p4 U;exact⟨_,_,_,ak,_,E,V,by grind,(G 1 (by decide)).trans U⟩
end
end
section
local instance:Abs.Dr:= ⟨false⟩
section
variable[aW]{X:cS}{F:Nat->Bool}{R:eH->ef->Prop}
variable{cs:List eH}{hp:Array mn}{b:eH}{a:fu}{k:List pN}{ops:Array ny}{i j:Nat}{l:List Nat}
variable(OK:CQ.a)(hX:X.b)
def FU(hp:Array mn)(ad:k9)(i:Nat):=∃c ty fr x y,hp[ad.block]?=some (.cells c ty fr)/\(ad.add (i*2)).spot=none/\c[ad.off+i*2]?=some (.int .i64 x)/\c[ad.off+i*2+1]?=some (.int .i64 y)/\x≠y
def FQ(hp:Array mn)(ad:k9)(i:Nat):=∃c ty fr,hp[ad.block]?=some (.cells c ty fr)/\(ad.add (i*12)).spot=none/\∀j,j<12->∃z,c[ad.off+i*12+j]?=some (.int .i64 z)
include OK hX
theorem l8{T e s n ty E:Nat}{g}(h:At CQ X F R cs hp (b.at a (.inRegion ops (i::j::l)::k)))(A:ops[i]?=some ⟨some 62,.index T (.tmp s) (.const (.int .i64 n)),ty,"x",#[],none⟩) (B:ops[j]?=some ⟨some 63,.binOp .lss 3 (.tmp 62) (.const (.int .i64 0)) 3,E,"x",#[],none⟩) (y:w8 CQ.Q T e=true) (C:a.eval (.tmp s)= .agg g) (r:a.tmps.size=64):∃a' z,g[n]?=some (.int .i64 z)/\ew gu a a'/\a'.tmps.size=64/\(∀i,i≠62->i≠63->a'.eval (.tmp i)=a.eval (.tmp i))/\At CQ X F R cs hp (b.at a' (.inRegion ops l::k)):=by have q:∀f,CQ.b f=false:=λ _=>rfl;have⟨u,H,G,o,D,c,h⟩:=h.r OK hX q A y (by rw[r];decide);rw[C]at o;cases o;have t:u.tmps.size=64:=c.e.trans r;have⟨v,m,p,d,h⟩:=h.c OK hX q B (n:=0) rfl (by rw[t];decide);rw[c.g]at p;subst p;exact⟨v,m,D,(c.f (by decide)).c (d.f (by decide)),d.e.trans t,λ i w x=>(d.c i x).trans (c.c i w),h⟩
theorem ahx{n c ad}(aS:n<1000000):∀(l m:Nat) a,m+l=n->At CQ X F R cs hp (b.at a (.code (.loop (.seq (.region 221 #[⟨some 44,.binOp .lss 3 (.tmp 43) (.tmp 34) 3,0,"x",#[],none⟩] false) (.seq (.cond (.tmp 44) .skip (.exit 220)) (.seq (.region 222 #[⟨some 45,.indexAddr 23 (.tmp 32) (.tmp 43),0,"x",#[],none⟩,⟨some 46,.load 168 (.tmp 45),0,"x",#[],none⟩,⟨some 62,.index 168 (.tmp 46) (.const (.int .i64 0)),0,"x",#[],none⟩,⟨some 63,.binOp .lss 3 (.tmp 62) (.const (.int .i64 0)) 3,0,"x",#[],none⟩,⟨some 62,.index 168 (.tmp 46) (.const (.int .i64 1)),0,"x",#[],none⟩,⟨some 63,.binOp .lss 3 (.tmp 62) (.const (.int .i64 0)) 3,0,"x",#[],none⟩,⟨some 48,.index 168 (.tmp 46) (.const (.int .i64 0)),0,"x",#[],none⟩,⟨some 49,.index 168 (.tmp 46) (.const (.int .i64 1)),0,"x",#[],none⟩,⟨some 52,.binOp .neq 3 (.tmp 48) (.tmp 49) 3,0,"x",#[],none⟩] false) (.seq (.cond (.tmp 52) .skip (.refuse "x")) (.region 223 #[⟨some 47,.binOp .add 3 (.tmp 43) (.const (.int .i64 1)) 3,0,"x",#[],none⟩,⟨some 43,.move (.tmp 47),0,"x",#[],none⟩] false)))))):: .inBlock 220::k))->a.tmps.size=64->a.eval (.tmp 32)= .slice (some ad) n c->a.eval (.tmp 34)= .int .i64 n->a.eval (.tmp 43)= .int .i64 m->∃a',ew gu a a'/\(∀i,m<=i->i<n->FU hp ad i)/\At CQ X F R cs hp (b.at a' k):=by
 have d:∀f,CQ.b f=false:=λ _=>rfl
 suffices H:∀L,L=(.seq (.region 221 #[⟨some 44,.binOp .lss 3 (.tmp 43) (.tmp 34) 3,0,"x",#[],none⟩] false) (.seq (.cond (.tmp 44) .skip (.exit 220)) (.seq (.region 222 #[⟨some 45,.indexAddr 23 (.tmp 32) (.tmp 43),0,"x",#[],none⟩,⟨some 46,.load 168 (.tmp 45),0,"x",#[],none⟩,⟨some 62,.index 168 (.tmp 46) (.const (.int .i64 0)),0,"x",#[],none⟩,⟨some 63,.binOp .lss 3 (.tmp 62) (.const (.int .i64 0)) 3,0,"x",#[],none⟩,⟨some 62,.index 168 (.tmp 46) (.const (.int .i64 1)),0,"x",#[],none⟩,⟨some 63,.binOp .lss 3 (.tmp 62) (.const (.int .i64 0)) 3,0,"x",#[],none⟩,⟨some 48,.index 168 (.tmp 46) (.const (.int .i64 0)),0,"x",#[],none⟩,⟨some 49,.index 168 (.tmp 46) (.const (.int .i64 1)),0,"x",#[],none⟩,⟨some 52,.binOp .neq 3 (.tmp 48) (.tmp 49) 3,0,"x",#[],none⟩] false) (.seq (.cond (.tmp 52) .skip (.refuse "x")) (.region 223 #[⟨some 47,.binOp .add 3 (.tmp 43) (.const (.int .i64 1)) 3,0,"x",#[],none⟩,⟨some 43,.move (.tmp 47),0,"x",#[],none⟩] false)))))->
  ∀l m a,m+l=n->At CQ X F R cs hp (b.at a (.code L:: .inLoop L:: .inBlock 220::k))->
  a.tmps.size=64->a.eval (.tmp 32)= .slice (some ad) n c->a.eval (.tmp 34)= .int .i64 n->a.eval (.tmp 43)= .int .i64 m->
  ∃a',ew gu a a'/\(∀i,m<=i->i<n->FU hp ad i)/\At CQ X F R cs hp (b.at a' k)by
  intro l m a I h;exact H _ rfl l m a I (h.z OK hX d)
 intro L W l
 induction l with|zero=>
  intro m a I h z J y r;rw[W]at h;have h:=h.f OK hX d;have h:=h.e OK hX d;have h:At CQ X F R cs hp (b.at a (.inRegion _ [0]::_)):=h;have⟨w,m1,o,j,h⟩:=h.c OK hX d rfl y (by rw[z];decide);rw[r]at o;cases o;have h:=(h.d OK hX d).f OK hX d;have⟨t,g,h⟩:=h.l OK hX d;rw[j.g]at g;have g:=eo g;have p:t=false:=by rw[<-g];simp;omega
  subst p;simp[hy,if_false]at h;have h:=h.A OK hX d (k':=k) (by simp[exitTo]);exact⟨w,j.f (by decide),λ i aO aP=>by omega,h⟩|succ l aa=>
  intro m a I h z J y r;generalize Y:L=au at aa;have V:At CQ X F R cs hp (b.at a (.code L:: .inLoop au:: .inBlock 220::k)):=by rw[<-Y];exact h
  rw[W]at V;have h:=V.f OK hX d;have h:=h.e OK hX d;have h:At CQ X F R cs hp (b.at a (.inRegion _ [0]::_)):=h;have⟨w,m1,o,j,h⟩:=h.c OK hX d rfl y (by rw[z];decide);rw[r]at o;cases o;have h:=(h.d OK hX d).f OK hX d;have⟨t,g,h⟩:=h.l OK hX d;rw[j.g]at g;have g:=eo g;have p:t=true:=by rw[<-g];simp;omega
  subst p;simp[if_true]at h;have h:=(h.o OK hX d).f OK hX d;have h:=h.e OK hX d;have h:At CQ X F R cs hp (b.at w (.inRegion _ [0,1,2,3,4,5,6,7,8]::_)):=h;have ah:w.tmps.size=64:=j.e.trans z;have⟨av,aL,aT,c2,S,_,_,A,h⟩:=h.m OK hX d rfl (n:=m) (kd:= .i64) (by rw[j.c 43 (by decide)];exact r) Da (by rw[ah];decide);rw[j.c 32 (by decide),J]at S;cases S;have ai:av.tmps.size=64:=A.e.trans ah;obtain⟨aw,aV,⟨vs,aA,ty,fr,rfl,aU,O,ag,E⟩,q,h⟩:=h.t OK hX d rfl A.g aaA (by decide) (by rw[ai];decide);have aG:aw.tmps.size=64:=q.e.trans ai;have⟨aJ,P,ab,ap,aH,D,h⟩:=l8 OK hX h (n:=0) rfl rfl Di q.g aG;obtain⟨aK,Q,ac,aq,aj,N,h⟩:=l8 OK hX h (n:=1) rfl rfl Di (by rw[D 46 (by decide) (by decide)];exact q.g) aH;have⟨ax,aW,aM,T,ae,u,h⟩:=h.r OK hX d (n:=0) rfl Di (by rw[aj];decide);rw[N 46 (by decide) (by decide),D 46 (by decide) (by decide),q.g]at T;cases T;rw[ab]at ae;cases ae;have ak:ax.tmps.size=64:=u.e.trans aj;have⟨ay,aX,aN,U,af,v,h⟩:=h.r OK hX d (n:=1) rfl Di (by rw[ak];decide);rw[u.c 46 (by decide),N 46 (by decide) (by decide),D 46 (by decide) (by decide),q.g]at U;cases U;rw[ac]at af;cases af;have al:ay.tmps.size=64:=v.e.trans ak;have⟨G,B,h⟩:=h.H OK hX d rfl (n:=P) (m:=Q) (by rw[v.c 48 (by decide)];exact u.g) v.g (by rw[al];decide);have am:G.tmps.size=64:=B.e.trans al;have h:=(h.d OK hX d).f OK hX d;have⟨t,s,h⟩:=h.l OK hX d;rw[B.g]at s;have s:=eo s;have Z:P≠Q:=by
   intro e;have p:t=false:=by rw[<-s,e];simp
   rw[p]at h;exact h.u OK hX d
  have p:t=true:=by rw[<-s];simpa using Z
  subst p;simp[if_true]at h;have h:=(h.o OK hX d).e OK hX d;have h:At CQ X F R cs hp (b.at G (.inRegion _ [0,1]::_)):=h;have ar:ew gu a G:=(((((((j.f (by decide)).c (A.f (by decide))).c (q.f (by decide))).c ap).c aq).c (u.f (by decide))).c (v.f (by decide))).c (B.f (by decide));have⟨az,M,h⟩:=h.B OK hX d rfl (n:=m) (by rw[B.c 43 (by decide),v.c 43 (by decide),u.c 43 (by decide),N 43 (by decide) (by decide),D 43 (by decide) (by decide),q.c 43 (by decide),A.c 43 (by decide),j.c 43 (by decide)];exact r) (by rw[am];decide);have an:az.tmps.size=64:=M.e.trans am;have⟨x,C,h⟩:=h.p OK hX d rfl (by rw[an];decide);have aI:x.tmps.size=64:=C.e.trans an;rw[M.g]at C;have K:ew gu a x:=(ar.c (M.f (by decide))).c (C.f (by decide));have h:=(h.d OK hX d).q OK hX d;have aC:x.eval (.tmp 43)= .int .i64 ((m+1:Nat):Int):=by
   rw[C.g,Abs.nu (by omega) (by omega)];rfl
  have⟨a',ao,aF,h⟩:=aa (m+1) x (by omega) (by rw[<-Y]at h⊢;exact h) aI (by rw[K.e 32 (by decide)];exact J) (by rw[K.e 34 (by decide)];exact y) aC;refine⟨a',K.c ao,λ i aR aD=>?_,h⟩;rcases jc m i with aE|aQ
  exact aF i aE aD;have:i=m:=by omega
  subst this;have aB:=(qT ad (i*2)).1;have o:=(qT ad (i*2)).2;simp only[lb]at O ag E;rw[aB]at E;rw[o]at O;exact⟨aA,ty,fr,P,Q,O,ag,(E 0 (by decide)).trans ab,(E 1 (by decide)).trans ac,Z⟩
end
end
section
local instance:Abs.Dr:= ⟨false⟩
section
variable[aW]{X:cS}{F:Nat->Bool}{R:eH->ef->Prop}
variable{cs:List eH}{hp:Array mn}{b:eH}{a:fu}{k:List pN}{ops:Array ny}{i j:Nat}{l:List Nat}
variable(OK:CQ.a)(hX:X.b)
include OK hX
theorem ah2{n c ad}(cI:n<1000000):∀(r m:Nat) a,m+r=n->At CQ X F R cs hp (b.at a (.code (.loop (.seq (.region 231 #[⟨some 44,.binOp .lss 3 (.tmp 43) (.tmp 35) 3,0,"x",#[],none⟩] false) (.seq (.cond (.tmp 44) .skip (.exit 230)) (.region 232 #[⟨some 45,.indexAddr 191 (.tmp 1) (.tmp 43),0,"x",#[],none⟩,⟨some 46,.load 149 (.tmp 45),0,"x",#[],none⟩,⟨some 53,.field 149 (.tmp 46) 0,0,"x",#[],none⟩,⟨some 54,.field 149 (.tmp 46) 1,0,"x",#[],none⟩,⟨some 62,.index 147 (.tmp 53) (.const (.int .i64 0)),0,"x",#[],none⟩,⟨some 63,.binOp .lss 3 (.tmp 62) (.const (.int .i64 0)) 3,0,"x",#[],none⟩,⟨some 62,.index 147 (.tmp 53) (.const (.int .i64 1)),0,"x",#[],none⟩,⟨some 63,.binOp .lss 3 (.tmp 62) (.const (.int .i64 0)) 3,0,"x",#[],none⟩,⟨some 62,.index 147 (.tmp 53) (.const (.int .i64 2)),0,"x",#[],none⟩,⟨some 63,.binOp .lss 3 (.tmp 62) (.const (.int .i64 0)) 3,0,"x",#[],none⟩,⟨some 62,.index 147 (.tmp 53) (.const (.int .i64 3)),0,"x",#[],none⟩,⟨some 63,.binOp .lss 3 (.tmp 62) (.const (.int .i64 0)) 3,0,"x",#[],none⟩,⟨some 62,.index 147 (.tmp 53) (.const (.int .i64 4)),0,"x",#[],none⟩,⟨some 63,.binOp .lss 3 (.tmp 62) (.const (.int .i64 0)) 3,0,"x",#[],none⟩,⟨some 62,.index 147 (.tmp 53) (.const (.int .i64 5)),0,"x",#[],none⟩,⟨some 63,.binOp .lss 3 (.tmp 62) (.const (.int .i64 0)) 3,0,"x",#[],none⟩,⟨some 62,.index 147 (.tmp 54) (.const (.int .i64 0)),0,"x",#[],none⟩,⟨some 63,.binOp .lss 3 (.tmp 62) (.const (.int .i64 0)) 3,0,"x",#[],none⟩,⟨some 62,.index 147 (.tmp 54) (.const (.int .i64 1)),0,"x",#[],none⟩,⟨some 63,.binOp .lss 3 (.tmp 62) (.const (.int .i64 0)) 3,0,"x",#[],none⟩,⟨some 62,.index 147 (.tmp 54) (.const (.int .i64 2)),0,"x",#[],none⟩,⟨some 63,.binOp .lss 3 (.tmp 62) (.const (.int .i64 0)) 3,0,"x",#[],none⟩,⟨some 62,.index 147 (.tmp 54) (.const (.int .i64 3)),0,"x",#[],none⟩,⟨some 63,.binOp .lss 3 (.tmp 62) (.const (.int .i64 0)) 3,0,"x",#[],none⟩,⟨some 62,.index 147 (.tmp 54) (.const (.int .i64 4)),0,"x",#[],none⟩,⟨some 63,.binOp .lss 3 (.tmp 62) (.const (.int .i64 0)) 3,0,"x",#[],none⟩,⟨some 62,.index 147 (.tmp 54) (.const (.int .i64 5)),0,"x",#[],none⟩,⟨some 63,.binOp .lss 3 (.tmp 62) (.const (.int .i64 0)) 3,0,"x",#[],none⟩,⟨some 47,.binOp .add 3 (.tmp 43) (.const (.int .i64 1)) 3,0,"x",#[],none⟩,⟨some 43,.move (.tmp 47),0,"x",#[],none⟩] false)))):: .inBlock 230::k))->a.tmps.size=64->a.eval (.tmp 1)= .slice (some ad) n c->a.eval (.tmp 35)= .int .i64 n->a.eval (.tmp 43)= .int .i64 m->∃a',ew gu a a'/\(∀i,m<=i->i<n->FQ hp ad i)/\At CQ X F R cs hp (b.at a' k):=by
 have d:∀f,CQ.b f=false:=λ _=>rfl
 suffices H:∀L,L=(.seq (.region 231 #[⟨some 44,.binOp .lss 3 (.tmp 43) (.tmp 35) 3,0,"x",#[],none⟩] false) (.seq (.cond (.tmp 44) .skip (.exit 230)) (.region 232 #[⟨some 45,.indexAddr 191 (.tmp 1) (.tmp 43),0,"x",#[],none⟩,⟨some 46,.load 149 (.tmp 45),0,"x",#[],none⟩,⟨some 53,.field 149 (.tmp 46) 0,0,"x",#[],none⟩,⟨some 54,.field 149 (.tmp 46) 1,0,"x",#[],none⟩,⟨some 62,.index 147 (.tmp 53) (.const (.int .i64 0)),0,"x",#[],none⟩,⟨some 63,.binOp .lss 3 (.tmp 62) (.const (.int .i64 0)) 3,0,"x",#[],none⟩,⟨some 62,.index 147 (.tmp 53) (.const (.int .i64 1)),0,"x",#[],none⟩,⟨some 63,.binOp .lss 3 (.tmp 62) (.const (.int .i64 0)) 3,0,"x",#[],none⟩,⟨some 62,.index 147 (.tmp 53) (.const (.int .i64 2)),0,"x",#[],none⟩,⟨some 63,.binOp .lss 3 (.tmp 62) (.const (.int .i64 0)) 3,0,"x",#[],none⟩,⟨some 62,.index 147 (.tmp 53) (.const (.int .i64 3)),0,"x",#[],none⟩,⟨some 63,.binOp .lss 3 (.tmp 62) (.const (.int .i64 0)) 3,0,"x",#[],none⟩,⟨some 62,.index 147 (.tmp 53) (.const (.int .i64 4)),0,"x",#[],none⟩,⟨some 63,.binOp .lss 3 (.tmp 62) (.const (.int .i64 0)) 3,0,"x",#[],none⟩,⟨some 62,.index 147 (.tmp 53) (.const (.int .i64 5)),0,"x",#[],none⟩,⟨some 63,.binOp .lss 3 (.tmp 62) (.const (.int .i64 0)) 3,0,"x",#[],none⟩,⟨some 62,.index 147 (.tmp 54) (.const (.int .i64 0)),0,"x",#[],none⟩,⟨some 63,.binOp .lss 3 (.tmp 62) (.const (.int .i64 0)) 3,0,"x",#[],none⟩,⟨some 62,.index 147 (.tmp 54) (.const (.int .i64 1)),0,"x",#[],none⟩,⟨some 63,.binOp .lss 3 (.tmp 62) (.const (.int .i64 0)) 3,0,"x",#[],none⟩,⟨some 62,.index 147 (.tmp 54) (.const (.int .i64 2)),0,"x",#[],none⟩,⟨some 63,.binOp .lss 3 (.tmp 62) (.const (.int .i64 0)) 3,0,"x",#[],none⟩,⟨some 62,.index 147 (.tmp 54) (.const (.int .i64 3)),0,"x",#[],none⟩,⟨some 63,.binOp .lss 3 (.tmp 62) (.const (.int .i64 0)) 3,0,"x",#[],none⟩,⟨some 62,.index 147 (.tmp 54) (.const (.int .i64 4)),0,"x",#[],none⟩,⟨some 63,.binOp .lss 3 (.tmp 62) (.const (.int .i64 0)) 3,0,"x",#[],none⟩,⟨some 62,.index 147 (.tmp 54) (.const (.int .i64 5)),0,"x",#[],none⟩,⟨some 63,.binOp .lss 3 (.tmp 62) (.const (.int .i64 0)) 3,0,"x",#[],none⟩,⟨some 47,.binOp .add 3 (.tmp 43) (.const (.int .i64 1)) 3,0,"x",#[],none⟩,⟨some 43,.move (.tmp 47),0,"x",#[],none⟩] false)))->
  ∀r m a,m+r=n->At CQ X F R cs hp (b.at a (.code L:: .inLoop L:: .inBlock 230::k))->
  a.tmps.size=64->a.eval (.tmp 1)= .slice (some ad) n c->a.eval (.tmp 35)= .int .i64 n->a.eval (.tmp 43)= .int .i64 m->
  ∃a',ew gu a a'/\(∀i,m<=i->i<n->FQ hp ad i)/\At CQ X F R cs hp (b.at a' k)by
  intro r m a Y h;exact H _ rfl r m a Y (h.z OK hX d)
 intro L aJ r
 induction r with
 |zero=>
  intro m a Y h U Z T v;rw[aJ]at h;have h:=h.f OK hX d;have h:=h.e OK hX d;have h:At CQ X F R cs hp (b.at a (.inRegion _ [0]::_)):=h;have⟨A,m1,s,q,h⟩:=h.c OK hX d rfl T (by rw[U];decide);rw[v]at s;cases s;have h:=(h.d OK hX d).f OK hX d;have⟨t,p,h⟩:=h.l OK hX d;rw[q.g]at p;have p:=eo p;have aa:t=false:=by rw[<-p];simp;omega
  subst aa;simp[hy,if_false]at h;have h:=h.A OK hX d (k':=k) (by simp[exitTo]);exact⟨A,q.f (by decide),λ i cE cF=>by omega,h⟩
 |succ r aL=>
  intro m a Y h U Z T v;generalize aK:L=bp at aL;have aI:At CQ X F R cs hp (b.at a (.code L:: .inLoop bp:: .inBlock 230::k)):=by rw[<-aK];exact h
  rw[aJ]at aI;have h:=aI.f OK hX d;have h:=h.e OK hX d;have h:At CQ X F R cs hp (b.at a (.inRegion _ [0]::_)):=h;have⟨A,m1,s,q,h⟩:=h.c OK hX d rfl T (by rw[U];decide);rw[v]at s;cases s;have h:=(h.d OK hX d).f OK hX d;have⟨t,p,h⟩:=h.l OK hX d;rw[q.g]at p;have p:=eo p;have aa:t=true:=by rw[<-p];simp;omega
  subst aa;simp[if_true]at h;have h:=(h.o OK hX d).e OK hX d;have h:At CQ X F R cs hp (b.at A (.inRegion _ [0,1,2,3,4,5,6,7,8,9,10,11,12,13,14,15,16,17,18,19,20,21,22,23,24,25,26,27,28,29]::_)):=h;have aO:A.tmps.size=64:=q.e.trans U;have⟨bq,cz,cJ,c2,ar,_,_,V,h⟩:=h.m OK hX d rfl (n:=m) (kd:= .i64) (by rw[q.c 43 (by decide)];exact v) BQ (by rw[aO];decide);rw[q.c 1 (by decide),Z]at ar;cases ar;have aP:bq.tmps.size=64:=V.e.trans aO;obtain⟨br,cW,⟨vs,bu,ty,fr,rfl,cK,aq,aM,g⟩,x,h⟩:=h.t OK hX d rfl V.g ahv (by decide) (by rw[aP];decide);have aQ:br.tmps.size=64:=x.e.trans aP;have⟨bs,cX,cA,au,p4,y,h⟩:=h.h OK hX d rfl adQ (by rw[aQ];decide);rw[x.g]at au;cases au;have aR:bs.tmps.size=64:=y.e.trans aQ;have⟨w,cY,cB,av,ap,z,h⟩:=h.h OK hX d rfl VX (by rw[aR];decide);rw[y.c 46 (by decide),x.g]at av;cases av;unfold qc at p4 ap;rw[if_pos rfl]at p4 ap;subst p4 ap;have cl:w.tmps.size=64:=z.e.trans aR;have aw:w.eval (.tmp 53)= .agg (vs.extract 0 (0+6)):=by rw[z.c 53 (by decide)];exact y.g
  have bD:w.eval (.tmp 54)= .agg (vs.extract 6 (6+6)):=z.g;have k0:w.eval (.tmp 43)= .int .i64 m:=by rw[z.c 43 (by decide),y.c 43 (by decide),x.c 43 (by decide),V.c 43 (by decide),q.c 43 (by decide)];exact v
  have aU:ew gu a w:=((((q.f (by decide)).c (V.f (by decide))).c (x.f (by decide))).c (y.f (by decide))).c (z.f (by decide));have⟨C,cL,r0,aW,cm,ac,h⟩:=l8 OK hX h (n:=0) rfl rfl oe aw cl;have ax:C.eval (.tmp 53)=_:=(ac 53 (by decide) (by decide)).trans aw;have bE:C.eval (.tmp 54)=_:=(ac 54 (by decide) (by decide)).trans bD;have k1:C.eval (.tmp 43)= .int .i64 m:=(ac 43 (by decide) (by decide)).trans k0;have aV:ew gu a C:=aU.c aW;have⟨I,cM,bZ,ba,cp,ah,h⟩:=l8 OK hX h (n:=1) rfl rfl oe ax cm;have ay:I.eval (.tmp 53)=_:=(ah 53 (by decide) (by decide)).trans ax;have bF:I.eval (.tmp 54)=_:=(ah 54 (by decide) (by decide)).trans bE;have bR:I.eval (.tmp 43)= .int .i64 m:=(ah 43 (by decide) (by decide)).trans k1;have a9:ew gu a I:=aV.c ba;have⟨J,cP,cd,bc,cq,ai,h⟩:=l8 OK hX h (n:=2) rfl rfl oe ay cp;have az:J.eval (.tmp 53)=_:=(ai 53 (by decide) (by decide)).trans ay;have bG:J.eval (.tmp 54)=_:=(ai 54 (by decide) (by decide)).trans bF;have bS:J.eval (.tmp 43)= .int .i64 m:=(ai 43 (by decide) (by decide)).trans bR;have bb:ew gu a J:=a9.c bc;have⟨M,cQ,ce,be,cr,aj,h⟩:=l8 OK hX h (n:=3) rfl rfl oe az cq;have aA:M.eval (.tmp 53)=_:=(aj 53 (by decide) (by decide)).trans az;have bH:M.eval (.tmp 54)=_:=(aj 54 (by decide) (by decide)).trans bG;have bT:M.eval (.tmp 43)= .int .i64 m:=(aj 43 (by decide) (by decide)).trans bS;have bd:ew gu a M:=bb.c be;have⟨N,cR,cf,bg,ct,ak,h⟩:=l8 OK hX h (n:=4) rfl rfl oe aA cr;have aB:N.eval (.tmp 53)=_:=(ak 53 (by decide) (by decide)).trans aA;have bI:N.eval (.tmp 54)=_:=(ak 54 (by decide) (by decide)).trans bH;have bU:N.eval (.tmp 43)= .int .i64 m:=(ak 43 (by decide) (by decide)).trans bT;have bf:ew gu a N:=bd.c bg;have⟨O,cS,cg,bi,cu,al,h⟩:=l8 OK hX h (n:=5) rfl rfl oe aB ct;have bz:O.eval (.tmp 53)=_:=(al 53 (by decide) (by decide)).trans aB;have aE:O.eval (.tmp 54)=_:=(al 54 (by decide) (by decide)).trans bI;have bV:O.eval (.tmp 43)= .int .i64 m:=(al 43 (by decide) (by decide)).trans bU;have bh:ew gu a O:=bf.c bi;have⟨P,cT,ch,bk,cv,am,h⟩:=l8 OK hX h (n:=0) rfl rfl oe aE cu;have bA:P.eval (.tmp 53)=_:=(am 53 (by decide) (by decide)).trans bz;have aF:P.eval (.tmp 54)=_:=(am 54 (by decide) (by decide)).trans aE;have bW:P.eval (.tmp 43)= .int .i64 m:=(am 43 (by decide) (by decide)).trans bV;have bj:ew gu a P:=bh.c bk;have⟨Q,cU,ci,bm,cw,an,h⟩:=l8 OK hX h (n:=1) rfl rfl oe aF cv;have bB:Q.eval (.tmp 53)=_:=(an 53 (by decide) (by decide)).trans bA;have aG:Q.eval (.tmp 54)=_:=(an 54 (by decide) (by decide)).trans aF;have bX:Q.eval (.tmp 43)= .int .i64 m:=(an 43 (by decide) (by decide)).trans bW;have bl:ew gu a Q:=bj.c bm;have⟨S,u8,cj,bo,cx,ao,h⟩:=l8 OK hX h (n:=2) rfl rfl oe aG cw;have bC:S.eval (.tmp 53)=_:=(ao 53 (by decide) (by decide)).trans bB;have aH:S.eval (.tmp 54)=_:=(ao 54 (by decide) (by decide)).trans aG;have bY:S.eval (.tmp 43)= .int .i64 m:=(ao 43 (by decide) (by decide)).trans bX;have bn:ew gu a S:=bl.c bo;have⟨D,cV,ck,a0,cn,ae,h⟩:=l8 OK hX h (n:=3) rfl rfl oe aH cx;have bw:D.eval (.tmp 53)=_:=(ae 53 (by decide) (by decide)).trans bC;have aC:D.eval (.tmp 54)=_:=(ae 54 (by decide) (by decide)).trans aH;have bO:D.eval (.tmp 43)= .int .i64 m:=(ae 43 (by decide) (by decide)).trans bY;have aX:ew gu a D:=bn.c a0;have⟨E,cN,ca,a6,co,af,h⟩:=l8 OK hX h (n:=4) rfl rfl oe aC cn;have bx:E.eval (.tmp 53)=_:=(af 53 (by decide) (by decide)).trans bw;have aD:E.eval (.tmp 54)=_:=(af 54 (by decide) (by decide)).trans aC;have bP:E.eval (.tmp 43)= .int .i64 m:=(af 43 (by decide) (by decide)).trans bO;have a5:ew gu a E:=aX.c a6;have⟨G,cO,cb,a8,aN,ag,h⟩:=l8 OK hX h (n:=5) rfl rfl oe aD co;have cC:G.eval (.tmp 53)=_:=(ag 53 (by decide) (by decide)).trans bx;have cD:G.eval (.tmp 54)=_:=(ag 54 (by decide) (by decide)).trans aD
  have bQ:G.eval (.tmp 43)= .int .i64 m:=(ag 43 (by decide) (by decide)).trans bP;have a7:ew gu a G:=a5.c a8;have⟨bt,ab,h⟩:=h.B OK hX d rfl (n:=m) bQ (by rw[aN];decide);have aS:bt.tmps.size=64:=ab.e.trans aN;have⟨B,W,h⟩:=h.p OK hX d rfl (by rw[aS];decide);have cy:B.tmps.size=64:=W.e.trans aS;rw[ab.g]at W;have K:ew gu a B:=(a7.c (ab.f (by decide))).c (W.f (by decide));have h:=(h.d OK hX d).q OK hX d;have bJ:B.eval (.tmp 43)= .int .i64 ((m+1:Nat):Int):=by
   rw[W.g,Abs.nu (by omega) (by omega)];rfl
  have⟨a',aT,bN,h⟩:=aL (m+1) B (by omega) (by rw[<-aK]at h⊢;exact h) cy (by rw[K.e 1 (by decide)];exact Z) (by rw[K.e 35 (by decide)];exact T) bJ;refine⟨a',K.c aT,λ i cH bL=>?_,h⟩;rcases jc m i with bM|cG
  exact bN i bM bL;have:i=m:=by omega
  subst this;have bv:=(qT ad (i*12)).1;have s:=(qT ad (i*12)).2;simp only[lb]at aq aM g;rw[bv]at g;rw[s]at aq;refine⟨bu,ty,fr,aq,aM,λ j l=>?_⟩;have ex:∀(o j:Nat)(u:eb),(vs.extract o (o+6))[j]?=some u->vs[o+j]?=some u:=λ o j u e=>by
   rw[mH]at e;split at e;exact e;cases e
  rcases jc j 6 with bK|bK;have:j=0\/j=1\/j=2\/j=3\/j=4\/j=5:=by omega
  rcases this with rfl|rfl|rfl|rfl|rfl|rfl;exact⟨_,(g _ l).trans (ex 0 0 _ r0)⟩;exact⟨_,(g _ l).trans (ex 0 1 _ bZ)⟩;exact⟨_,(g _ l).trans (ex 0 2 _ cd)⟩;exact⟨_,(g _ l).trans (ex 0 3 _ ce)⟩;exact⟨_,(g _ l).trans (ex 0 4 _ cf)⟩;exact⟨_,(g _ l).trans (ex 0 5 _ cg)⟩;have:j=6\/j=7\/j=8\/j=9\/j=10\/j=11:=by omega
  rcases this with rfl|rfl|rfl|rfl|rfl|rfl;exact⟨_,(g _ l).trans (ex 6 0 _ ch)⟩;exact⟨_,(g _ l).trans (ex 6 1 _ ci)⟩;exact⟨_,(g _ l).trans (ex 6 2 _ cj)⟩;exact⟨_,(g _ l).trans (ex 6 3 _ ck)⟩;exact⟨_,(g _ l).trans (ex 6 4 _ ca)⟩;exact⟨_,(g _ l).trans (ex 6 5 _ cb)⟩
end
end
theorem Wo:oQ CQ.Q 138 2 true=true:=by kernel_rfl
section
variable[aW]{X:cS}{F:Nat->Bool}{R:eH->ef->Prop}
variable{cs:List eH}{hp:Array mn}{b:eH}{a:fu}{k:List pN}{ops:Array ny}{i j:Nat}{l:List Nat}
variable(OK:CQ.a)(hX:X.b)
include OK hX
theorem xI{c why}(h:At CQ X F R cs hp (b.at a (.code (.cond c .skip (.refuse why))::k))):a.eval c= .bool true/\At CQ X F R cs hp (b.at a k):=by have d:∀f,CQ.b f=false:=λ _=>rfl;have⟨t,e,h⟩:=h.l OK hX d;cases t with|true=>exact⟨e,h.o OK hX d⟩|false=>exact(h.u OK hX d).elim
structure ai3(a a':fu)(B A D:k9)(j v b l k C:Nat)(num:Int)(cs0:Array eb):Prop where
 c:a'.tmps.size=64
 z:a'.defers=a.defers
 d:∀i:Nat,i<27->a'.eval (.tmp i)=a.eval (.tmp i)
 p:a.eval (.tmp 0)= .agg cs0
 y:cs0[0]?=some (.slice (some B) j v)
 w:cs0[1]?=some (.slice (some A) b l)
 r:a.eval (.tmp 1)= .slice (some D) k C
 x:a.eval (.tmp 2)= .int .i64 num
 m:0<j/\j<7
 q:0<b/\b<1000000
 n:0<k/\k<1000000
 u:j<=v
 s:b<=l
 t:k<=C
 g:a'.eval (.tmp 31)= .slice (some B) j v
 h:a'.eval (.tmp 32)= .slice (some A) b l
 f:a'.eval (.tmp 33)= .int .i64 j
 e:a'.eval (.tmp 34)= .int .i64 b
 o:a'.eval (.tmp 35)= .int .i64 k
theorem ab0(h:At CQ X F R cs hp (b.at a (.code Si::k)))(aB:a.tmps.size=64):∃a' N M ab C U B T I ad num cs0,ai3 a a' N M ab C U B T I ad num cs0/\At CQ X F R cs hp (b.at a' k):=by
 have c:∀f,CQ.b f=false:=λ _=>rfl;have h:=(h.f OK hX c).e OK hX c;have h:At CQ X F R cs hp (b.at a (.inRegion _ [0,1,2,3,4,5,6,7,8,9,10,11,12,13,14,15,16,17,18]::_)):=h;have⟨aU,bp,cs0,bi,ah,G,h⟩:=h.h OK hX c rfl XB (by rw[aB];decide);have aL:aU.tmps.size=64:=G.e.trans aB;unfold qc at ah;rw[if_pos rfl]at ah;subst ah;have⟨aV,br,bk,ai,p2,z,h⟩:=h.h OK hX c rfl agi (by rw[aL];decide);rw[G.g]at ai;cases ai;have aM:aV.tmps.size=64:=z.e.trans aL;have⟨aW,bs,bl,aj,p3,t,h⟩:=h.h OK hX c rfl aeh (by rw[aM];decide);rw[z.c 30 (by decide),G.g]at aj;cases aj;have aN:aW.tmps.size=64:=t.e.trans aM;unfold qc at p2 p3;rw[if_neg (by decide)]at p2 p3;have ex:∀o j u,(cs0.extract o (o+2))[j]?=some u->cs0[o+j]?=some u:=λ o j u e=>by
  rw[mH]at e;split at e
  exact e;cases e
 have p2:=ex 0 0 _ p2;have p3:=ex 0 1 _ p3;have⟨aX,N,C,U,ak,_,_,A,h⟩:=h.m OK hX c rfl (n:=0) (kd:= .i64) rfl Dw (by rw[aN];decide);rw[t.c 31 (by decide),z.g]at ak;subst ak;have aO:aX.tmps.size=64:=A.e.trans aN;have⟨aY,M,B,T,al,_,_,H,h⟩:=h.m OK hX c rfl (n:=0) (kd:= .i64) rfl Da (by rw[aO];decide);rw[A.c 32 (by decide),t.g]at al;subst al;have aP:aY.tmps.size=64:=H.e.trans aO;have⟨D,ab,I,ad,V,_,_,aa,h⟩:=h.m OK hX c rfl (n:=0) (kd:= .i64) rfl BQ (by rw[aP];decide);have aQ:D.tmps.size=64:=aa.e.trans aP;have L:ew [27,28,29,30,31,32,33,34,35,36,37,38,39,40,41,42,56,57,58] a D:=(((((G.f (by decide)).c (z.f (by decide))).c (t.f (by decide))).c (A.f (by decide))).c (H.f (by decide))).c (aa.f (by decide));rw[H.c 1 (by decide),A.c 1 (by decide),t.c 1 (by decide),z.c 1 (by decide),G.c 1 (by decide)]at V;have ae:D.eval (.tmp 31)= .slice (some N) C U:=by rw[aa.c 31 (by decide),H.c 31 (by decide),A.c 31 (by decide),t.c 31 (by decide),z.g]
 have f32:D.eval (.tmp 32)= .slice (some M) B T:=by rw[aa.c 32 (by decide),H.c 32 (by decide),A.c 32 (by decide),t.g]
 have⟨aZ,_,_,_,am,v,h⟩:=h.y OK hX c rfl Dw (by rw[aQ];decide);rw[ae]at am;cases am;have aR:aZ.tmps.size=64:=v.e.trans aQ;have⟨a0,_,_,_,an,w,h⟩:=h.y OK hX c rfl Da (by rw[aR];decide);rw[v.c 32 (by decide),f32]at an;cases an;have aS:a0.tmps.size=64:=w.e.trans aR;have⟨y,_,_,_,ao,x,h⟩:=h.y OK hX c rfl BQ (by rw[aS];decide);rw[w.c 1 (by decide),v.c 1 (by decide),L.e 1 (by decide),V]at ao;cases ao;have aT:y.tmps.size=64:=x.e.trans aS;have W:y.eval (.tmp 33)= .int .i64 C:=by rw[x.c 33 (by decide),w.c 33 (by decide),v.g]
 have Y:y.eval (.tmp 34)= .int .i64 B:=by rw[x.c 34 (by decide),w.g]
 have Z:y.eval (.tmp 35)= .int .i64 I:=x.g;have⟨ba,num,ap,m1,h⟩:=h.c OK hX c rfl (n:=0) rfl (by rw[aT];decide);rw[x.c 2 (by decide),w.c 2 (by decide),v.c 2 (by decide),L.e 2 (by decide)]at ap;have aC:ba.tmps.size=64:=m1.e.trans aT;have⟨bb,_,ar,m2,h⟩:=h.c OK hX c rfl (n:=7) rfl (by rw[aC];decide);rw[m1.c 33 (by decide),W]at ar;cases ar;have aD:bb.tmps.size=64:=m2.e.trans aC;have⟨bc,_,au,l,h⟩:=h.w OK hX c (n:=0) rfl (by rw[aD];decide);rw[m2.c 33 (by decide),m1.c 33 (by decide),W]at au;cases au;have aE:bc.tmps.size=64:=l.e.trans aD;have⟨bd,_,av,m,h⟩:=h.c OK hX c rfl (n:=1000000) rfl (by rw[aE];decide);rw[l.c 34 (by decide),m2.c 34 (by decide),m1.c 34 (by decide),Y]at av;cases av;have aF:bd.tmps.size=64:=m.e.trans aE;have⟨be,_,aw,p,h⟩:=h.w OK hX c (n:=0) rfl (by rw[aF];decide);rw[m.c 34 (by decide),l.c 34 (by decide),m2.c 34 (by decide),m1.c 34 (by decide),Y]at aw;cases aw;have aG:be.tmps.size=64:=p.e.trans aF;have⟨bf,_,ax,q,h⟩:=h.c OK hX c rfl (n:=1000000) rfl (by rw[aG];decide);rw[p.c 35 (by decide),m.c 35 (by decide),l.c 35 (by decide),m2.c 35 (by decide),m1.c 35 (by decide),Z]at ax;cases ax;have aH:bf.tmps.size=64:=q.e.trans aG;have⟨ac,_,ay,r,h⟩:=h.w OK hX c (n:=0) rfl (by rw[aH];decide);rw[q.c 35 (by decide),p.c 35 (by decide),m.c 35 (by decide),l.c 35 (by decide),m2.c 35 (by decide),m1.c 35 (by decide),Z]at ay;cases ay;have aI:ac.tmps.size=64:=r.e.trans aH;have g:∀i:Nat,i<36->ac.eval (.tmp i)=y.eval (.tmp i):=λ i af=>by
  rw[r.c i (by omega),q.c i (by omega),p.c i (by omega),m.c i (by omega),l.c i (by omega),m2.c i (by omega),m1.c i (by omega)]
 have J:∀i:Nat,i<33->y.eval (.tmp i)=D.eval (.tmp i):=λ i af=>by
  rw[x.c i (by omega),w.c i (by omega),v.c i (by omega)]
 have⟨bg,bt,_,_,_,az,bn,s,h⟩:=h.D OK hX c rfl (n:=C) (by rw[g 33 (by decide)];exact W) Dw (by rw[aI];decide);rw[g 31 (by decide),J 31 (by decide),ae]at az;cases az;have aJ:bg.tmps.size=64:=s.e.trans aI;have⟨bh,bu,_,_,_,aA,bo,E,h⟩:=h.D OK hX c rfl (n:=B) (by rw[s.c 34 (by decide),g 34 (by decide)];exact Y) Da (by rw[aJ];decide);rw[s.c 32 (by decide),g 32 (by decide),J 32 (by decide),f32]at aA;cases aA;have aK:bh.tmps.size=64:=E.e.trans aJ;have⟨O,bq,_,_,_,aq,bm,ag,h⟩:=h.D OK hX c rfl (n:=I) (by rw[E.c 35 (by decide),s.c 35 (by decide),g 35 (by decide)];exact Z) BQ (by rw[aK];decide);rw[E.c 1 (by decide),s.c 1 (by decide),g 1 (by decide),J 1 (by decide),L.e 1 (by decide),V]at aq;cases aq;have bj:O.tmps.size=64:=ag.e.trans aK;have d:∀i:Nat,i<56->O.eval (.tmp i)=ac.eval (.tmp i):=λ i af=>by
  rw[ag.c i (by omega),E.c i (by omega),s.c i (by omega)]
 have h:=(h.d OK hX c).f OK hX c;have⟨P,h⟩:=xI OK hX h;have h:=h.f OK hX c;have⟨c2,h⟩:=xI OK hX h;have h:=h.f OK hX c;have⟨c3,h⟩:=xI OK hX h;have h:=h.f OK hX c;have⟨c4,h⟩:=xI OK hX h;have h:=h.f OK hX c;have⟨Q,h⟩:=xI OK hX h;have⟨S,h⟩:=xI OK hX h;rw[d 37 (by decide),r.c 37 (by decide),q.c 37 (by decide),p.c 37 (by decide),m.c 37 (by decide),l.c 37 (by decide),m2.g]at P;rw[d 38 (by decide),r.c 38 (by decide),q.c 38 (by decide),p.c 38 (by decide),m.c 38 (by decide),l.g]at c2;rw[d 39 (by decide),r.c 39 (by decide),q.c 39 (by decide),p.c 39 (by decide),m.g]at c3;rw[d 40 (by decide),r.c 40 (by decide),q.c 40 (by decide),p.g]at c4;rw[d 41 (by decide),r.c 41 (by decide),q.g]at Q;rw[d 42 (by decide),r.g]at S;have P:=eo P;have c2:=eo c2;have c3:=eo c3;have c4:=eo c4;have Q:=eo Q;have S:=eo S;simp[decide_eq_true_eq]at P c2 c3 c4 Q S;have K:ew [27,28,29,30,31,32,33,34,35,36,37,38,39,40,41,42,56,57,58] a O:=((((((((((((L.c (v.f (by decide))).c (w.f (by decide))).c (x.f (by decide))).c (m1.f (by decide))).c (m2.f (by decide))).c (l.f (by decide))).c (m.f (by decide))).c (p.f (by decide))).c (q.f (by decide))).c (r.f (by decide))).c (s.f (by decide))).c (E.f (by decide))).c (ag.f (by decide));refine⟨O,N,M,ab,C,U,B,T,I,ad,num,cs0,⟨bj,K.g,λ i af=>K.e i ?_,bi,p2,p3,V,ap,by omega,by omega,by omega,by omega,by omega,by omega,?_,?_,?_,?_,?_⟩,h⟩
 simp only[gf,lH,or_false];omega;rw[d 31 (by decide),g 31 (by decide),J 31 (by decide),ae];rw[d 32 (by decide),g 32 (by decide),J 32 (by decide),f32];rw[d 33 (by decide),g 33 (by decide),W];rw[d 34 (by decide),g 34 (by decide),Y];rw[d 35 (by decide),g 35 (by decide),Z]
theorem XV(h:At CQ X F R cs hp (b.at a (.code Pd::k)))(t:a.tmps.size=64){cs0}(q:a.eval (.tmp 0)= .agg cs0):cs0.size=2:=by
 have c:∀f,CQ.b f=false:=λ _=>rfl;have h:=h.e OK hX c;have h:At CQ X F R cs hp (b.at a (.inRegion _ [0,1]::_)):=h;have⟨_,i,e,o⟩:=EG Wo;obtain⟨x,⟨ad,rfl⟩,h⟩:=h.L OK hX c (Φ:=λ x=>∃ad,x= .pointer (some ad)) (s:=qF 138 true (.tuple #[])) (hp':=match i.zero with|some z=>hp.push (.cells z.cells 138)|none=>hp) rfl (λ _=>rfl) rfl λ w j=>by
  have v:(zeroValue 138).run CQ.Q w=match i.zero with|some z=> .ok z w|none=> .halt (.unsupported (.resourceLimit "a value of more than 2^22 cells")) w:=by unfold zeroValue;rw[ej,Ll e];simp[kn];cases i.zero<;>rfl
  unfold qF;rw[ej,v];cases i.zero with
  |none=>exact .inr ⟨_,_,rfl,rfl⟩|some z=>exact .inl ⟨_,_,rfl,by simp[j],_,rfl⟩
 refine Decidable.byContradiction λ p=>h.G OK hX c rfl (λ _=>rfl) λ w j=>?_;have l:=O6 (a:=a) (d:=59) (x:= .pointer (some ad)) (by rw[t];decide);have m:=l.g;have n:=(l.c 0 (by decide)).trans q;have:fR (a.put (some 59) (.pointer (some ad))).eval ⟨none,.store 138 (.tmp 59) (.tmp 0),0,"x",#[],none⟩=(do j3 138 (.pointer (some ad)) (.agg cs0);ma .skip):=by have u:∀g,fR g ⟨none,.store 138 (.tmp 59) (.tmp 0),0,"x",#[],none⟩=(do j3 138 (g (.tmp 59)) (g (.tmp 0));ma .skip):=λ g=>rfl;rw[u,m,n]
 refine⟨.stuck "storeVar: the value has not the size of the variable",w,?_,rfl⟩;show(fR (a.put (some 59) (.pointer (some ad))).eval ⟨none,.store 138 (.tmp 59) (.tmp 0),0,"x",#[],none⟩).run CQ.Q w=_;rw[this,ej];have r:(j3 138 (.pointer (some ad)) (.agg cs0)).run CQ.Q w= .halt (.stuck "storeVar: the value has not the size of the variable") w:=by unfold j3 Instr.sureAddr storeVar;rw[ej];show Result.andThen (.ok ad w) _=_;simp only[kn];rw[ej,vK e];simp only[kn,o];rw[if_pos (show(sf cs0).cells.size≠2 from p)];rfl
 rw[r];rfl
structure I2(hp:Array mn)(a:fu)(w l v:k9)(k z b x j y:Nat)(num:Int)(cs0:Array eb):Prop where
 m:a.eval (.tmp 0)= .agg cs0
 q:cs0[0]?=some (.slice (some w) k z)
 o:cs0[1]?=some (.slice (some l) b x)
 u:a.eval (.tmp 1)= .slice (some v) j y
 g:a.eval (.tmp 2)= .int .i64 num
 d:0<k/\k<7
 f:0<b/\b<1000000
 e:0<j/\j<1000000
 s:k<=z
 r:b<=x
 t:j<=y
 c:cs0.size=2
 p:∀i,i<k->HY hp w i
 h:∀i,i<b->FU hp l i
 n:∀i,i<j->FQ hp v i
theorem adl(h:At CQ X F R cs hp (b.at a (.code qC::k)))(L:a.tmps.size=64):∃q o p m t j r l s num cs0,I2 hp a q o p m t j r l s num cs0:=by
 have d:∀f,CQ.b f=false:=λ _=>rfl;have h:=((h.f OK hX d).f OK hX d);have⟨w,q,o,p,m,t,j,r,l,s,num,cs0,H,h⟩:=ab0 OK hX h L;have h:=((h.f OK hX d).f OK hX d).e OK hX d;have h:At CQ X F R cs hp (b.at w (.inRegion _ [0]::_)):=h;have⟨K,g,h⟩:=h.p OK hX d rfl (by rw[H.c];decide);have h:=(h.d OK hX d).s OK hX d;have⟨E,B,O,h⟩:=ac7 OK hX (n:=m) (c:=t) (ad:=q) (by have:=H.m;omega) m 0 K (by omega) h (g.e.trans H.c) (by rw[g.c 31 (by decide)];exact H.g) (by rw[g.c 33 (by decide)];exact H.f) g.g;have h:=((h.f OK hX d).f OK hX d).e OK hX d;have h:At CQ X F R cs hp (b.at E (.inRegion _ [0]::_)):=h;have z:E.tmps.size=64:=B.f.trans (g.e.trans H.c);have⟨G,u,h⟩:=h.p OK hX d rfl (by rw[z];decide);have h:=(h.d OK hX d).s OK hX d;have x:∀i:Nat,i<43->G.eval (.tmp i)=w.eval (.tmp i):=λ i e=>by rw[u.c i (by omega),B.e i (by simp[gu,gf,lH,or_false];omega),g.c i (by omega)]
 have⟨I,C,M,h⟩:=ahx OK hX (n:=j) (c:=r) (ad:=o) (by have:=H.q;omega) j 0 G (by omega) h (u.e.trans z) (by rw[x 32 (by decide)];exact H.h) (by rw[x 34 (by decide)];exact H.e) u.g;have h:=((h.f OK hX d).f OK hX d).e OK hX d;have h:At CQ X F R cs hp (b.at I (.inRegion _ [0]::_)):=h;have A:I.tmps.size=64:=C.f.trans (u.e.trans z);have⟨J,v,h⟩:=h.p OK hX d rfl (by rw[A];decide);have h:=(h.d OK hX d).s OK hX d;have y:∀i:Nat,i<43->J.eval (.tmp i)=w.eval (.tmp i):=λ i e=>by rw[v.c i (by omega),C.e i (by simp[gu,gf,lH,or_false];omega),x i e]
 have⟨Q,D,N,h⟩:=ah2 OK hX (n:=l) (c:=s) (ad:=p) (by have:=H.n;omega) l 0 J (by omega) h (v.e.trans A) (by rw[y 1 (by decide),H.d 1 (by decide)];exact H.r) (by rw[y 35 (by decide)];exact H.o) v.g;have P:=XV OK hX (h.f OK hX d) (D.f.trans (v.e.trans A)) (cs0:=cs0) (by rw[D.e 0 (by decide),y 0 (by decide),H.d 0 (by decide)];exact H.p);exact⟨q,o,p,m,t,j,r,l,s,num,cs0,H.p,H.y,H.w,H.r,H.x,H.m,H.q,H.n,H.u,H.s,H.t,P,λ i e=>O i (hL _) e,λ i e=>M i (hL _) e,λ i e=>N i (hL _) e⟩
end
section
variable[aW]{X:cS}{F:Nat->Bool}{R:eH->ef->Prop}{β:ah}
variable {xs:Array eb} {k:ajL} {c c':eH}
theorem J1(c):cK CQ.Q CQ.P CQ.n c=cK CM.Q CM.P CM.n c:=((jG c).trans (oY c)).trans (jG c).symm
theorem aab(o):dV CQ.Q CQ.P CQ.n o=dV CM.Q CM.P CM.n o:=((GV o).trans (M8 o)).trans (GV o).symm
theorem agZ{x y}(h:IR CM β x y):IR CQ β x y:=by
 cases x<;>cases y<;>try exact h.elim
 case code.code c c'=>have h:c=c'/\cK CM.Q CM.P CM.n c=true:=h;show c=c'/\cK CQ.Q CQ.P CQ.n c=true;rw[J1];exact h
 case inBlock.inBlock i b=>have h:i=b:=h;exact h
 case inLoop.inLoop c c'=>have h:c=c'/\cK CM.Q CM.P CM.n c=true:=h;show c=c'/\cK CQ.Q CQ.P CQ.n c=true;rw[J1];exact h
 case inRegion.inRegion o l a l'=>have h:o=a/\l=l'/\(o.all λ o=>dV CM.Q CM.P CM.n o.op)=true:=h;show o=a/\l=l'/\(o.all λ o=>dV CQ.Q CQ.P CQ.n o.op)=true;simp only[aab];exact h
 case inRangeFunc.inRangeFunc l l'=>have h:β l l':=h;exact h
 case endRangeFunc.endRangeFunc l l'=>have h:β l l':=h;exact h
 case beginRound.beginRound=>exact trivial
theorem aau{c d l m}(h:TL CM β c d l m):TL CQ β c d l m:=
 let⟨a,b,e,f,g,j⟩:=h; ⟨a,b,e,f,g,λ i u v k n=>agZ (j i u v k n)⟩
theorem PQ{b c dl a fr fr'}(h:GF CM β b c dl a fr fr'):GF CQ β b c dl a fr fr':= ⟨h.h,h.b,aau h.g,h.a,h.f,h.e,h.c⟩
theorem UP{fr fr' cs cs'}(h:GS CM X β fr cs fr' cs'):GS CQ X β fr cs fr' cs':=by induction h with|jE g c=>exact .jE (PQ g) c|up g a hp _ d=>refine .up (PQ g) ⟨a.1,λ e=>?_,a.2.2⟩ hp d;have⟨fn,b,f⟩:=a.2.1 e;exact⟨fn,b,b⟩
structure G7(X:cS)(k:ajL)(xs ys:Array eb)(c:eH)(cs0:List eH)(c':eH)(j:List eH):Prop where
 g:k.a=Frame.enter CM.Q 147 xs .normal
 i:k.c=Frame.enter CM.P 147 ys .normal
 e:k.b=c::cs0
 h:k.d=c'::j
 f:xs.size=3
 d:AV k.f xs ys
 b:na c.todo=true
 a:GS CM X k.f c cs0 c' j
theorem aeN(h:uC CM X k.f k.a k.b k.c k.d):∃xs ys c cs0 c' a,G7 X k xs ys c cs0 c' a:=by have⟨f,xs,ys,c,cs0,c',a,b,e,g,i,j,l,p,m,n,d⟩:=h;have o:f=147:=gg j;subst o;exact⟨xs,ys,c,cs0,c',a,b,e,g,i,l rfl,m,n,d⟩
theorem C0:(Frame.enter CM.Q 147 xs .normal).tmps=xs++ep (64- xs.size) undef:=by have e:CM.Q.funcs[147]?=some kh:=qa;simp[Frame.enter,e];rfl
theorem Et:(Frame.enter CM.Q 147 xs .normal).todo= [.code qC]:=by have e:CM.Q.funcs[147]?=some kh:=qa;simp[Frame.enter,e];rfl
theorem RX{ys cs0 a}(h:G7 X k xs ys c cs0 c' a)(e:cw F k.f k.v k.w)(d:Hd k.v)(b:iJ CM.Q X R k.D k.h k.a k.b k.v):tQ CQ X F R {k with c:=Frame.enter CM.Q 147 ys .normal}:=by
 refine⟨?_,e,d,b⟩;show GS CQ X k.f k.a k.b (Frame.enter CM.Q 147 ys .normal) k.d;rw[h.g,h.e,h.h];refine .up ⟨rfl,?_,?_,⟨[],[],rfl,rfl,trivial,by simp⟩,trivial,rfl,trivial⟩ ⟨rfl,λ _=> ⟨kh,qa,qa⟩,λ x=>absurd rfl x⟩ h.b (UP h.a)
 rw[C0,C0,h.d.1];exact h.d.b (AV.f _ (VR.c _));rw[Et,Et];exact TL.c.a (x:= .code qC) (y:= .code qC) ⟨rfl,(J1 _).trans ((jG _).trans Ko)⟩
theorem YS:∀f,CQ.b f=false:=λ _=>rfl
theorem Xh(f:CQ.a)(b:X.b){ys cs0 o}(h:G7 X k xs ys c cs0 c' o)(x:cw F k.f k.v k.w)(v:Hd k.v)(t:iJ CM.Q X R k.D k.h k.a k.b k.v):∃j g i A n y l z m num p,I2 k.v.heap ⟨xs++ep (64- xs.size) hh,[]⟩ j g i A n y l z m num p:=by
 have w:=RX h x v t;have u:k.b≠X.c:=by rw[b.a,h.e];intro e;have a:=h.a.c;have d:=congrArg b2 e;rw[b.a]at a;simp at a d;rw[d]at a;simp at a
 have s:At CQ X F R k.b k.v.heap ((Frame.enter CM.Q 147 xs .normal).at ⟨xs++ep (64- xs.size) hh,[]⟩ [.code qC]):=by refine⟨⟨_,w,?_,rfl,rfl⟩,u⟩;show k.a=_;rw[h.g];have q:=C0 (xs:=xs);have r:=Et (xs:=xs);unfold Frame.at;rw[<-q,<-r];rfl
 exact adl f b s (by have:=h.f;simp;omega)
end
section
local instance:Abs.Dr:= ⟨false⟩
open Go.Abs (bS bA eU dW bq iT aX)
variable {hp:Array mn}
theorem GY{ad:k9}{t}{Φ:t.b->Prop}(E:0<t.a)(A:t.h=true):∀{n:Nat},0<n->(∀i,i<n->∃c ty fr x,hp[ad.block]?=some (.cells c ty fr)/\(ad.add (i*t.a)).spot=none/\(∀j,j<t.a->c[ad.off+i*t.a+j]?=(aX t x)[j]?)/\Φ x)->∃l,l.length=n/\ad= ⟨ad.block,ad.off,none⟩/\lS hp ad.block ad.off t l/\∀x∈l,Φ x:=by
 intro n C h
 classical
 have⟨c,ty,fr,G,k,w,_,_⟩:=h 0 C;have r:ad.spot=none:=by simpa[s6]using w
 have a:∀i:Fin n,∃x,(∀j,j<t.a->c[ad.off+i.val*t.a+j]?=(aX t x)[j]?)/\Φ x:=λ i=>by have⟨c2,F,fr2,x,g,_,u,v⟩:=h i.val i.isLt;rw[k]at g;cases g;exact⟨x,u,v⟩
 have⟨f,e⟩:=lV a;have len:∀y,(aX t y).length=t.a:=λ y=>Abs.mz t A y;refine⟨List.ofFn f,by simp,?_,⟨c,ty,fr,k,?_,λ i x p=>?_⟩,λ x a=>?_⟩
 obtain⟨b,o,s⟩:=ad;simp only at r;rw[r];have z:=(e ⟨n- 1,by omega⟩).1 (t.a- 1) (by omega);have m:(aX t (f ⟨n- 1,by omega⟩))[t.a- 1]?≠none:=by
  rw[ne_eq,List.getElem?_eq_none_iff,len];omega
 rw[<-z]at m;have D:¬c.size<=ad.off+ (n- 1)*t.a+ (t.a- 1):=λ B=>m (by simp[B]);rw[List.length_ofFn];have:n*t.a=(n- 1)*t.a+t.a:=by
  conv=>lhs;rw[show n=(n- 1)+1 by omega]
  rw[Nat.add_mul,Nat.one_mul]
 omega;have q:i<n:=by
  have:=(ee.1 p).1;simpa using this
 have a:x=f ⟨i,q⟩:=by
  have:=(ee.1 p).2;rw[<-this];simp
 subst a;refine hS λ j=>?_;unfold Abs.aS;rcases jc j t.a with d|d
 rw[en,if_pos d,eL,ei];exact(e ⟨i,q⟩).1 j d;rw[en,if_neg (by omega),jA (by rw[len];exact d)];obtain⟨i,rfl⟩:=List.mem_ofFn.1 a;exact(e i).2
structure xZ(hp:Array mn)(xs:Array eb)(p:eU)(q:List bS)(num:Int)(t z w r x u s y v:Nat):Prop where
 l:xs.size=3
 b:xs[0]?=some (.agg #[.slice (some ⟨t,z,none⟩) p.1.length w,.slice (some ⟨r,x,none⟩) p.2.length u])
 a:xs[1]?=some (.slice (some ⟨s,y,none⟩) q.length v)
 e:xs[2]?=some (.int .i64 num)
 j:lS hp t z DW p.1
 k:lS hp r x CU p.2
 g:lS hp s y dW q
 n:p.1.length<=w
 m:p.2.length<=u
 o:q.length<=v
 d:0<p.1.length/\p.1.length<7
 c:0<p.2.length/\p.2.length<1000000
 i:0<q.length/\q.length<1000000
 f:∀h∈p.2,h.1≠h.2
theorem Ud{xs}(Y:xs.size=3){r q C M E L D ah N num cs0} (h:I2 hp ⟨xs++ep (64- xs.size) hh,[]⟩ r q C M E L D ah N num cs0):∃an ac Q ak O ai P aj,xZ hp xs an ac num Q ak E O ai D P aj N:=by
 have F:∀i:Nat,i<3->xs[i]?=some ((⟨xs++ep (64- xs.size) hh,[]⟩:fu).eval (.tmp i)):=λ i u=>by show _=some ((xs++ep (64- xs.size) hh).getD i hh);rw[fb,hN (by omega),ev (by omega)];rfl
 obtain⟨J,H,Z,aa,_⟩:=GY (t:=DW) (Φ:=λ _=>True) (by decide) rfl h.d.1 λ i u=>by
  have⟨c,ty,fr,s,z,v,w,A,G⟩:=h.p i u;refine⟨c,ty,fr,(s.data.toList,z),v,w,λ j B=>?_,trivial⟩;have:j=0\/j=1:=by simp[Abs.Ty.a]at B;omega
  obtain rfl|rfl:=this
  exact A;exact G
 obtain⟨I,m1,m2,ad,ae⟩:=GY (t:=CU) (Φ:=λ h=>h.1≠h.2) (by decide) rfl h.f.1 λ i u=>by
  have⟨c,ty,fr,x,y,v,w,A,G,X⟩:=h.h i u;refine⟨c,ty,fr,(x,y),v,w,λ j B=>?_,X⟩;have:j=0\/j=1:=by simp[Abs.Ty.a]at B;omega
  obtain rfl|rfl:=this
  exact A;exact G
 obtain⟨ab,K,af,ag,_⟩:=GY (t:=dW) (Φ:=λ _=>True) (by decide) rfl h.e.1 λ i u=>by
  have⟨c,ty,fr,v,w,A⟩:=h.n i u;have W:∀j:Fin 12,∃z,c[C.off+i*12+j.val]?=some (.int .i64 z):=λ j=>A j.val j.isLt;have⟨f,p⟩:=lV W;refine⟨c,ty,fr,((f 0,f 1,f 2,f 3,f 4,f 5),(f 6,f 7,f 8,f 9,f 10,f 11)),v,w,λ j B=>?_,trivial⟩;have:j=0\/j=1\/j=2\/j=3\/j=4\/j=5\/j=6\/j=7\/j=8\/j=9\/j=10\/j=11:=by simp[Abs.Ty.a]at B;omega
  obtain rfl|rfl|rfl|rfl|rfl|rfl|rfl|rfl|rfl|rfl|rfl|rfl:=this
  exact p 0;exact p 1;exact p 2;exact p 3;exact p 4;exact p 5;exact p 6;exact p 7;exact p 8;exact p 9;exact p 10;exact p 11
 refine⟨(J,I),ab,r.block,r.off,q.block,q.off,C.block,C.off,{
  l:=Y
  b:=?_
  a:=?_
  e:=(F 2 (by decide)).trans (congrArg some h.g)
  j:=aa
  k:=ad
  g:=ag
  n:=by rw[H];exact h.s
  m:=by rw[m1];exact h.r
  o:=by rw[K];exact h.t
  d:=by rw[H];exact h.d
  c:=by rw[m1];exact h.f
  i:=by rw[K];exact h.e
  f:=ae}⟩
 have R:=(F 0 (by decide)).trans (congrArg some h.m);obtain⟨l⟩:=cs0
 match l,h.q,h.o,h.c with
 | [x,y],am,al,_=>
  refine R.trans ?_;have S:x= .slice (some r) M E:=by simpa using am
  have T:y= .slice (some q) L D:=by simpa using al
  have U:J.length=M:=H;have V:I.length=L:=m1;show some (sf ⟨[x,y]⟩)=some (.agg #[Value.slice (some ⟨r.block,r.off,none⟩) J.length E,.slice (some ⟨q.block,q.off,none⟩) I.length D]);rw[<-Z,<-m2,S,T,U,V]
 rw[K,<-af];exact(F 1 (by decide)).trans (congrArg some h.u)
end
section
local instance:Abs.Dr:= ⟨false⟩
open Go.Abs (bS bA eU dW bq iT aX)
section
variable[aW]{F:Nat->Bool}{β:ah}{v w:ef}
variable {y:eb}
theorem FH(h:cw F β v w){b d o t l}(E:t.h=true)(s:β b d)(z:lS v.heap b o t l):lS w.heap d o t l:=by
 have⟨cs,T,fr,p,q,r⟩:=z;have⟨G,H,g,k,m⟩:=h.b _ _ s;rw[p]at g;cases g;have key:∀{cs':Array eb}{fr':Nat×Nat},AV β cs cs'->w.heap[d]?=some (.cells cs' T fr')->lS w.heap d o t l:=λ{cs' fr'}a B=>by
  refine⟨cs',T,fr',B,by rw[<-a.1];exact q,λ i x u=>?_⟩;have n:=r i x u;rw[<-n];refine hS λ j=>?_;unfold Abs.aS;rw[en,en];by_cases c:j<t.a
  rw[if_pos c,if_pos c,eL,eL,ei,ei];rcases a.d (o+i*t.a+j)with⟨e,f⟩| ⟨C,I,e,f,A⟩
  rw[e,f];rw[e,f];have y:C∈aX t x:=by
   rw[<-n];refine nY (i:=j) ?_;unfold Abs.aS;rw[en,if_pos c,eL,ei];exact e
  rw[De y A];rw[if_neg c,if_neg c]
 generalize F b=D at m;cases m with|jM _ _ a=>exact key a k|qb _ _ a=>exact key a k
theorem ac5{a n c}(h:VR β (.slice (some a) n c) y):∃a',y= .slice (some a') n c/\AR β a a':=by cases h with|dz h=>rename_i a';cases a' with|none=>exact h.elim|some a'=>exact⟨a',rfl,h⟩
theorem JR{b o n c}(h:VR β (.slice (some ⟨b,o,none⟩) n c) y):∃a,y= .slice (some ⟨a,o,none⟩) n c/\β b a:=by obtain⟨⟨a,g,s'⟩,rfl,d,e,f⟩:=ac5 h;simp at d e f;subst e f;exact⟨a,rfl,d⟩
theorem adv(h:cw F β v w){xs ys}(A:AV β xs ys){I D num p H s n E q o G r}(T:xZ v.heap xs I D num p H s n E q o G r):∃m d f,β p m/\β n d/\β o f/\xZ w.heap ys I D num m H s d E q f G r:=by
 have get:∀{i:Nat}{x:eb},xs[i]?=some x->∃y,ys[i]?=some y/\VR β x y:=λ{i x}B=>by
  rcases A.d i with⟨c,_⟩| ⟨V,J,c,L,M⟩
  rw[B]at c;cases c;rw[B]at c;cases c;exact⟨J,L,M⟩
 have⟨W,O,Q⟩:=get T.b;have⟨J,P,R⟩:=get T.a;have⟨X,p2,S⟩:=get T.e;obtain⟨f,rfl,u⟩:=JR R;cases S;cases Q with|gU k1 C=>
  rename_i K;have N:K.size=2:=k1.symm;have⟨U⟩:=K
  match U,N with
  | [Y,Z],_=>obtain⟨m,rfl,z⟩:=JR (C 0 _ _ rfl rfl);obtain⟨d,rfl,t⟩:=JR (C 1 _ _ rfl rfl);exact⟨m,d,f,z,t,u,{T with
    l:=A.1.symm.trans T.l
    b:=O
    a:=P
    e:=p2
    j:=FH h rfl z T.j
    k:=FH h rfl t T.k
    g:=FH h rfl u T.g}⟩
end
theorem JB:∀{c d:List bA},c.Perm d->mP c->mP d->(∀a∈c,∀b∈c,Abs.eT a=Abs.eT b->a=b)->c=d
 | [],d,hp,_,_,_=>by rw[List.nil_perm.1 hp]|a::c,[],hp,_,_,_=>by cases List.perm_nil.1 hp|a::c,b::d,hp,h1,h2,hk=>by
  have f:=hz.1 h1;have g:=hz.1 h2;have j:a=b:=by
   have e:b∈a::c:=hp.symm.subset (by simp);have h:a∈b::d:=hp.subset (by simp);rcases gf.1 e with rfl|k
   rfl;rcases gf.1 h with rfl|i;rfl;have n:=f.1 b k;have c2:=g.1 a i;have c3:Abs.dJ b a= - Abs.dJ a b:=Abs.xG rfl;have c4:Abs.dJ a b=0:=by omega
   exact hk a (by simp) b e (Abs.LC rfl c4)
  subst j;rw[JB (List.Perm.cons_inv hp) f.2 g.2 λ x l y m=>hk x (gE _ l) y (gE _ m)]
end
section
local instance:Abs.Dr:= ⟨false⟩
open Go.Abs (bS bA eU dW bq iT aX dJ)
variable {xs:Array eb} {pl:eU} {ly:List bS}
structure I8(b:eH)(hp:Array mn)(g:List bA)(fr:eH)(w:ef):Prop where
 e:∃a v L,fr=b.at a [.code (.seq rK .ret)]/\a.tmps.size=64/\a.tmps[48]?=some v/\a.defers.Nodup/\(∀d∈a.defers,∃D,d={target:= .collected D,args:= #[]}/\hp.size<=D/\w.heap[D]?=some (.deferred (some [])))/\g.Perm L/\mP L/\Abs.xe w hp.size v L
 c:hp.size<=w.heap.size
 f:∀r,r<hp.size->w.heap[r]?=hp[r]?
section
variable[aW]
theorem Xm{P v ok num g y k e u h f w j}(T:xZ v.heap xs pl ly num g y k e u h f w j)(d:ok g/\ok e/\ok f):Abs.fe P v ok Abs.wM xs.toList (pl,ly,num):=by
 have row:∀{b o cap:Nat}{t:Abs.Ty}{l:List t.b},t.h=true->ok b->l.length<=cap->lS v.heap b o t l->Abs.aw P (.aH t) v ok [.slice (some ⟨b,o,none⟩) l.length cap] l:=λ{b o cap t l}r p q⟨cs,T,fr,a,c,n⟩=>⟨_,cap,rfl,q,.inr ⟨b,o,cs,T,fr,rfl,p,a,c,λ i x s=>by rw[n i x s];exact(Abs.kJ t r x _).2 rfl⟩⟩;have⟨l⟩:=xs
 match l,T.l,T.b,T.a,T.e with
 | [z,A,B],_,m,a,c=>obtain rfl:=eQ m;obtain rfl:=eQ a;obtain rfl:=eQ c;refine⟨[_,_],_,rfl,⟨row (t:=DW) rfl d.1 T.n T.j,row (t:=CU) rfl d.2.1 T.m T.k⟩,[_],_,rfl,row (t:=dW) rfl d.2.2 T.o T.g,[_],rfl,rfl⟩
theorem aja{X:cS}{F:Nat->Bool}{R:eH->ef->Prop}{k num s V x p S t q U u}{c:eH}{cs0:List eH} (j:k.a=Frame.enter CM.Q 147 xs .normal) (C:2<=k.b.length) (T:xZ k.v.heap xs pl ly num s V x p S t q U u) (G:(ly.flatMap (Abs.N.SS 1000001 pl num)).length<4611686018427387904):HZ CQ.Q (λ fr cs w=>cs=k.b/\I8 k.a k.v.heap (ly.flatMap (Abs.N.SS 1000001 pl num)) fr w) k:=by
 intro i ae;have Q:=Xm (P:=FM.Q) (v:=k.v.tp i k.D) (ok:=λ _=>True) (T:=T) ⟨trivial,trivial,trivial⟩;have B:=Abs.N.P5 (n:=1000001) (by omega) T.d.2 T.c.2 T.f T.d.1 T.c.1 num T.i.2 T.i.1;have o:=Abs.Kq FM Q B;have O:xs.toList.toArray++ep (64- xs.toList.toArray.size) hh=k.a.tmps:=by rw[j,C0]
 rw[O]at o;have y:k.a=k.a.at ⟨k.a.tmps,[]⟩ [.code qC]:=by rw[j];unfold Frame.at;rw[<-Et (xs:=xs)];rfl
 obtain⟨ac,b,w1,⟨rfl,a⟩,W⟩:=o k.a [.code (.seq Av (.seq rK .ret))] k.b;have⟨own,h,K⟩:=a.f;obtain⟨ad,ab,w2,⟨rfl,rfl,_,N,l,L,I,M,J⟩,Y⟩:=Q0 FM h K G k.a [.code (.seq rK .ret)] k.b;have Z:Steps CQ.Q (nb k.a k.b (k.v.tp i k.D)) (nb (k.a.at b [.code (.seq Av (.seq rK .ret))]) k.b w1):=by rw[y];exact .head step_seq W
 have aa:Steps CQ.Q (nb (k.a.at b [.code (.seq Av (.seq rK .ret))]) k.b w1) (nb (k.a.at (b.put (some 49) (.tuple #[])) [.code (.seq rK .ret)]) k.b w2):= .head step_seq Y;have⟨n,H⟩:=Z.trans aa;have m:k.v.heap.size<=w1.heap.size:=a.a.f;refine⟨n,_,_,_,H,⟨rfl,?_⟩,C⟩;refine⟨⟨_,own,L,rfl,by simp[hD,a.e],?_,a.c,λ d E=>?_,I,M,J⟩,hB m N,λ r g=>?_⟩
 show(b.tmps.setIfInBounds 49 _)[48]?=_;rw[eV (by decide)];exact h;obtain⟨D,z,f,A⟩:=a.b d E;refine⟨D,z,A,?_⟩;rw[l D (ea.1 f).1 (.inr λ c ty fr e=>by rw[f]at e;cases e)];exact f;rw[l r (hR g m) (.inl g)];exact a.a.e r g
end
end
section
local instance:Abs.Dr:= ⟨false⟩
open Go.Abs (bS bA eU dW bq iT aX dJ)
section
variable[aW]
variable {Q:fv} {cs:List eH} {X:cS} {R:eH->ef->Prop} {fr:eH} {w:ef} {c:eH} {v:eb}
theorem DD{l}(r:iJ Q X R l.D l.h l.b l.a l.v)(e:¬jU X l.b l.a){d t fr2 a v2} (f:∀T D,gy d t T D->∃es,lB Q true (G0 l.b l.a) (l.v.tp T D)= .go (G0 fr2 a) (v2.tp T (D+d)) es):lM Q X R ⟨fr2,a,v2,l.D+d,iu l.D l.h t⟩ l:=by
 refine⟨λ T p=>?_,e,d,t,f,rfl,rfl⟩;have⟨g,h⟩:=rP p;have⟨n,o,s,j,b,k⟩:=r T g;have⟨es,q⟩:=f T l.D h;have q:=(gG (cs:=l.a) q).2 _ _ _ _ rfl;rcases td j q with⟨i,c2⟩| ⟨m,c⟩
 exact absurd (by rw[<-i,<-c2];exact b) e;exact⟨m,o,s,c,b,k⟩
theorem XE{D a}(d:fr.mode= .returning)(c:fr.defers={target:= .collected D,args:= #[]}::a)(j:w.heap[D]?=some (.deferred (some []))):∃es,lB Q true (G0 fr cs) w= .go (G0 {fr with defers:=a} cs) (w.putObj D (.deferred none)) es:=by
 have⟨fn,f,g,defers,k,kind,e⟩:=fr;simp at d c;subst d c;have i:lB Q true (G0 ⟨fn,f,g,{target:= .collected D,args:= #[]}::a,.returning,kind,e⟩ cs) w=mo Q true ⟨fn,f,g,{target:= .collected D,args:= #[]}::a,.returning,kind,e⟩ cs none w:=rfl;rw[i];simp only[mo];have h:(fH D).run Q w= .ok [] (w.putObj D (.deferred none)):=by unfold fH getObj setObj;simp[ej,l9,j,kq]
 have b:=hP Q (fH D) w #[];rw[h]at b;generalize (fH D).runT Q w #[]=q at b;have⟨q,es⟩:=q;simp at b;subst b;exact⟨_,rfl⟩
theorem YD(g:fr.mode= .returning)(d:fr.defers= [])(f:fr.kind= .normal)(e:Q.funcs[fr.fn]?=some kh)(LN:fr.tmps[51]?=some v):∃es,lB Q true (G0 fr (c::cs)) w= .go (G0 (c.finish v) cs) w es:=by
 have⟨fn,a,i,l,n,kind,h⟩:=fr;simp at g d f e LN;subst g d f;have k:lB Q true (G0 ⟨fn,a,i,[],.returning,.normal,h⟩ (c::cs)) w=mo Q true ⟨fn,a,i,[],.returning,.normal,h⟩ (c::cs) none w:=rfl;rw[k];simp only[mo,e];have j:(hJ kh a).run Q w= .ok v w:=by
  have m:a.getD 51 hh=v:=by rw[fb,LN];rfl
  unfold hJ;rw[show kh.results= #[.tmp 51]from rfl,fl];simp[ej,LN]
 have b:=hP Q (hJ kh a) w #[];rw[j]at b;generalize (hJ kh a).runT Q w #[]=q at b;have⟨q,es⟩:=q;simp at b;subst b;exact⟨_,rfl⟩
theorem QK(N:X.b){hp:Array mn}(u:c::cs≠X.c):∀g l,iJ Q X R l.D l.h l.b l.a l.v->l.a=c::cs->l.b.mode= .returning->l.b.defers=g->l.b.kind= .normal->Q.funcs[l.b.fn]?=some kh->l.b.tmps[51]?=some v->g.Nodup->(∀d∈g,∃D,d={target:= .collected D,args:= #[]}/\hp.size<=D/\l.v.heap[D]?=some (.deferred (some [])))->Hd l.v->∃a,mI Q X R a l/\iJ Q X R a.D a.h a.b a.a a.v/\a.b=c.finish v/\a.a=cs/\Hd a.v/\a.v.heap.size=l.v.heap.size/\(∀r,(r<hp.size\/∀o,l.v.heap[r]?≠some (.deferred o))->a.v.heap[r]?=l.v.heap[r]?)
 | [],l,t,j,n,w,z,x,p,_,_,y=>by
  have q:¬jU X l.b l.a:=λ h=>u (j.symm.trans h.1);have k:lM Q X R ⟨c.finish v,cs,l.v,l.D+0,iu l.D l.h λ _ _=>0⟩ l:=DD t q λ T D _=>by rw[j];exact YD n w z x p
  exact⟨_,⟨_,.ni _,k⟩,k.1,rfl,rfl,y,rfl,λ _ _=>rfl⟩|d::g,l,t,j,n,w,z,x,p,hnd,hds,y=>by
  have q:¬jU X l.b l.a:=λ h=>u (j.symm.trans h.1);obtain⟨D,rfl,U,s⟩:=hds d (by simp);have O:D<l.v.heap.size:=(ea.1 s).1;have k:lM Q X R ⟨{l.b with defers:=g},l.a,l.v.putObj D (.deferred none),l.D+0,iu l.D l.h λ _ _=>0⟩ l:=DD t q λ T m _=>XE n w s;rw[o6]at hnd;have A:∀r,r≠D->(l.v.putObj D (.deferred none)).heap[r]?=l.v.heap[r]?:=λ r b=>mx b;have S:(l.v.putObj D (.deferred none)).heap.size=l.v.heap.size:=by simp[kq]
  obtain⟨a,G,H,I,J,K,L,M⟩:=QK N u g ⟨{l.b with defers:=g},l.a,l.v.putObj D (.deferred none),l.D+0,iu l.D l.h λ _ _=>0⟩ k.1 j n rfl z x p hnd.2 (λ C B=>by have⟨m,i,E,F⟩:=hds C (gE _ B);refine⟨m,i,E,?_⟩;show(l.v.putObj D (.deferred none)).heap[m]?=_;rw[A m λ e=>hnd.1 (by rw[<-e,<-i];exact B)];exact F) (λ r o f=>by
   by_cases b:r=D
   subst b;have f:(l.v.putObj r (.deferred none)).heap[r]?=some o:=f;rw[World.putObj_heap_same O]at f;cases f;exact⟨λ l e=>(by cases e),rfl⟩;have f:(l.v.putObj D (.deferred none)).heap[r]?=some o:=f;rw[A r b]at f;exact y r o f);refine⟨a,G.a (.mf k (.ni _)),H,I,J,K,L.trans S,λ r b=>?_⟩;have P:r≠D:=λ e=>by
   subst e;obtain b|b:=b
   omega;exact b _ s
  have i:=A r P;rw[M r (b.imp id λ h o=>by show(l.v.putObj D (.deferred none)).heap[r]?≠_;rw[i];exact h o)];exact i
end
end
section
local instance:Abs.Dr:= ⟨false⟩
open Go.Abs (bS bA eU dW bq iT aX dJ)
variable {l:ajM}
noncomputable def lg:Array Oper:= #[⟨some 50,.move (.const (.slice none 0 0)),228,"x",#[],none⟩,⟨some 51,.call {callee:= .builtin .append,args:= #[.tmp 50,.tmp 48],argTypes:= #[228,228]},228,"x",#[],none⟩]
theorem Cw:CM.Q.underlying 228=some (.slice 231):=om
theorem E2:CM.Q.info? 231=some fI:=nw
theorem KY:CM.P.info? 231=some fI:=nw
theorem Og{w}{ty:Nat}{u}(h:u= .slice none 0 0\/∃a c,u= .slice (some a) 0 c):(lf #[228,228] ty #[.slice none 0 0,u]).run CM.Q w= .ok (.slice none 0 0) w:=by
 obtain rfl| ⟨a,c,rfl⟩:=h
 simp[lf,o8 Cw,sA,o3,E2,KY,oL,nH];simp[lf,o8 Cw,sA,o3,E2,KY,oL,nH,loadCells,n1]
section
variable[aW]{X:cS}{R:eH->ef->Prop}
theorem xJ{Q}(c:iJ Q X R l.D l.h l.b l.a l.v)(b:¬jU X l.b l.a){fr2}(e:∀w,∃es,lB Q true (G0 l.b l.a) w= .go (G0 fr2 l.a) w es):∃a,lM Q X R a l/\a.b=fr2/\a.a=l.a/\a.v=l.v:= ⟨_,DD (d:=0) (t:=λ _ _=>0) (v2:=l.v) c b λ T D _=>e _,rfl,rfl,rfl⟩
theorem aiB(bf:X.b){b c cs0 hp J LR}(bg:iJ CM.Q X R l.D l.h l.b l.a l.v)(aD:l.a=c::cs0)(aF:c::cs0≠X.c)(aC:b.kind= .normal)(bh:b.fn=147) (G:I8 b hp J l.b l.v) (aE:Hd l.v) {w'} {U} (ad:C7 w' U LR) (bD:J.Perm LR) (bG:mP LR) (bu:∀a∈J,∀b∈J,Abs.eT a=Abs.eT b->a=b) (bv:J.length<=36000000):∃p t,mI CM.Q X R p l/\iJ CM.Q X R p.D p.h p.b p.a p.v/\p.b=c.finish t/\p.a=cs0/\Hd p.v/\hp.size<=p.v.heap.size/\(∀r,r<hp.size->p.v.heap[r]?=hp[r]?)/\
  ((t= .slice none 0 0/\U= .slice none 0 0)\/∃W g n cap z,t= .slice (some ⟨W,0,none⟩) n cap/\U= .slice (some ⟨g,0,none⟩) n cap/\hp.size<=W/\p.v.heap[W]?=some (.cells z 231 (0,0))/\w'.heap[g]?=some (.cells z 231 (0,0))/\∀y∈z,∃k m,y= .int k m):=by
 have aU:∀y,(aX bq y).length=27:=λ y=>Abs.mz bq rfl y;have⟨⟨a,u,f,a2,aP,aW,bz,bx,S,bH,aM⟩,ah,bC⟩:=G;have bd:f=LR:=JB (S.symm.trans bD) bH bG λ x ak y al=>bu x (S.symm.subset ak) y (S.symm.subset al);subst bd;have bZ:f.length<=36000000:=by rw[<-S.length_eq];exact bv
 have H:∀l':ajM,l'.a=l.a->¬jU X l'.b l'.a:=λ l' e h=>aF (aD.symm.trans (e.symm.trans h.1));have⟨aT,aq,a3,Y,v1⟩:=xJ (fr2:=b.at a [.code rK,.code .ret]) bg (H l rfl) λ w=> ⟨#[],by rw[a2];rfl⟩;have⟨p,ar,a4,c2,v2⟩:=xJ (fr2:=b.at a [.inRegion lg [0,1],.code .ret]) aq.1 (H aT Y) λ w=> ⟨#[],by rw[a3];rfl⟩;have ae:b.kind≠ .early:=by rw[aC];decide
 have⟨q,V,ay,c3,bW⟩:=xJ (fr2:=b.at (a.put (some 50) (.slice none 0 0)) [.inRegion lg [1],.code .ret]) ar.1 (H p (c2.trans Y)) λ w=>by
  rw[a4];exact⟨_,o7 (ops:=lg) (i:=0) (rest:= [1]) (o:= ⟨some 50,.move (.const (.slice none 0 0)),228,"x",#[],none⟩) rfl rfl ae rfl⟩
 have F:q.v=l.v:=bW.trans (v2.trans v1);have L:q.a=l.a:=c3.trans (c2.trans Y);have aV:mI CM.Q X R q l:= ⟨aT,.mf V (.mf ar (.ni _)),aq⟩;let A:=a.put (some 50) (.slice none 0 0);have bK:A.eval (.tmp 50)= .slice none 0 0:=by simp[A,hD,hQ,aP]
 have bJ:A.eval (.tmp 48)=u:=by
  simp only[A,hD,hQ];rw[fb,eV (by decide),aW];rfl
 have aG:=F4 (ρ:=A.eval) (o:= ⟨some 51,.call {callee:= .builtin .append,args:= #[.tmp 50,.tmp 48],argTypes:= #[228,228]},228,"x",#[],none⟩) rfl bK bJ;have rest:∀t v2 E,lM CM.Q X R E q->E.b=b.at (A.put (some 51) t) [.inRegion lg [],.code .ret]->E.a=q.a->E.v=v2->hp.size<=v2.heap.size->Hd v2->(∀(r:Nat) o,l.v.heap[r]?=some o->v2.heap[r]?=some o)->
  ∃p,mI CM.Q X R p l/\iJ CM.Q X R p.D p.h p.b p.a p.v/\p.b=c.finish t/\p.a=cs0/\Hd p.v/\hp.size<=p.v.heap.size/\(∀r,r<hp.size->p.v.heap[r]?=hp[r]?)/\(∀(r:Nat) Z ty fr,v2.heap[r]?=some (np Z ty fr)->p.v.heap[r]?=some (np Z ty fr)):=by
  intro t v2 E I aa c4 w4 bI bm aI;have⟨bS,au,a5,aw,bX⟩:=xJ (fr2:=b.at (A.put (some 51) t) [.code .ret]) I.1 (H E (c4.trans L)) λ w=> ⟨#[],by rw[aa];rfl⟩;have⟨am,av,K,aZ,v6⟩:=xJ (fr2:={b.at (A.put (some 51) t) [.code .ret]with mode:= .returning}) au.1 (H bS (aw.trans (c4.trans L))) λ w=> ⟨#[],by rw[a5];rfl⟩;have ap:am.v=v2:=v6.trans (bX.trans w4);have bi:am.a=c::cs0:=(aZ.trans (aw.trans (c4.trans L))).trans aD;have⟨M,a6,a7,a8,a9,ba,az,ab⟩:=QK bf (v:=t) (hp:=hp) aF a.defers am av.1 bi (by rw[K]) (by rw[K];rfl) (by rw[K];exact aC) (by rw[K];show CM.Q.funcs[b.fn]?=_;rw[bh];exact qa) (by
   rw[K];show((a.tmps.setIfInBounds 50 (.slice none 0 0)).setIfInBounds 51 t)[51]?=_;simp[aP]) bz (λ d bn=>by
   have⟨D,an,ao,bT⟩:=bx d bn;exact⟨D,an,ao,by rw[ap];exact aI _ _ bT⟩) (by rw[ap];exact bm)
  rw[ap]at az ab;refine⟨M,a6.a (.mf av (.mf au (.mf I ?_))),a7,a8,a9,ba,by rw[az];exact bI,λ r ag=>?_,λ r Z ty fr aL=>?_⟩
  obtain⟨m,an,ao⟩:=aV;exact an.a (.mf ao (.ni _));rw[ab r (.inl ag)];have bF:r<l.v.heap.size:=hR ag ah;have ax:=ev bF;rw[aI r _ ax,<-ax];exact bC r ag;rw[ab r (.inr λ o e=>by rw[aL]at e;cases e)];exact aL
 have aR:∀bV,hg (⟨some 51,.call {callee:= .builtin .append,args:= #[.tmp 50,.tmp 48],argTypes:= #[228,228]},228,"x",#[],none⟩:ny) (l4 lg bV)=true:=λ _=>rfl;by_cases ac:f.length=0
 have ai:u= .slice none 0 0\/∃a c,u= .slice (some a) 0 c:=by
  rcases aM with⟨s,_⟩| ⟨N,off,cap,cs,T,s,_⟩;exact .inl s;rw[ac]at s;exact .inr ⟨_,_,s⟩
 have aj:U= .slice none 0 0:=by
  rcases ad.b with⟨s,_⟩| ⟨g,cap,z,s,_⟩;exact s;have:=ad.a g _ cap s;omega
 obtain⟨E,I,aa,c4,v4⟩:=xJ (fr2:=b.at (A.put (some 51) (.slice none 0 0)) [.inRegion lg [],.code .ret]) V.1 (H q L) λ w=>by
  rw[ay];refine⟨_,o7 (ops:=lg) (i:=1) (rest:= []) (o:= ⟨some 51,.call {callee:= .builtin .append,args:= #[.tmp 50,.tmp 48],argTypes:= #[228,228]},228,"x",#[],none⟩) rfl (aR _) ae ?_⟩;rw[aG,ej,Og ai];rfl
 obtain⟨M,g⟩:=rest (.slice none 0 0) l.v E I aa c4 (v4.trans F) ah aE λ r o h=>h;exact⟨M,_,g.1,g.2.1,g.2.2.1,g.2.2.2.1,g.2.2.2.2.1,g.2.2.2.2.2.1,g.2.2.2.2.2.2.1,.inl ⟨rfl,aj⟩⟩;rcases aM with⟨_,s⟩| ⟨N,off,a0,cs,aY,ai,b1,bo,bl⟩;exact absurd (by rw[s];rfl) ac;rcases ad.b with⟨_,s⟩| ⟨g,B,z,aj,bp,b0,bw,bY,aQ,aO⟩;exact absurd (by rw[s];rfl) ac;have af:(f.flatMap (aX bq)).length=f.length*27:=uE aU;have cell:∀j,j<f.length*27->cs[off+j]?=(f.flatMap (aX bq))[j]?:=λ j C=>by
  have aH:j/27<f.length:=by omega
  have aJ:j%27<27:=ov _ (by omega);have s:=bl (j/27) _ (eg aH);have aA:=tq aU f (j/27) (j%27) _ (eg aH) aJ;rw[show j/27*27+j%27=j from by omega]at aA;rw[aA,<-s];unfold Abs.aS;rw[en,if_pos aJ,eL,ei]
  congr 1
  omega
 have aS:(gb fZ.cells (B- f.length)).size=(B- f.length)*27:=by
  rw[sE,FN]
 have bj:(f.flatMap (aX bq)).toArray++gb fZ.cells (B- f.length)=z:=by
  refine Array.ext_getElem? λ j=>?_;rw[nv];simp only[hA,af];by_cases C:j<f.length*27;rw[if_pos C,aQ j C,nL];rw[if_neg C];by_cases bt:j<z.size;rw[aO j (by omega) bt];have bc:j- f.length*27< (gb fZ.cells (B- f.length)).size:=by
   rw[aS,n2];omega
  have aB:=ev bc;rw[aB,Nj aB];rw[nc (xs:=z) (by omega),nc];rw[aS,n2];omega
 have bs:∀y∈z,∃k m,y= .int k m:=λ y al=>by
  obtain⟨j,C,rfl⟩:=Array.mem_iff_getElem.1 al;have O:=ev C;by_cases Q:j<f.length*27;rw[aQ j Q]at O;obtain⟨x,_,ak⟩:=hG.1 (nY O);exact GD ak;rw[aO j (by omega) C]at O;exact⟨_,_,(eQ O).symm⟩
 let v4:World:={q.v with heap:=q.v.heap.push (.cells z 231 (0,0))}
 let t:Value:= .slice (some ⟨q.v.heap.size,0,none⟩) f.length B
 let bU:Nat->o5->Nat:=λ _ _=>B- f.length
 have I:lM CM.Q X R ⟨b.at (A.put (some 51) t) [.inRegion lg [],.code .ret],q.a,v4,q.D+1,iu q.D q.h bU⟩ q:=DD V.1 (H q L) λ T D be=>by
  rw[ay];have br:grownCap (q.v.tp T D) f.length 0 231=B:=by
   have s:T D (.appendCap f.length 0 231)=B- f.length:=by
    have:=be 0 (by omega);rw[Nat.add_zero]at this;rw[this]
   show(Question.appendCap f.length 0 231).cut (T D (.appendCap f.length 0 231))=B;rw[s];unfold Question.cut;simp only;rw[Nat.mod_eq_of_lt (by unfold sv at bw;omega)];omega
  have aN:=sB (P:=CM.Q) (w:=q.v.tp T D) 228 228 231 fI fZ Cw E2 sN ⟨N,off,none⟩ f.length a0 (f.flatMap (aX bq)) (by rw[lW];exact af) (λ j v C=>by
   have Q:j<f.length*27:=by rw[<-af];exact(ee.1 C).1
   rw[qO,mv (q.v.tp T D) N (off+j) cs aY (0,0) (by show q.v.heap[N]?=_;rw[F];exact bo),cell j Q,C]) (by omega) (by omega) (by rw[se];omega)
  rw[br,bj]at aN;refine⟨_,o7 (ops:=lg) (i:=1) (rest:= []) (o:= ⟨some 51,.call {callee:= .builtin .append,args:= #[.tmp 50,.tmp 48],argTypes:= #[228,228]},228,"x",#[],none⟩) rfl (aR _) ae (w':=v4.tp T (D+1)) (v:=t) ?_⟩;rw[aG,ai,ej]
  erw[aN]
  rfl
 have bE:∀r o,l.v.heap[r]?=some o->v4.heap[r]?=some o:=λ r o aK=>by
  have Q:r<q.v.heap.size:=by rw[F];exact(ea.1 aK).1
  show(q.v.heap.push _)[r]?=_;rw[j2,if_neg (by omega),F];exact aK
 have bB:v4.heap[q.v.heap.size]?=some (.cells z 231 (0,0)):=by
  show(q.v.heap.push _)[q.v.heap.size]?=_;simp
 obtain⟨M,k1,bL,bM,bN,bO,bP,bQ,bR⟩:=rest t v4 _ I rfl rfl rfl (by
  show hp.size<=(q.v.heap.push _).size;rw[oV,F];omega) (Hd.a (by rw[F];exact aE) ⟨λ l e=>(by cases e),rfl⟩) bE
 refine⟨M,t,k1,bL,bM,bN,bO,bP,bQ,.inr ⟨q.v.heap.size,g,f.length,B,z,rfl,aj,by rw[F];exact ah,bR _ _ _ _ bB,bp,bs⟩⟩
end
end
section
local instance:Abs.Dr:= ⟨false⟩
open Go.Abs (bS bA eU dW bq iT aX dJ)
theorem aek(A):G0 (Frame.enter TP 147 #[A.g,A.k,A.h] .normal) A.j=PE A:=by kernel_rfl
theorem ajc{Q aF X F R}(H:X.b)(bi:X.a= []/\X.d= []): @TD (oT Q aF) Bf pQ CM X F R:=by
 letI bs:aW:=oT Q aF;intro k S bW w sl t q aX aZ;obtain⟨rfl,aV,a6,a7,K,p,aD,aw⟩:=aX;have⟨xs,ys,c,cs0,c',ac,E⟩:=aeN aZ;have⟨bM,bJ,bK,b0,ab,bY,Z,bZ,aa,num,bQ,aY⟩:=Xh OM H E p aD aw;have⟨B,I,bP,ak,bN,ai,bO,aj,T⟩:=Ud E.f aY;have⟨Y,V,W,bc,ba,bb,C⟩:=adv p E.d T;have ae:(1000000:Nat)<1000001:=by omega
 have⟨aK⟩:=ys;have bx:∃aJ,aK= [.agg #[.slice (some ⟨Y,ak,none⟩) B.1.length ab,.slice (some ⟨V,ai,none⟩) B.2.length Z],.slice (some ⟨W,aj,none⟩) I.length aa,aJ]/\aJ= .int .i64 num:=by
  match aK,C.l,C.b,C.a,C.e with
  | [bG,bI,aM],_,bB,bC,p2=>
   obtain rfl:=eQ bB;obtain rfl:=eQ bC;exact⟨aM,rfl,eQ p2⟩
 obtain⟨_,rfl,rfl⟩:=bx;let A:Ar:= ⟨0,0,0,0,0,0,0,0,.agg #[.slice (some ⟨Y,ak,none⟩) B.1.length ab,.slice (some ⟨V,ai,none⟩) B.2.length Z],.slice (some ⟨W,aj,none⟩) I.length aa,.int .i64 num,k.d⟩;have a8:G0 k.c k.d=PE A:=by
  rw[E.i];exact aek A
 have aL:∀x,(Abs.N.SS 1000001 B num x).length<=36:=λ x=>Abs.N.NA ae T.d.2 T.c.2 T.f num x;have bv:(I.flatMap (Abs.N.SS 1000001 B num)).length<=36000000:=by
  have M:∀l:List bS,(l.flatMap (Abs.N.SS 1000001 B num)).length<=l.length*36:=λ l=>by
   induction l with
   |nil=>simp
   |cons a l bX=>
    rw[kH,kk,o0];have:=aL a;omega
  have:=M I;have:=T.i.2;omega
 have a5:Ie A (j7 F k.f).a k.w B I num (Abs.N.SS 1000001 B num) 1000001 Y ak ab V ai Z W aj aa:={
  b:= ⟨⟨[],rfl⟩,⟨_,bc⟩,⟨_,ba⟩,C.n,C.m,C.j,C.k⟩
  h:=rfl
  e:= ⟨_,bb⟩
  c:=C.g
  g:=rfl
  f:=λ x _=>Abs.N.af4 ae T.d.2 T.c.2 T.f num x
  d:=by have:=T.i.2;omega
  a:=by omega};have bm:∀b,(j7 F k.f).a b->b<k.w.heap.size:=λ b⟨r,i⟩=>(p.f i).2;have⟨N,av,w',aG,t',q',al,v,bD,ao,ap,aq,ar,J,bT,O,bp,bu,bt,bo⟩:=
  abN sl (S0:=S) (ps:=j7 F k.f) a5 (c:=c') (cs:=ac) E.h p.d.2 (by rw[aV,a8]) a6 a7 (λ b u=> ⟨(K b u).1,λ⟨r,i⟩=>(K b u).2 r i⟩) bm (λ b⟨r,i,_⟩=> ⟨r,i⟩);have bl:2<=k.b.length:=by
  have M:=E.a.c;rw[H.a]at M;rw[E.e];simp at M⊢;omega
 have a4:=RX E p aD aw;have⟨ag,au,aS,bE,bU,aT,ad⟩:=adO OM H bi YS a4 (aja (X:=X) (F:=F) (R:=R) (k:={k with c:=Frame.enter CM.Q 147 _ .normal}) (c:=c) (cs0:=cs0) E.g bl T (by omega));have bd:c::cs0≠X.c:=by
  rw[H.a,<-E.e];intro e;have:=congrArg b2 e;simp at this;omega
 have aU:I8 k.a k.v.heap (I.flatMap (Abs.N.SS 1000001 B num)) ag.a ag.v:= ⟨ad.e,ad.c,ad.f⟩;have⟨j,aI,d1,d2,d3,d4,an,L,aN,aO⟩:=aiB (l:=ag.e) H au.a (aT.trans E.e) bd (b:=k.a) (by rw[E.g];rfl) (by rw[E.g];rfl) aU au.c bt bp bu (λ a a9 b u bh=>by
  have⟨x,_,bw⟩:=hG.1 a9;have⟨y,_,af⟩:=hG.1 u;exact Abs.N.RQ ae T.d.2 T.c.2 T.f bw af bh) bv
 have ay:mI CM.Q X R j k.e:=d1.a aS;have am:iJ CM.Q X R j.D j.h (c.finish aI) cs0 j.v:=by rw[<-d3,<-d4];exact d2
 have aH:(⟨c.finish aI,cs0,j.v,j.D,j.h⟩:ajM)=j:=by rw[<-d3,<-d4]
 have bA:∀r,r<k.v.heap.size->j.v.heap[r]?=k.v.heap[r]?:=aN;have L:k.v.heap.size<=j.v.heap.size:=L;have old:∀G,bF k.f G->∀r a,k.f r a->∃o U,j.v.heap[r]?=some o/\w'.heap[a]?=some U/\OR G (F r) o U:=λG P r a i=>by
  have⟨o,U,aP,aQ,aR⟩:=p.b r a i;have aE:=p.f i;exact⟨o,U,(bA r aE.1).trans aP,(O.d a aE.2).trans aQ,aR.a P⟩
 have aB:∀r,F r=true->r<j.v.heap.size:=λ r i=>hR (p.c r i) L;have ax:aW.n<=j.v.heap.size/\aW.n<=w'.heap.size:= ⟨hB p.d.1 L,hB p.d.2 O.b⟩;obtain⟨rfl,rfl⟩| ⟨z,g,n,cap,bR,rfl,rfl,az,bj,bq,bg⟩:=aO
 refine⟨N,av,w',aG,t',q',⟨c.finish (.slice none 0 0),cs0,j.v,k.f,c'.finish (.slice none 0 0),ac,w',j.D,j.h⟩,al,ao,⟨rfl,ap,aq,ar,λ b u=> ⟨(J b u).1,λ r i=>?_⟩,⟨old k.f (bF.b _),aB,ax⟩,an,am⟩,E.a.a H E.b (.dz (a:=none) (a':=none) trivial 0 0),?_,O,λ r a i _=> .inl i⟩;rcases(J b u).2 with D| ⟨D,_⟩;exact(K b D).2 r i;have:=(p.f i).2;omega;show mI CM.Q X R ⟨_,_,_,_,_⟩ _;rw[aH];exact ay;have aC:k.w.heap.size<=g:=bo g rfl;have bf:∀s b,k.f s b->s≠z/\b≠g:=λ s b i=>by
  have:=p.f i;have aA:k.v.heap.size<=z:=az;omega
 have aA:k.v.heap.size<=z:=az
 let G:ah:=k.f.i z g bf ⟨hB p.d.1 aA,hB p.d.2 aC⟩
 have P:bF k.f G:=λ r a i=> .inl i;have bn:G z g:= .inr ⟨rfl,rfl⟩;have a3:F z=false:=by
  cases be:F z with
  |false=>rfl
  |true=>
   have:=p.c z be;omega
 have br:cw F G j.v w':= ⟨λ r a i=>by
  rcases i with i| ⟨rfl,rfl⟩;exact old G P r a i;refine⟨_,_,bj,bq,?_⟩;rw[a3];exact .jM 231 (0,0) (AV.i λ y af=>by
   obtain⟨bz,m,rfl⟩:=bg y af;exact .cx bz m),aB,ax⟩
 refine⟨N,av,w',aG,t',q',⟨c.finish (.slice (some ⟨z,0,none⟩) n cap),cs0,j.v,G,c'.finish (.slice (some ⟨g,0,none⟩) n cap),ac,w',j.D,j.h⟩,al,ao,⟨rfl,ap,aq,ar,λ b u=> ⟨(J b u).1,λ r i=>?_⟩,br,an,am⟩,
  (E.a.b P).a H E.b (.dz (a:=some ⟨z,0,none⟩) (a':=some ⟨g,0,none⟩) ⟨bn,rfl,rfl⟩ n cap),?_,O,λ r a i _=>?_⟩
 rcases i with i| ⟨_,rfl⟩;rcases(J b u).2 with D| ⟨D,_⟩;exact(K b D).2 r i;have:=(p.f i).2;omega;rcases(J b u).2 with D| ⟨_,D⟩;have:=(K b D).1;omega;exact D rfl;show mI CM.Q X R ⟨_,_,_,_,_⟩ _;rw[aH];exact ay;rcases i with i| ⟨_,rfl⟩;exact .inl i;exact .inr aC
end
theorem Vb{P fs fr u}[aW](p:Hd u)(t:fr.mode= .returning)(r:fr.defers= [])(w:fr.roundOf=none):∀{n:Nat}{g:eH}{i:ef},n4 (lp P fs) n (nb fr [gd] u)= .next (nb g [gd] i)->g=fr/\i=u:=by intro n g i h;cases n with
 |zero=>simp[n4,Stepped.next.injEq]at h;have⟨j,_,z⟩:=kt h;exact⟨j.symm,z.symm⟩|succ n=>
  exfalso;have⟨fn,d,k,B,D,kind,E⟩:=fr;simp at t r w;subst t r w;have A:∀m b,Hd b->∀g i,n4 (lp P fs) m (nb gd [] b)= .next (nb g [gd] i)->False:=λ m b l g i e=>by cases m with
   |zero=>simp[n4,Stepped.next.injEq]at e;have:=(kt e).2.1;cases this|succ m=>simp[n4,GM]at e;cases m with
    |zero=>
     simp[n4,Stepped.next.injEq]at e;have:=(kt e).2.1;cases this
    |succ m=>
     have⟨o,F,y⟩:=H5 (Q:=lp P fs) l;simp only[n4,y]at e;cases e
  have key:(∃o b,step (lp P fs) (nb ⟨fn,d,k,[],.returning,kind,none⟩ [gd] u)= .ended o b)\/∃b,Hd b/\step (lp P fs) (nb ⟨fn,d,k,[],.returning,kind,none⟩ [gd] u)= .next (nb gd [] b):=by
   have ret:∀v b,s0 (lp P fs) true ⟨fn,d,k,[],.returning,kind,none⟩ [gd] none v b= .go (G0 gd []) b:=λ v b=>by
    cases kind<;>rfl
   have c:lB (lp P fs) true (G0 ⟨fn,d,k,[],.returning,kind,none⟩ [gd]) u=mo (lp P fs) true ⟨fn,d,k,[],.returning,kind,none⟩ [gd] none u:=rfl;simp only[mo]at c;cases s:(lp P fs).funcs[fn]? with
   |none=>
    rw[s]at c;simp[ret]at c;exact .inr ⟨u,p,(gG c).2 _ _ _ _ rfl⟩|some f=>
    rw[s]at c;simp only at c;have j:=hP (lp P fs) (hJ f d) u #[];generalize C:(hJ f d).runT (lp P fs) u #[]=q at c j;have⟨q,es⟩:=q;simp at j c;cases q with
    |ok a b=>
     simp[ret,gl]at c;have:=RO.d (P:=P) (fs:=fs) f d u a b j.symm;subst this;exact .inr ⟨_,p,(gG c).2 _ _ _ _ rfl⟩
    |halt x b=>cases x<;>exact .inl ((gG c).1 _ _ _ rfl)
  obtain⟨o,b,e⟩| ⟨b,l,e⟩:=key
  simp only[n4,e]at h;cases h;simp only[n4,e]at h;exact A n b l _ _ h
def Ib(f r:Nat)(fr:eH)(w:ef):=fr.fn=f/\fr.kind= .normal/\fr.tmps[r]?=some (.bool true)
def TX:cS:= ⟨[],[],[],[],[gd],[]⟩
theorem HI[aW][ck]:TX.b:= ⟨rfl,rfl,rfl,λ id=>rfl,λ _=>rfl⟩
@[reducible] noncomputable def Gh:aW:=oT (λ _ _=>False) (λ _ _ _ h=>h.elim)
section
noncomputable local instance:aW:=Gh
theorem UI{f r:Nat}{fn:sr}(K:TP.funcs[f]?=some fn)(ak:jS[f]?=some fn)(aL:f≠147)(aR:fn.results= #[.tmp r])(af:fn.body.isNone=false)(aO:TP.inits.idxOf? f=none){W v0:ef}{args xs:Array eb}
 {β0:ah} {F:Nat->Bool} (aQ:cw F β0 v0 W) (aG:Hd v0) (ae:AV β0 xs args)
 (az:∀r a,β0 r a->F r=true)
 (aE:∀T,∃n fr w,n4 CM.Q n (nb (Frame.enter CM.Q f xs .normal) [gd] (v0.tp T 0))= .next (nb fr [gd] w)/\fr.mode= .returning/\fr.defers= []/\Ib f r fr w):
 ∃M last o w' t',runNT TP (M+1) (solo (n3 (Frame.enter TP f args .normal) []) W) #[]=(.ended o w',t')/\n4 TP M (solo (n3 (Frame.enter TP f args .normal) []) W)= .next last/\
  step TP last= .ended o w'/\Conc.Good TP (λ v H=>v= .bool true/\mq W H) last o w' t':=by
 obtain⟨q,ag⟩:∃c,fn.body=some c:=by
  cases h:fn.body with
  |none=>rw[h]at af;cases af
  |some c=>exact⟨c,rfl⟩
 let k:ajL:= ⟨Frame.enter CM.Q f xs .normal,[gd],v0,β0,Frame.enter TP f args .normal,[],W,0,λ _ _=>0⟩
 have ab:CM.Q.funcs[f]?=some fn:=ak;have aP:cK CM.Q CM.P CM.n q=true:=P4.b f fn q ak (by
  show hq f 147=false;cases h:hq f 147 with
  |false=>rfl
  |true=>exact absurd (gg h) aL) ag
 have aM:GS CM TX k.f k.a k.b k.c k.d:=by
  refine .jE ⟨rfl,?_,?_,⟨[],[],rfl,rfl,trivial,by simp⟩,trivial,rfl,trivial⟩ rfl
  show AV β0 (Frame.enter CM.Q f xs .normal).tmps (Frame.enter TP f args .normal).tmps;simp only[Frame.enter,ab,K,hY,gw,ae.1];exact ae.b (AV.f _ (VR.c _));show TL CM β0 [] [] (Frame.enter CM.Q f xs .normal).todo (Frame.enter TP f args .normal).todo;simp only[Frame.enter,ab,K,et,ag,gw];exact TL.c.a (x:= .code q) (y:= .code q) ⟨rfl,aP⟩
 have ad:iJ CM.Q TX (Ib f r) k.D k.h k.a k.b k.v:=λ T _=>by
  have⟨n,fr,w,s,au,av,aw⟩:=aE T;exact⟨n,fr,w,s,⟨rfl,.inr ⟨au,av⟩⟩,aw⟩
 have ay:xT CM TX F (Ib f r) (λ _=>False) k #[G0 k.c k.d] W #[] (λ _=>0):=by
  refine⟨rfl,rfl,⟨λ i g z A=>?_,λ j _=>rfl⟩,?_,λ b h=>h.elim,aQ,aG,ad⟩
  have:i<1:=by simpa using(ea.1 A).1
  omega;exact⟨past_nil.clean,λ i a h C=>(past_nil.known i a h C).imp id λ x=>x.1.elim,past_nil.over,past_nil.hears,λ op h=>by simp at h⟩
 have⟨N,ac,w',V,t',q',k',ao,s,ap,l,aa,m⟩:=ZF P4 HI (ajc HI ⟨rfl,rfl⟩) k.e (HV HI ad) k (.ni _) (λ _=>False) #[G0 k.c k.d] W none #[] (λ _=>0) ay aM (mq.g W) (λ r a R aj=>by
  rw[az r a R]at aj;cases aj)
 have⟨bb,ax,aA,aB,a8,a9,aH,aC⟩:=ap;obtain⟨I,C,ai⟩:k'.b= [gd]/\k'.a.mode= .returning/\k'.a.defers= []:=by
  refine⟨aa.1,?_⟩;obtain⟨_,_,x|x⟩|x:=aa.2
  exact absurd rfl x;exact absurd rfl x;exact x
 obtain⟨G,aT,aF⟩:GF CM k'.f [] [] [] [] k'.a k'.c/\k'.a.roundOf=none/\k'.d= []:=by
  generalize k'.b=a3 at l I;generalize k'.d=a4 at l;generalize k'.a=a6 at l;generalize k'.c=fr2 at l;cases l with
  |jE g R=>exact⟨g,R,rfl⟩
  |up g ba hp aD=>
   exfalso;have z:=aD.c;have A:=congrArg b2 I;simp[TX]at z A;rw[A]at z;simp at z
 have⟨n,a7,bd,am,_,aW⟩:=aC k'.h λ j _=>by rw[lk]
 rw[I]at am;obtain⟨rfl,_⟩:=Vb (P:=TP) (fs:=jS) (u:=k'.v.tp k'.h k'.D) aH C ai aT am;have⟨aK,aN,al⟩:=aW;have L:k'.c.fn=f:=G.h.symm.trans aK;have O:k'.c.kind= .normal:=G.e.symm.trans aN;have Q:k'.c.mode= .returning:=G.f.a C;have J:k'.c.defers= []:=by
  have⟨d,aq,p,Y,Z,_⟩:=G.a;rw[ai,fV]at p;subst p;cases aq with
  |nil=>exact Y
  |cons _ _=>exact Z.elim
 have S:k'.c.tmps[r]?=some (.bool true):=by
  rcases G.b.d r with⟨x,_⟩| ⟨x,y,p,Y,Z⟩
  rw[al]at x;cases x;rw[al]at p;cases p;cases Z;exact Y
 have aJ:∀w1:ef,lB TP true (G0 k'.c k'.d) w1= .ended (.done (.bool true)) w1 #[]:=λ w1=>by
  rw[aF];generalize k'.c=fr' at L O Q J S;have⟨t,E,X,a5,bc,kind,U⟩:=fr';simp at L O Q J S;subst L O Q J;have aS:hJ fn E=ma (.bool true):=by
   unfold hJ;rw[aR,fl];simp[S]
  have aU:lB TP true (G0 ⟨t,E,X,[],.returning,.normal,U⟩ []) w1=mo TP true ⟨t,E,X,[],.returning,.normal,U⟩ [] none w1:=rfl;rw[aU];simp[mo,K,aS];show gl (seen TP t #[]) (s0 TP true ⟨t,E,X,[],.returning,.normal,U⟩ [] none (.bool true) w1)=_;simp only[s0,aO];rfl
 obtain⟨an,last,o,w2,aX,aY,aZ,a0,a2⟩:=beside_ends (P:=TP) (Shun:=eG ao) (B:=w'.heap.size) (D:=λ _ _ _=>False) (Post:=λ v H=>v= .bool true/\mq W H) (λ _ _ _ h=>h.elim) (n:=0) (sl:=V) ax aA aB (λ w1 aV=>by
  obtain⟨d,rfl⟩:=aV;exact⟨rfl,_,_,aJ _,λ e aI=>by simp at aI,rfl,m.b,m.d,m.f,m.c,m.e⟩)
 have es:solo (n3 (Frame.enter TP f args .normal) []) W=qW #[G0 k.c k.d] W none:=rfl;refine⟨N+an,last,o,w2,aX,?_,?_,a0,a2⟩
 rw[es,Nat.add_assoc];exact zA s aY;rw[es,runN_add];have ar:runNT TP N (qW #[G0 k.c k.d] W none) #[]=(.next (qW ac w' V),t'):=s;have:=runNT_fst TP N (qW #[G0 k.c k.d] W none) #[];rw[ar]at this;have h:n4 TP N (qW #[G0 k.c k.d] W none)= .next (qW ac w' V):=this.symm;rw[h];exact aZ
end
section
local instance:Abs.Dr:= ⟨false⟩
def pC(W:ef)(r:Nat):Bool:=match W.heap[r]? with|some (.cells ..)=>true|_=>false
theorem SB{W r}(h:pC W r=true):∃cs ty fr,W.heap[r]?=some (.cells cs ty fr):=by
 unfold pC at h;split at h
 rename_i cs ty fr e;exact⟨cs,ty,fr,e⟩;cases h
theorem S8{W r cs ty fr}(h:W.heap[r]?=some (.cells cs ty fr)):pC W r=true:=by unfold pC;rw[h]
section
noncomputable local instance:aW:=Gh
noncomputable def kU(W:ef)(y:eb):Value:=match y with| .int k n=> .int k n| .string s=> .string s| .bool b=> .bool b| .slice none n c=> .slice none n c| .slice (some ad) n c=>if pC W ad.block=true then .slice (some ad) n c else sK (.slice (some ad) n c)|y=>sK y
noncomputable def py(W:ef)(y:eb):Value:=match y with| .agg cs=> .agg (cs.map (kU W))|y=>kU W y
def vx(W:ef):=∀g,Gl.a g=true->pC W g=true
def A4(W:ef)(i:vx W):ah where
 h:=λ r a=>r=a/\pC W r=true
 f:=λ r a b h k=>h.1.symm.trans k.1
 e:=λ r s a h k=>h.1.trans k.1.symm
 d:=λ r a h=>by rw[h.1]
 c:=λ g h=> ⟨rfl,i g h⟩
theorem Hf{W b β}(c:bF (A4 W b) β)(y):VR β (kU W y) y:=by
 unfold kU;split
 exact .cx _ _;exact .eI _;exact .fY _;exact .dz (a:=none) (a':=none) trivial _ _;split;exact .dz (a:=some _) (a':=some _) ⟨c _ _ ⟨rfl,‹_›⟩,rfl,rfl⟩ _ _;exact vz β _;exact vz β _
theorem afp{W d β}(b:bF (A4 W d) β)(y):VR β (py W y) y:=by
 unfold py;split
 refine .gU (by simp) λ i v v' a c=>?_;rw[fz,c]at a;cases a;exact Hf b v';exact Hf b _
noncomputable def Ee(W:ef):mn->mn| .cells cs ty _=> .cells (cs.map (kU W)) ty (0,cs.size)|_=> .cells #[] 0 (0,0)
noncomputable def oJ(W:ef):={W with heap:=W.heap.map (Ee W)}
theorem QH{W}{r:Nat}{o}(h:W.heap[r]?=some o):(oJ W).heap[r]?=some (Ee W o):=by simp[oJ,h]
theorem Zl{W}(h:aW.n<=W.heap.size)(d):cw (pC W) (A4 W d) (oJ W) W:=by
 refine⟨λ r a b=>?_,λ r b=>?_,by simp[oJ];exact h⟩
 obtain⟨rfl,b⟩:=b;obtain⟨cs,ty,fr,e⟩:=SB b;refine⟨_,_,QH e,e,?_⟩;rw[b];show OR (A4 W d) true (.cells (cs.map (kU W)) ty (0,cs.size)) (.cells cs ty fr);have:=OR.qb (β:=A4 W d) (c:=cs.map (kU W)) (c':=cs) ty fr ⟨by simp,λ i v v' f g=>by
  rw[fz,g]at f;cases f;exact Hf (bF.b _) v'⟩
 simpa using this;obtain⟨cs,ty,fr,e⟩:=SB b;simp only[oJ,Array.size_map];exact(ea.1 e).1
theorem agd(W):Hd (oJ W):=by
 intro r o a;simp only[oJ,fz]at a;obtain⟨b,_,rfl⟩:=mr.1 a;have:∃cs ty fr,Ee W b= .cells cs ty fr:=by unfold Ee;split<;>exact⟨_,_,_,rfl⟩
 have⟨cs,ty,fr,e⟩:=this;rw[e];exact⟨λ l e=>(by cases e),rfl⟩
def sS:Abs.Ty->Bool| .ay _| .aO| .aJ=>true| .aF a b=>sS a&&sS b| .aH e=>e.h|_=>false
theorem JD{W}:(t:Abs.Ty)->(d:t.b)->(Abs.aX t d).map (kU W)=Abs.aX t d| .ay _,_=>rfl| .aO,_=>rfl| .aJ,_=>rfl| .aF a b,(x,y)=>by simp[Abs.aX,List.map_append];rw[JD a x,JD b y]| .aH _,_| .dP _ _,_| .dX _ _,_| .cO _ _,_| .ec _,_=>rfl
def xM(W:ef)(v:eb):=∀ad n c,v= .slice (some ad) n c->pC W ad.block=true
theorem BB{P P' W ok T}:(t:Abs.Ty)->sS t=true->{vs:List eb}->{d:t.b}->(∀v∈vs,xM W v)->Abs.aw P t W ok vs d->Abs.aw P' t ((oJ W).tp T 0) (λ _=>True) (vs.map (kU W)) d
 | .ay _,_,vs,d,_,h=>by have h:vs=_:=h;rw[h];rfl| .aO,_,vs,d,_,h=>by have h:vs=_:=h;rw[h];rfl| .aJ,_,vs,d,_,h=>by have h:vs=_:=h;rw[h];rfl| .aF a b,c,vs,(x,y),f,h=>by
  simp[sS,hF]at c;refine⟨?_,?_⟩
  rw[<-List.map_take];exact BB a c.1 (λ v j=>f v (List.mem_of_mem_take j)) h.1;rw[<-List.map_drop];exact BB b c.2 (λ v j=>f v (List.mem_of_mem_drop j)) h.2| .aH e,c,vs,l,f,h=>by
  obtain⟨a,cap,rfl,n,g⟩:=h;have u:kU W (.slice a (b2 l) cap)= .slice a (b2 l) cap:=by cases a with|none=>rfl|some ad=>have:=f (.slice (some ad) (b2 l) cap) (oh.2 rfl) ad (b2 l) cap rfl;simp[kU,this]
  refine⟨a,cap,by rw[n9,u],n,?_⟩;obtain g| ⟨b,off,cs,m,fr,o,w,p,q,r⟩:=g
  exact .inl g;refine .inr ⟨b,off,cs.map (kU W),m,(0,cs.size),o,trivial,QH p,by simpa using q,λ i x s=>?_⟩;rw[Array.toList_map,Iy];have k:e.h=true:=c;have:=(Abs.kJ e k x _).1 (r i x s);rw[this,JD];exact(Abs.kJ e k x _).2 rfl| .dP _ _,c,_,_,_,_| .dX _ _,c,_,_,_,_| .cO _ _,c,_,_,_,_| .ec _,c,_,_,_,_=>by cases c
end
end
section
local instance:Abs.Dr:= ⟨false⟩
variable {W:ef} {P:fv} {b:Nat} {t:nB} {v:eb} {ok:Nat->Prop}
theorem ahO{r q}(h:W.shape? r=some q):pC W r=true:=by
 unfold World.shape? at h;split at h
 rename_i c e _ a;exact S8 a;cases h
theorem QT{r}(h:lL P W r b t v):xM W v:=by rintro ad n c rfl;unfold lL q0 at h;cases a:P.underlying t with|none=>rw[a]at h;exact h.elim|some d=>rw[a]at h;cases d<;>first|exact h.elim| (have⟨_,_,_,_,row,cells,e,_⟩:=h;exact ahO e)
theorem afk{r}(h:nf P W r b t v):∀u∈v.cells.toList,xM W u:=by
 intro u a;have row:∀cs,Row.okWide P W r b t cs->∀u∈cs.toList,xM W u:=λ cs⟨n,_,_,j⟩u a=>by have⟨i,e⟩:=nZ a;rw[ei]at e;have⟨q,_,k⟩:=j i u e;exact QT k
 unfold nf at h;split at h
 obtain⟨cs,rfl,_,h⟩:=h;exact row cs h u a;obtain⟨cs,rfl,_,h⟩:=h;exact row cs h u a;rename_i m;have g:=h;by_cases c:∃cs,v= .agg cs;obtain⟨cs,rfl⟩:=c;exfalso;unfold lL q0 at h;cases a:P.underlying t with
 |none=>rw[a]at h;exact h.elim
 |some d=>rw[a]at h;cases d<;>exact h.elim
 by_cases f:∃cs,v= .tuple cs;obtain⟨cs,rfl⟩:=f;exfalso;unfold lL q0 at h;cases a:P.underlying t with
 |none=>rw[a]at h;exact h.elim
 |some d=>rw[a]at h;cases d<;>exact h.elim
 have l:v.cells= #[v]:=by
  cases v<;>first|rfl| (exact absurd ⟨_,rfl⟩ c)| (exact absurd ⟨_,rfl⟩ f)
 rw[l]at a;have:u=v:=by simpa using a
 rw[this];exact QT g
section
noncomputable local instance:aW:=Gh
theorem KI(t)(c:sS t=true){cs x}(h:Abs.aw P t W ok cs x):py W (t.d cs)=t.d (cs.map (kU W))/\((t.d cs).cells.toList=cs):=by cases t with|aF a b=>exact⟨by simp[Abs.Ty.d,Abs.Ty.c,py],by simp[Abs.Ty.d,Abs.Ty.c,Value.cells]⟩|ay k=>have h:cs=_:=h;subst h;exact⟨rfl,rfl⟩|aO=>have h:cs=_:=h;subst h;exact⟨rfl,rfl⟩|aJ=>have h:cs=_:=h;subst h;exact⟨rfl,rfl⟩|aH e=>obtain⟨a,cap,rfl,_⟩:=h;exact⟨rfl,rfl⟩|_=>cases c
theorem N7{P' T}:(b:List Abs.Ty)->b.all sS=true->{vs:List eb}->{x:Abs.ax b}->(∀v∈vs,∀u∈v.cells.toList,xM W u)->Abs.fe P W ok b vs x->Abs.fe P' ((oJ W).tp T 0) (λ _=>True) b (vs.map (py W)) x
 | [],_,vs,x,_,h=>by have h:vs= []:=h;subst h;rfl| [t],a,vs,x,d,h=>by
  obtain⟨cs,rfl,c⟩:=h;have a:sS t=true:=by simpa using a
  have⟨e,f⟩:=KI t a c;refine⟨cs.map (kU W),by rw[n9,e],BB t a (λ u g=>d (t.d cs) (oh.2 rfl) u (by rw[f];exact g)) c⟩|t::u::b,a,vs,(x,y),d,h=>by obtain⟨cs,r,rfl,c,i⟩:=h;rw[List.all_cons,hF]at a;have⟨e,f⟩:=KI t a.1 c;refine⟨cs.map (kU W),r.map (py W),by rw[List.map_cons,e],BB t a.1 (λ u g=>d (t.d cs) (List.mem_cons_self ..) u (by rw[f];exact g)) c,N7 (u::b) a.2 (λ v j=>d v (gE _ j)) i⟩
theorem ab6{X:ef->Array eb->Prop}(a7:∀(w w':ef)(args:Array eb),w.heap=w'.heap->X w args->X w' args){C:Go.Checked}(Q:C.prog=TP){os:Os}{f r:Nat}{fn:sr}{s:ChangeSpec}{ins:List Abs.Ty}{Ts:List Nat}{tb:Nat}{g:Nat->Abs.ax ins->Option Bool}{nn:Nat}{t:Bool}
 {H:Type} {enc:nB×eb->H}
 (own:ownKnob TP.godebug=none) (aU:os.Started) (aT:TP.inits.idxOf? f=none) (ab:TP.funcs[f]?=some fn) (aa:jS[f]?=some fn) (au:f≠147) (af:fn.results= #[.tmp r]) (an:fn.body.isNone=false)
 (aW:∃(w:ef)(k:Tape)(i:Input),w.os=os/\(w.forCall k i).Shaped TP/\i.vars= []/\Input.okWide TP (w.forCall k i) .any w.heap.size f i/\
  ((s.pre enc TP fn [] t (w.forCall k i).memory i.args/\X (w.forCall k i).memory i.args)/\sizedMet enc TP fn (nV s) t (w.forCall k i).memory i.args)/\({}:Assume).holds TP (nb (Frame.enter TP f i.args .normal) [] (w.forCall k i)))
 (L:fn.params.toList=Ts) (aJ:fn.resultTypes= #[tb]) (am:TP.underlying tb=some .bool) (aA:laidOutB TP=true) (ac:∀(w:ef),w.ShapedOpen TP->TP.globals.size<=w.heap.size/\vx w)
 (aK:Abs.qU TP nn Ts ins=true) (aE:ins.all sS=true) (aI:(Ts.all λ T=>TP.readableRec T&&decide (T<TP.types.size))=true) (ai:s.vars= [])
 (N:∀(c:List (DataW H)),c.length=Ts.length->s.fn H c={results:= [.lit (.bool true)],args:=c})
 (aq:∀n,Abs.jf CM.Q f ⟨ins,[],[.aO],λ x _=>g n x,false⟩)
 (aG:∀x,Abs.Fh ins x->∃n,g n x=some true):
 ReturnsInLeavingWide {} C os f .any (λ w args=>(s.pre enc TP fn [] t w args/\X w args)/\sizedMet enc TP fn (nV s) t w args) (s.post enc TP fn t true false false):=by
 have⟨a2,c2,c3,c4,a3,a4,a5⟩:=C;simp at Q;subst Q;refine returnsInLeavingWide_of_good own aU aW ?_;intro w k i _ ag _ aF aH _;have⟨_,_,_,G,av,_,_,_,_,aN⟩:=aF;have e:G=fn:=eQ (av.symm.trans ab);subst e;have⟨⟨⟨c,P,a1,aP,a8⟩,F⟩,ba⟩:=aH;have R:=s4 (w':=w.forCall k i) (by rfl) aP;generalize a6:w.forCall k i=W at*;have S:=R;obtain⟨p,q,A,J,rfl,_,_⟩:=R;rw[ai]at J;have aw:P= []/\q= []:=by
  cases P with
  |nil=>exact⟨rfl,J⟩
  |cons a b=>simp[DataW.TrodVars]at J
 obtain⟨rfl,rfl⟩:=aw;rw[L]at A;have K:c.length=Ts.length:=by
  have:∀(Ts:List Nat)(vs:List eb)(c:List (DataW H))ps,pn enc TP W 0 (λ _=>true) true Ts vs c ps->c.length=Ts.length:=by
   intro Ts
   induction Ts with
   |nil=>intro vs c ps h;obtain⟨_,rfl,_⟩:=trodAll_nil h;rfl
   |cons T Ts O=>
    intro vs c ps h;obtain⟨v,aV,d,aj,p,q,rfl,rfl,rfl,m,z⟩:=trodAll_cons h;simp[O _ _ _ z]
  exact this _ _ _ _ A
 have ah:∀(j:Nat)(T:Nat)(v:eb),Ts[j]?=some T->i.args.toList[j]?=some v->nf TP W .any w.heap.size T v:=λ j T v I D=>by
  refine aN j T v ?_ (by simpa using D);have:G.params.toList[j]?=some T:=by rw[L];exact I
  simpa using this
 have⟨x,F,aQ⟩:=Abs.L4 nn Ts ins aK i.args.toList c p w.heap.size ah A;have⟨n,aD⟩:=aG x aQ;have⟨_,ao⟩:=aq n;have aM:i.args.toList.length=Ts.length:=by
  have:∀(Ts:List Nat)(vs:List eb)(c:List (DataW H))ps,pn enc TP W 0 (λ _=>true) true Ts vs c ps->vs.length=Ts.length:=by
   intro Ts
   induction Ts with
   |nil=>intro vs c ps h;have⟨m,_⟩:=trodAll_nil h;rw[m];rfl
   |cons T Ts O=>
    intro vs c ps h;obtain⟨v,aV,d,aj,p,q,rfl,rfl,rfl,m,z⟩:=trodAll_cons h;simp[O _ _ _ z]
  exact this _ _ _ _ A
 have ax:∀v∈i.args.toList,∀u∈v.cells.toList,xM W u:=λ v D=>by
  have⟨j,ad⟩:=nZ D;have ay:j<Ts.length:=by rw[<-aM];exact(ee.1 ad).1
  exact afk (ah j _ v (eg ay) ad)
 have⟨M,last,o,w',t',aX,aY,aZ,a0⟩:=UI ab aa au af an aT (W:=W) (v0:=oJ W) (args:=i.args) (xs:=i.args.map (py W)) (Zl (ac W ag).1 (ac W ag).2) (agd W)
  ⟨by simp,λ j v v' m z=>by rw[fz,z]at m;cases m;exact afp (bF.b _) v'⟩ (λ r a h=>h.2) λ T=>by
   have V:=ao ((oJ W).tp T 0) (λ _=>True) (i.args.toList.map (py W)) [] x () true (N7 ins aE ax F) rfl aD;have e:(i.args.toList.map (py W)++ []).toArray=i.args.map (py W):=by
    rw[fV];apply lv.1;simp
   rw[e]at V;obtain⟨e,w2,fr,⟨v,rfl,a9,B,_⟩,ap,Z,aB⟩:=V [gd];obtain⟨cs,rfl,B⟩:=B;have B:cs= [.bool true]:=B;subst B;have⟨aS,aL⟩:=ap;have⟨aC,ar,az,al,Y,l⟩:=aB;refine⟨aS,fr,w2,aL,aC,ar,Z,az,?_⟩;rw[Z]at Y;have ak:al=G:=eQ (Y.symm.trans aa);subst ak;unfold hJ at l;rw[af,fl]at l;simp at l;cases ae:fr.tmps[r]? with
   |none=>rw[ae]at l;cases l
   |some y=>
    rw[ae]at l;have aR:y= .bool true:=l;rw[aR]
 refine⟨M,last,o,w',t',aX,aY,aZ,a0.mono λ v⟨D,E⟩=>s7 ?_⟩;subst D;have U:hZ W.heap.size W w':= ⟨E.f,E.e,E.c,E.b,E.d⟩;refine⟨c,[],p++ [],[],p,[],S,?_,?_,?_,?_,λ h=>(by cases h)⟩
 rw[aJ];have:s.fn H (c++ [])={results:= [.lit (.bool true)],args:=c}:=by rw[fV];exact N c K
 rw[this];exact trodAll_mk1 (shut_bool am true);have:s.fn H (c++ [])={results:= [.lit (.bool true)],args:=c}:=by rw[fV];exact N c K
 rw[this,L];refine Abs.Sq aA U Ts (λ T I=>?_) _ _ _ A (λ x F=>S.lt x (List.mem_append_left _ F));have:=List.all_eq_true.1 aI T I;simpa using this;have:s.fn H (c++ [])={results:= [.lit (.bool true)],args:=c}:=by rw[fV];exact N c K
 rw[this,ai];rfl;exact U.frame _
end
end
section
local instance:Abs.Dr:= ⟨false⟩
open Go.Abs (bS bA eU dW bq iT aX dJ)
def va(a:bA):List bA->List bA| []=> [a]|b::l=>bif decide (dJ a b<=0)then a::b::l else b::va a l
def yV:List bA->List bA| []=> []|a::l=>va a (yV l)
theorem ai8(a b c)(h1:decide (dJ a b<=0)=true)(h2:decide (dJ b c<=0)=true):decide (dJ a c<=0)=true:=by simp[decide_eq_true_eq]at h1 h2⊢;exact(Abs.EP (l:=Abs.eT a) (m:=Abs.eT b) (k:=Abs.eT c) rfl rfl h1 h2).1
theorem acW(a b):(decide (dJ a b<=0)||decide (dJ b a<=0))=true:=by have:dJ b a= - dJ a b:=Abs.xG rfl;simp[Bool.or_eq_true,decide_eq_true_eq];omega
theorem Hj(a):∀l,(a::l).Perm (va a l)| []=>lA _|b::l=>by unfold va;cases decide (dJ a b<=0)with|true=>exact lA _|false=>exact(List.Perm.swap b a l).trans ((Hj a l).cons b)
theorem OE:∀L:List bA,L.Perm (yV L)| []=>lA _|a::l=>((OE l).cons a).trans (Hj a _)
theorem QU(a):∀l,pS (λ a b=>dJ a b<=0) l->pS (λ a b=>dJ a b<=0) (va a l)
 | [],_=>by simp[va]|b::l,h=>by have d:=hz.1 h;unfold va;cases e:decide (dJ a b<=0)with
  |true=>
   refine hz.2 ⟨λ x c=>?_,h⟩;rcases gf.1 c with rfl|c
   simpa using e;have:=ai8 a b x e (by simpa using d.1 x c);simpa using this|false=>
   refine hz.2 ⟨λ x c=>?_,QU a l d.2⟩;rcases gf.1 ((Hj a l).mem_iff.2 c)with rfl|c
   have:=acW x b;rw[e]at this;simpa using this;exact d.1 x c
theorem SG:∀L,mP (yV L)| []=>rV|a::l=>QU a _ (SG l)
def CG(a:eU)(b:List bS)(num:Int):=if(0<a.1.length/\a.1.length<7)/\(0<a.2.length/\a.2.length<1000000)/\(0<b.length/\b.length<1000000)/\(∀h∈a.2,h.1≠h.2)then some (yV (b.flatMap (Abs.N.SS 1000001 a num)))else none
theorem abO{a w u n0 L}(F:a.tmps.size=64)(OJ:a.tmps[48]?=some u)(D:Abs.xe w n0 u L)(S:L.length<=36000000):rK.wp CM.Q (λ e a' w'=>e= .normal/\a'.defers=a.defers/\(w'.os=w.os/\w'.tape=w.tape/\w'.output=w.output)/\w.heap.size<=w'.heap.size/\(∀r,r<w.heap.size->w'.heap[r]?=w.heap[r]?)/\∃v,a'.tmps[51]?=some v/\((v= .slice none 0 0/\L= [])\/∃b cap cs,v= .slice (some ⟨b,0,none⟩) L.length cap/\w.heap.size<=b/\w'.heap[b]?=some (.cells cs 231 (0,0))/\L.length<=cap/\cap<=sv/\cap*27<=cs.size/\∀i x,L[i]?=some x->Abs.aS cs.toList (i*27) 27=aX bq x)) a w:=by
 have m:∀y,(aX bq y).length=27:=λ y=>Abs.mz bq rfl y;refine wp_region ?_;show wpOps CM.Q lg _ [0,1] a w;rw[pv];unfold wpOp;rw[show lg[0]?=some ⟨some 50,.move (.const (.slice none 0 0)),228,"x",#[],none⟩from rfl];simp only[show hg (⟨some 50,.move (.const (.slice none 0 0)),228,"x",#[],none⟩:ny) (l4 lg a.tmps)=true from rfl,if_true];refine .inl ?_;unfold p6;rw[show(fR a.eval ⟨some 50,.move (.const (.slice none 0 0)),228,"x",#[],none⟩).run CM.Q w= .ok (.value (.slice none 0 0)) w from rfl,l1,pv];unfold wpOp;rw[show lg[1]?=some ⟨some 51,.call {callee:= .builtin .append,args:= #[.tmp 50,.tmp 48],argTypes:= #[228,228]},228,"x",#[],none⟩from rfl];let d:=a.put (some 50) (.slice none 0 0);simp only[show hg (⟨some 51,.call {callee:= .builtin .append,args:= #[.tmp 50,.tmp 48],argTypes:= #[228,228]},228,"x",#[],none⟩:ny) (l4 lg d.tmps)=true from rfl,if_true];refine .inl ?_;unfold p6;have N:d.eval (.tmp 50)= .slice none 0 0:=by simp[d,hD,hQ,F]
 have M:d.eval (.tmp 48)=u:=by simp only[d,hD,hQ];rw[fb,eV (by decide),OJ];rfl
 have z:=F4 (ρ:=d.eval) (o:= ⟨some 51,.call {callee:= .builtin .append,args:= #[.tmp 50,.tmp 48],argTypes:= #[228,228]},228,"x",#[],none⟩) rfl N M;have s:∀v,(d.put (some 51) v).tmps[51]?=some v:=λ v=>by show((a.tmps.setIfInBounds 50 _).setIfInBounds 51 v)[51]?=some v;simp[F]
 by_cases p:L.length=0
 have q:u= .slice none 0 0\/∃a c,u= .slice (some a) 0 c:=by
  rcases D with⟨f,_⟩| ⟨n,off,cap,cs,T,f,_⟩;exact .inl f;rw[p]at f;exact .inr ⟨_,_,f⟩
 have l:(fR d.eval ⟨some 51,.call {callee:= .builtin .append,args:= #[.tmp 50,.tmp 48],argTypes:= #[228,228]},228,"x",#[],none⟩).run CM.Q w= .ok (.value (.slice none 0 0)) w:=by
  rw[z,ej,Og q];rfl
 rw[show(fR (a.put (some 50) (.slice none 0 0)).eval _).run CM.Q w=_ from l,l1];exact⟨rfl,rfl,⟨rfl,rfl,rfl⟩,ez _,λ _ _=>rfl,_,s _,.inl ⟨rfl,ng.1 p⟩⟩;rcases D with⟨_,f⟩| ⟨n,off,H,cs,G,q,U,J,I⟩;exact absurd (by rw[f];rfl) p;have k:(L.flatMap (aX bq)).length=L.length*27:=uE m;have cell:∀j,j<L.length*27->cs[off+j]?=(L.flatMap (aX bq))[j]?:=λ j g=>by
  have h:j/27<L.length:=by omega
  have C:j%27<27:=ov _ (by omega);have f:=I (j/27) _ (eg h);have t:=tq m L (j/27) (j%27) _ (eg h) C;rw[show j/27*27+j%27=j from by omega]at t;rw[t,<-f];unfold Abs.aS;rw[en,if_pos C,eL,ei]
  congr 1
  omega
 have E:=sB (P:=CM.Q) (w:=w) 228 228 231 fI fZ Cw E2 sN ⟨n,off,none⟩ L.length H (L.flatMap (aX bq)) (by rw[lW];exact k) (λ j v g=>by
  have K:j<L.length*27:=by rw[<-k];exact(ee.1 g).1
  rw[qO,mv w n (off+j) cs G (0,0) J,cell j K,g]) (by omega) (by omega) (by rw[se];omega)
 have A:=grownCap_ge w L.length 0 231;have B:=grownCap_le_maxLen w L.length 0 231 (by unfold sv;omega);generalize Q:grownCap w L.length 0 231=cap at E A B;have O:(gb fZ.cells (cap- L.length)).size=(cap- L.length)*27:=by
  rw[sE,FN]
 have l:(fR d.eval ⟨some 51,.call {callee:= .builtin .append,args:= #[.tmp 50,.tmp 48],argTypes:= #[228,228]},228,"x",#[],none⟩).run CM.Q w= .ok (.value (.slice (some ⟨w.heap.size,0,none⟩) L.length cap)) (w.drew.alloc (.cells ((L.flatMap (aX bq)).toArray++gb fZ.cells (cap- L.length)) 231)):=by
  rw[z,q,ej]
  erw[E]
  rfl
 rw[show(fR (a.put (some 50) (.slice none 0 0)).eval _).run CM.Q w=_ from l,l1];refine⟨rfl,rfl,⟨rfl,rfl,rfl⟩,?_,λ r l=>?_,_,s _,.inr ⟨w.heap.size,cap,(L.flatMap (aX bq)).toArray++gb fZ.cells (cap- L.length),rfl,ez _,?_,A,B,?_,λ i x h=>?_⟩⟩;show w.heap.size<=(w.heap.push _).size;simp;show(w.heap.push _)[r]?=_;rw[j2,if_neg (by omega)];show(w.heap.push _)[w.heap.size]?=_;simp;rw[Array.size_append,O,hA,k,n2];omega;have R:i<L.length:=(ee.1 h).1;refine hS λ j=>?_;unfold Abs.aS;rw[en];by_cases g:j<27;rw[if_pos g,eL,ei,nv,if_pos (by rw[hA,k];omega),nL,tq m L i j x h g];rw[if_neg g,jA (by rw[m];omega)]
end
section
local instance:Abs.Dr:= ⟨false⟩
open Go.Abs (bS bA eU dW bq iT aX dJ)
theorem Tz{w:ef}{D r}(h:r≠D):(w.putObj D (.deferred none)).heap[r]?=w.heap[r]?:=mx h
theorem S6{R g v n0}(LN:g[51]?=some v):∀b w,b.Nodup->(∀d∈b,∃D,d={target:= .collected D,args:= #[]}/\n0<=D/\w.heap[D]?=some (.deferred (some [])))->(∀w',w'.os=w.os->w'.tape=w.tape->w'.output=w.output->w'.heap.size=w.heap.size->(∀r,(r<n0\/∀o,w.heap[r]?≠some (.deferred o))->w'.heap[r]?=w.heap[r]?)->R (.returned v) w')->LeavesInM r1 7 CM.Q kh g R b .returning w
 | [],w,_,_,h=>by
  have a:(hJ kh g).run CM.Q w= .ok v w:=by unfold hJ;rw[show kh.results= #[.tmp 51]from rfl,fl];simp[ej,LN]
  exact⟨v,a,h w rfl rfl rfl rfl λ _ _=>rfl⟩|d::b,w,hnd,hd,h=>by
  obtain⟨D,rfl,z,f⟩:=hd d (by simp);have A:=(ea.1 f).1;rw[o6]at hnd;have y:(fH D).run CM.Q w= .ok [] (w.putObj D (.deferred none)):=by unfold fH getObj setObj;simp[ej,l9,f,kq]
  refine⟨by simp,.inl ⟨D,_,rfl,y,S6 (n0:=n0) LN b _ hnd.2 (λ q i=>?_) λ w' k l m n p=>?_⟩⟩
  obtain⟨j,c,s,t⟩:=hd q (gE _ i);exact⟨j,c,s,(Tz λ e=>hnd.1 (by rw[<-e,<-c];exact i)).trans t⟩;refine h w' k l m (n.trans (by simp[kq])) λ r a=>?_;have x:r≠D:=λ e=>by
   subst e;rcases a with a|a
   omega;exact a _ f
  have c:=Tz (w:=w) x;rw[p r (a.imp id λ u o=>by rw[c];exact u o),c]
def V9:Abs.fc:= ⟨Abs.wM,[],[.aH bq],λ x _=>CG x.1 x.2.1 x.2.2,true⟩
theorem Ww:Abs.jf CM.Q 147 V9:=by
 have aA:∀y,(aX bq y).length=27:=λ y=>Abs.mz bq rfl y;refine⟨⟨kh,qa,by decide,rfl⟩,λ w ok vs cs x y r K q k=>?_⟩;have q:cs= []:=q;subst q;rw[fV];have⟨s,u,num⟩:=x;have k:CG s u num=some r:=k;unfold CG at k;split at k
 rename_i ak;obtain⟨⟨ai,G⟩,⟨ag,E⟩,⟨ah,F⟩,I⟩:=ak;cases k;have h:(1000000:Nat)<1000001:=by omega
 have X:∀x,(Abs.N.SS 1000001 s num x).length<=36:=λ x=>Abs.N.NA h G E I num x;have ap:(u.flatMap (Abs.N.SS 1000001 s num)).length<=36000000:=by
  have ae:∀l:List bS,(l.flatMap (Abs.N.SS 1000001 s num)).length<=l.length*36:=λ l=>by
   induction l with
   |nil=>simp
   |cons a l az=>
    rw[kH,kk,o0];have:=X a;omega
  have:=ae u;omega
 have af:=Abs.N.P5 h G E I ai ag num F ah;have aq:=Abs.Kq FM K af;refine oH.1 (callsIn_of_wp_marks (n:=7) qa rfl trivial (wpIn_wide.2 ?_));refine wp_seq (wp_mono aq ?_);rintro e t w1⟨rfl,j⟩;obtain⟨own,O,ao⟩:=j.f;refine wp_seq (wp_mono (Q0 FM O ao (by omega)) ?_);rintro e aw w2⟨rfl,rfl,⟨s1,s2,s3⟩,av,V,L,z,p2,p3⟩;have F:L=yV (u.flatMap (Abs.N.SS 1000001 s num)):=JB (z.symm.trans (OE _)) p2 (SG _) λ a aj b p J=>by
  obtain⟨x,_,K⟩:=hG.1 (z.symm.subset aj);obtain⟨y,_,q⟩:=hG.1 (z.symm.subset p);exact Abs.N.RQ h G E I K q J
 have an:L.length<=36000000:=by rw[<-z.length_eq];exact ap
 rw[<-F];refine wp_seq (wp_mono (abO (a:=t.put (some 49) (.tuple #[])) (by simp[hD,j.e]) (by
  show(t.tmps.setIfInBounds 49 _)[48]?=some own;rw[eV (by decide)];exact O) p3 an) ?_)
 rintro e B w3⟨rfl,d3,⟨t1,t2,t3⟩,aB,W,v,Y,T⟩;refine wp_ret ?_;have am:B.defers=t.defers:=d3;show LeavesInM r1 7 CM.Q kh B.tmps _ B.defers .returning w3;rw[am];refine S6 (n0:=w.heap.size) Y t.defers w3 j.c (λ d al=>?_) λ w' Z aa ab ax P=>?_;obtain⟨D,ac,C,ad⟩:=j.b d al;refine⟨D,ac,ad,?_⟩;have R:=(ea.1 C).1;rw[W D (hR R av),V D R (.inr λ c ty fr e=>by rw[C]at e;cases e)];exact C;have ay:w.heap.size<=w1.heap.size:=j.a.f;have J:Abs.cm w w':={
  m:=by rw[Z,t1,s1,j.a.m]
  i:=by rw[aa,t2,s2,j.a.i]
  g:= ⟨by rw[ab,t3,s3,j.a.g.d],λ d=>by cases d⟩
  f:=by omega
  e:=λ b p=>by
   rw[P b (.inl p),W b (by omega),V b (by omega) (.inl p)];exact j.a.e b p}
 have Q:∀(b cap:Nat)(cs:Array eb),w3.heap[b]?=some (np cs 231 (0,0))->w'.heap[b]?=some (np cs 231 (0,0)):=λ b cap cs S=>by
  rw[P b (.inr λ o e=>by rw[S]at e;cases e)];exact S
 refine⟨v,rfl,J,?_,λ _=>?_⟩;rcases T with⟨rfl,h⟩| ⟨b,cap,cs,rfl,ar,M,A,U,au,N⟩;refine⟨[.slice none 0 0],rfl,none,0,?_,?_,.inl h⟩;rw[h];rfl;rw[h];exact ez _;refine⟨[.slice (some ⟨b,0,none⟩) L.length cap],rfl,_,cap,rfl,A,.inr ⟨b,0,cs,231,(0,0),rfl,.inr (by omega),Q b cap cs M,?_,λ i x H=>?_⟩⟩;show 0+L.length*27<=cs.size;have:=n5 27 A;omega;have:=N i x H;refine(Abs.kJ bq rfl x _).2 ?_;rw[lk];exact this;rcases T with⟨rfl,h⟩| ⟨b,cap,cs,rfl,ar,M,A,U,au,N⟩;exact .inl ⟨rfl,h⟩;refine .inr ⟨b,0,cap,cs,231,rfl,by omega,Q b cap cs M,A,U,?_,λ i x H=>?_⟩;show 0+cap*27<=cs.size;omega;have:=N i x H;refine(Abs.kJ bq rfl x _).2 ?_;rw[lk];exact this;cases k
end
end Go.Rs
namespace Go.Abs.R
open Go.Abs
section
local instance:Dr:= ⟨false⟩
def Zc:Go.Shelf.Ren:= ⟨λ _=>133,λ x=>bif hq x 22 then 26 else x,λ x=>x⟩
theorem Fv:p1 Go.Rs.FM.Q Zc where
 mixed:=Go.Rs.FM.b
 f15:=(Go.Rs.FM.a kR (by kernel_rfl) (by decide)).trans (congrArg some (by kernel_rfl))
 t3:=by kernel_rfl
 a3:=λ w=>by kernel_rfl
 z3:=λ w=>by kernel_rfl
 v3:=λ w=>by kernel_rfl
 i3:=by kernel_rfl
 t4:=by kernel_rfl
 a4:=λ w=>by kernel_rfl
 z4:=λ w=>by kernel_rfl
 v4:=λ w=>by kernel_rfl
 t22:=by kernel_rfl
 a22:=λ w=>by kernel_rfl
 z22:=λ w=>by kernel_rfl
 v22:=λ w=>by kernel_rfl
theorem U2{f T:Nat}{t enc}(h1:t.a=1)(F:∀w ok vs x,aw Go.Rs.FM.Q t w ok vs x↔vs= [enc x]) (M:∀cap w,q3 Go.Rs.FM.Q f #[.slice none 0 cap] w λ e w'=>e= .returned (.slice none 0 0)/\w'=w) (O:∀ad cap w,q3 Go.Rs.FM.Q f #[.slice (some ad) 0 cap] w λ e w'=>∃v',e= .returned v'/\w'.ownsRow w.heap.size T 1 v' 0 []/\v'≠ .slice none 0 0/\hZ w.heap.size w w') (H:∀b off(r:List t.b)cap w,r.length<=4294967296->(∀j y,w.cell? ⟨b,off+j,none⟩=some (enc r[j]))->q3 Go.Rs.FM.Q f #[.slice (some ⟨b,off,none⟩) r.length cap] w λ e w'=>∃v',e= .returned v'/\w'.ownsRow w.heap.size T 1 v' r.length (r.map enc)/\v'≠ .slice none 0 0/\hZ w.heap.size w w') (r) (w) (ok) (ad) (cap) (C:r.length<=iZ) (E:r= []\/∃b off cs T fr,ad=some ⟨b,off,none⟩/\ok b/\w.heap[b]?=some (.cells cs T fr)/\off+r.length*t.a<=cs.size/\∀i x,r[i]?=some x->aw Go.Rs.FM.Q t w ok (aS cs.toList (off+i*t.a) t.a) x):q3 Go.Rs.FM.Q f #[.slice ad r.length cap] w λ e w'=>∃v,e= .returned v/\cm w w'/\iL Go.Rs.FM.Q w' (ft ok w) [.aH t] v r/\(true=true->kz Go.Rs.FM.Q w.heap.size w' (ft ok w) [.aH t] v r):=by
 have fin:∀w' v',w'.ownsRow w.heap.size T 1 v' r.length (r.map enc)->hZ w.heap.size w w'->∃v,Ending.returned v'= .returned v/\cm w w'/\iL Go.Rs.FM.Q w' (ft ok w) [.aH t] v r/\(true=true->kz Go.Rs.FM.Q w.heap.size w' (ft ok w) [.aH t] v r):=by
  intro w' v' N l;have B:rj Go.Rs.FM.Q w.heap.size w' (ft ok w) t v' r:=by
   obtain⟨_,⟨k,a⟩| ⟨g,c,m,k,a,n,o,A,s,u⟩⟩:=N
   exact .inl ⟨k,ng.1 a⟩;refine .inr ⟨g,0,c,m,T,k,a,n,o,A,by simp[h1,s],λ i z p=>?_⟩;have P:i<r.length:=(ee.1 p).1;have G:m.toList[i]?=some (enc z):=by
    have:(m.toList.take (r.length*1))[i]?=some (enc z):=by rw[u,List.getElem?_map,p];rfl
    rw[en]at this;split at this;exact this;cases this
   rw[F,h1,lk,so];have K:i<m.toList.length:=(ee.1 G).1;unfold aS;rw[mm K];have:=(ee.1 G).2;simp[this]
  refine⟨v',rfl,⟨l.os,l.tape,⟨l.output,λ d=>(by cases d)⟩,l.size,l.block⟩,⟨[v'],rfl,?_⟩,λ _=>B⟩;obtain⟨k,a⟩| ⟨g,off,c,m,q,k,a,n,o,A,s,u⟩:=B
  refine⟨none,0,by rw[k,a];rfl,by rw[a];exact ez _,.inl a⟩;refine⟨_,c,by rw[k],o,.inr ⟨g,off,m,q,_,rfl,.inr a,n,?_,λ i z p=>?_⟩⟩;exact hB (Nat.add_le_add_left (n5 _ o) _) s;exact(u i z p).c λ b l _=>l.1
 cases ad with|none=>
  have L:r= []:=by
   obtain h| ⟨b,off,cs,T,fr,h,_⟩:=E
   exact h;cases h
  subst L;refine(M cap w).mono ?_;rintro e w'⟨rfl,rfl⟩;exact fin w' _ ⟨by simp,.inl ⟨rfl,rfl⟩⟩ (pV _ _)|some ad=>
  by_cases D:r= []
  subst D;refine(O ad cap w).mono ?_;rintro e w'⟨v',rfl,k,_,a⟩;exact fin w' v' k a;rcases E with h| ⟨b,off,cs,q,fr,h,Q,J,R,I⟩;exact absurd h D;cases h;refine(H b off r cap w (by unfold iZ at C;exact C) (λ j y=>?_)).mono ?_;rw[mv w b (off+j) cs q fr J];have k:=(F w ok _ _).1 (I j _ (eg y));rw[h1,so]at k;have a:(aS cs.toList (off+j) 1)[0]?=some (enc (r[j]'y)):=by rw[k];rfl
  obtain⟨_,n⟩:=Ct a;simpa using n;rintro e w'⟨v',rfl,k,_,a⟩;exact fin w' v' k a
def Gu(n:Nat)(s:List Int):=(jk (b2 s)).bind λ _=>some s
def PJ(n:Nat):fc:= ⟨[.aH (.ay .i64)],[],[.aH (.ay .i64)],λ x y=>Gu n x,true⟩
theorem ac3(n):jf Go.Rs.FM.Q 133 (PJ n):=by
 refine⟨⟨_,Go.Rs.FM.a kR (by kernel_rfl) (by decide),by kernel_rfl,by kernel_rfl⟩,?_⟩;intro w ok vs cs x y r o p a;obtain⟨us,rfl,ad,cap,rfl,q,m⟩:=o;have l:cs= []:=p;subst l;have a:(jk (b2 (α:=Int) x)).bind (λ _=>some x)=some r:=a;have c:b2 (α:=Int) x<=iZ/\r=x:=by
  unfold jk at a;split at a
  rename_i h;cases a;exact⟨h,rfl⟩;cases a
 have⟨c,rfl⟩:=c;refine U2 (t:= .ay .i64) (enc:=λ z=> .int .i64 z) rfl (λ _ _ _ _=>Iff.rfl) (r4 Fv 0) (r5 Fv) ?_ r w ok ad cap c m;intro b off r cap w s k;refine(r3 Fv b off (b2 (α:=Int) r) cap r w (ez _) (by omega) (λ j f=>?_)).mono ?_
 rw[k j f,List.getD_eq_getElem?_getD,eg f];rfl;rintro e w'⟨v',g,d,i⟩;rw[List.take_length]at d;exact⟨v',g,d,i⟩
end
section
local instance:Dr:= ⟨false⟩
def ad6:Go.Shelf.Ren:= ⟨λ|219=>184|217=>214|225=>215|224=>216|267=>217|266=>233|314=>234|n=>n,λ|9=>9|3=>3|4=>4|5=>5|46=>237|146=>313|51=>250|n=>n,λ|1=>0|n=>n⟩
theorem V4:q5 Go.Rs.FM.Q ad6 where
 mixed:=Go.Rs.FM.b
 f217:=(Go.Rs.iC k6 (by kernel_rfl) (by decide)).trans (congrArg some (by kernel_rfl))
 f219:=(Go.Rs.iC hM (by kernel_rfl) (by decide)).trans (congrArg some (by kernel_rfl))
 f224:=(Go.Rs.iC k3 (by kernel_rfl) (by decide)).trans (congrArg some (by kernel_rfl))
 f225:=(Go.Rs.iC k8 (by kernel_rfl) (by decide)).trans (congrArg some (by kernel_rfl))
 f266:=(Go.Rs.iC k5 (by kernel_rfl) (by decide)).trans (congrArg some (by kernel_rfl))
 f267:=(Go.Rs.iC k4 (by kernel_rfl) (by decide)).trans (congrArg some (by kernel_rfl))
 f314:=(Go.Rs.iC k7 (by kernel_rfl) (by decide)).trans (congrArg some (by kernel_rfl))
 t3:=by kernel_rfl
 a3:=λ w=>by kernel_rfl
 z3:=λ w=>by kernel_rfl
 v3:=λ w=>by kernel_rfl
 t4:=by kernel_rfl
 a4:=λ w=>by kernel_rfl
 z4:=λ w=>by kernel_rfl
 v4:=λ w=>by kernel_rfl
 t5:=by kernel_rfl
 a5:=λ w=>by kernel_rfl
 z5:=λ w=>by kernel_rfl
 v5:=λ w=>by kernel_rfl
 t9:=by kernel_rfl
 a9:=λ w=>by kernel_rfl
 z9:=λ w=>by kernel_rfl
 v9:=λ w=>by kernel_rfl
 t46:=by kernel_rfl
 a46:=λ w=>by kernel_rfl
 z46:=λ w=>by kernel_rfl
 v46:=λ w=>by kernel_rfl
 t51:=by kernel_rfl
 a51:=λ w=>by kernel_rfl
 z51:=λ w=>by kernel_rfl
 v51:=λ w=>by kernel_rfl
 t146:=by kernel_rfl
 a146:=λ w=>by kernel_rfl
 z146:=λ w=>by kernel_rfl
 v146:=λ w=>by kernel_rfl
 g1:=by kernel_rfl
def Zo:Go.Shelf.Ren:= ⟨λ|138=>160|195=>185|218=>186|143=>158|219=>184|217=>214|225=>215|224=>216|267=>217|266=>233|314=>234|n=>n,λ|9=>9|3=>3|4=>4|5=>5|0=>0|46=>237|146=>313|51=>250|n=>n,λ|1=>0|n=>n⟩
theorem WI:q4 Go.Rs.FM.Q Zo where
 mixed:=Go.Rs.FM.b
 f138:=(Go.Rs.iC kV (by kernel_rfl) (by decide)).trans (congrArg some (by kernel_rfl))
 f143:=(Go.Rs.iC q7 (by kernel_rfl) (by decide)).trans (congrArg some (by kernel_rfl))
 f195:=(Go.Rs.iC q6 (by kernel_rfl) (by decide)).trans (congrArg some (by kernel_rfl))
 f217:=(Go.Rs.iC k6 (by kernel_rfl) (by decide)).trans (congrArg some (by kernel_rfl))
 f218:=(Go.Rs.iC q8 (by kernel_rfl) (by decide)).trans (congrArg some (by kernel_rfl))
 f219:=(Go.Rs.iC hM (by kernel_rfl) (by decide)).trans (congrArg some (by kernel_rfl))
 f224:=(Go.Rs.iC k3 (by kernel_rfl) (by decide)).trans (congrArg some (by kernel_rfl))
 f225:=(Go.Rs.iC k8 (by kernel_rfl) (by decide)).trans (congrArg some (by kernel_rfl))
 f266:=(Go.Rs.iC k5 (by kernel_rfl) (by decide)).trans (congrArg some (by kernel_rfl))
 f267:=(Go.Rs.iC k4 (by kernel_rfl) (by decide)).trans (congrArg some (by kernel_rfl))
 f314:=(Go.Rs.iC k7 (by kernel_rfl) (by decide)).trans (congrArg some (by kernel_rfl))
 t0:=by kernel_rfl
 a0:=λ w=>by kernel_rfl
 z0:=λ w=>by kernel_rfl
 v0:=λ w=>by kernel_rfl
 t3:=by kernel_rfl
 a3:=λ w=>by kernel_rfl
 z3:=λ w=>by kernel_rfl
 v3:=λ w=>by kernel_rfl
 t4:=by kernel_rfl
 a4:=λ w=>by kernel_rfl
 z4:=λ w=>by kernel_rfl
 v4:=λ w=>by kernel_rfl
 t5:=by kernel_rfl
 a5:=λ w=>by kernel_rfl
 z5:=λ w=>by kernel_rfl
 v5:=λ w=>by kernel_rfl
 t9:=by kernel_rfl
 a9:=λ w=>by kernel_rfl
 z9:=λ w=>by kernel_rfl
 v9:=λ w=>by kernel_rfl
 t46:=by kernel_rfl
 a46:=λ w=>by kernel_rfl
 z46:=λ w=>by kernel_rfl
 v46:=λ w=>by kernel_rfl
 t51:=by kernel_rfl
 a51:=λ w=>by kernel_rfl
 z51:=λ w=>by kernel_rfl
 v51:=λ w=>by kernel_rfl
 t146:=by kernel_rfl
 a146:=λ w=>by kernel_rfl
 z146:=λ w=>by kernel_rfl
 v146:=λ w=>by kernel_rfl
 g1:=by kernel_rfl
def BL(n:Nat)(s:List UInt8)(t:List UInt8):=match t with| [c]=>some (Lib.indexByte s c)|_=>none
def T7(n:Nat):fc:= ⟨[.aJ,.aJ],[],[.ay .i64],λ x y=>BL n x.1 x.2,false⟩
theorem abx(n):jf Go.Rs.FM.Q 184 (T7 n):=by
 refine⟨⟨_,Go.Rs.iC hM (by kernel_rfl) (by decide),by kernel_rfl,by kernel_rfl⟩,?_⟩;intro w ok vs cs x y r k l a;have⟨s,t⟩:=x;obtain⟨us,rest,rfl,f,m,g,i⟩:=k;have j:cs= []:=l;subst j;have a:BL n s t=some r:=a;unfold BL at a;split at a
 rename_i c _;cases a;have b:us= [.string ⟨⟨s⟩⟩]:=f;have d:m= [.string ⟨⟨[c]⟩⟩]:=i;subst b d;rw[g];refine(r9 V4 ⟨⟨s⟩⟩ c w).mono ?_;rintro e w'⟨rfl,rfl⟩;exact⟨_,rfl,cm.h _,⟨[_],rfl,rfl⟩,λ h=>by cases h⟩;cases a
def Bp(n:Nat)(s:List UInt8)(t:List UInt8):=match t with| [c]=>some ((Lib.countByte s c:Nat):Int)|_=>none
def QB(n:Nat):fc:= ⟨[.aJ,.aJ],[],[.ay .i64],λ x y=>Bp n x.1 x.2,false⟩
theorem aeV(n):jf Go.Rs.FM.Q 160 (QB n):=by
 refine⟨⟨_,Go.Rs.iC kV (by kernel_rfl) (by decide),by kernel_rfl,by kernel_rfl⟩,?_⟩;intro w ok vs cs x y r k l a;have⟨s,t⟩:=x;obtain⟨us,rest,rfl,f,m,g,i⟩:=k;have j:cs= []:=l;subst j;have a:Bp n s t=some r:=a;unfold Bp at a;split at a
 rename_i c _;cases a;have b:us= [.string ⟨⟨s⟩⟩]:=f;have d:m= [.string ⟨⟨[c]⟩⟩]:=i;subst b d;rw[g];refine(r8 WI ⟨⟨s⟩⟩ c w).mono ?_;rintro e w'⟨rfl,rfl⟩;exact⟨_,rfl,cm.h _,⟨[_],rfl,rfl⟩,λ h=>by cases h⟩;cases a
def TI(n:Nat)(s:List UInt8)(k:Int):Option (List (List UInt8)):=none
def Ps(n:Nat):fc:= ⟨[.aJ,.ay .i64],[],[.aH .aJ],λ x y=>TI n x.1 x.2,true⟩
theorem ahr(n):jf Go.Rs.FM.Q 159 (Ps n):=by refine⟨⟨_,Go.Rs.iC q9 (by kernel_rfl) (by decide),by kernel_rfl,by kernel_rfl⟩,?_⟩;intro w ok vs cs x y r b c a;cases a
end
section
local instance:Dr:= ⟨false⟩
variable {o:ny} {x:ih} {c2:Int} {v:eb}
def mK:Nat->pt->Array ny|0,.seq (.region _ ops _) _=>ops|k+1,.seq _ b=>mK k b|_,_=> #[]
def uZ(k i:Nat)(c:pt):=(mK k c).toList.getD i ⟨none,.move (.tmp 0),0,"",#[],none⟩
abbrev eK(b:Nat):Value:= .pointer (some ⟨b,0,none⟩)
theorem H3{P T}(h:o.op= .box T x)(a:fu)(w):(fR a.eval o).run P w= .ok (.value (eK w.heap.size)) (w.alloc (.cells (a.eval x).cells T)):=by simp[fR,h,Instr.box];rfl
theorem vP{P}(h:o.op= .assign x\/o.op= .move x)(a:fu)(w):(fR a.eval o).run P w= .ok (.value (a.eval x)) w:=by unfold fR;rcases h with h|h<;>(rw[h];rfl)
theorem TC{α β:Type}(xs:Array α)(f:α->β):xs.map f=(xs.toList.map f).toArray:=by apply Array.ext';simp
theorem acd{P}{f:Nat}{cap}(h:o.op= .makeFunc (.func f) #[] cap)(a:fu)(w):(fR a.eval o).run P w= .ok (.value (.func (.func f) #[] (cap.toList.map a.eval).toArray)) w:=by rw[<-TC];simp[fR,h,Instr.makeFunc]
def Bi(e:List UInt8)(c1:List UInt8)(c2:Int):au:={N:=52,d:= [],a:=(0,⟨[],true,.v .ku⟩):: [(1,⟨[],true,.v (.dx 0 0 0)⟩),(2,⟨[],true,.v (.dx 1 0 0)⟩),(3,⟨[],true,.v (.dx 2 0 0)⟩)],b:= [(0,(0,.eu .aJ [.aE .aJ e])),(1,(0,.eu .aJ [.aE .aJ c1])),(2,(0,.eu (.ay .i64) [.aE (.ay .i64) c2]))],c:= []}
def A3(n0:Nat)(b:Nat):=b=n0\/b=n0+1\/b=n0+2
def MO(n0:Nat)(B:Nat->Prop)(l:Nat):bf:= ⟨λ id=>match id with|0=>some (0,eK (n0+1),true)|1=>some (0,eK n0,true)|2=>some (0,eK (n0+2),true)|_=>none,B,l⟩
theorem Ho{n0 B l id v c a}(h:MO n0 B l id=some (v,c,a)):v=0/\a=true/\((id=0/\c=eK (n0+1))\/(id=1/\c=eK n0)\/(id=2/\c=eK (n0+2))):=by match id,h with|0,h=>cases h;exact⟨rfl,rfl,.inl ⟨rfl,rfl⟩⟩|1,h=>cases h;exact⟨rfl,rfl,.inr (.inl ⟨rfl,rfl⟩)⟩|2,h=>cases h;exact⟨rfl,rfl,.inr (.inr ⟨rfl,rfl⟩)⟩|_+3,h=>cases h
theorem Qy{a c1 d sl}(h:Map.av (Bi a c1 c2).a d=some sl):(d=0/\sl= ⟨[],true,.v .ku⟩)\/(d=1/\sl= ⟨[],true,.v (.dx 0 0 0)⟩)\/(d=2/\sl= ⟨[],true,.v (.dx 1 0 0)⟩)\/(d=3/\sl= ⟨[],true,.v (.dx 2 0 0)⟩):=by match d,h with|0,h=>cases h;exact .inl ⟨rfl,rfl⟩|1,h=>cases h;exact .inr (.inl ⟨rfl,rfl⟩)|2,h=>cases h;exact .inr (.inr (.inl ⟨rfl,rfl⟩))|3,h=>cases h;exact .inr (.inr (.inr ⟨rfl,rfl⟩))|_+4,h=>cases h
theorem Yf{P W n0 l}{ok:Nat->Prop}{G c1}(h1:W.heap[n0]?=some (.cells #[.string ⟨⟨c1⟩⟩] 9 (0,0)))(h0:W.heap[n0+1]?=some (.cells #[.string ⟨⟨G⟩⟩] 9 (0,0))) (h2:W.heap[n0+2]?=some (.cells #[.int .i64 c2] 3 (0,0))):cT P ⟨W,λ b=>(ok b\/A3 n0 b)\/W.heap.size<=b,A3 n0,[],#[],l,W.heap.size⟩ (Bi G c1 c2) {tmps:=(#[l7 (.yield l) #[] #[]]++ [eK (n0+1),eK n0,eK (n0+2)].toArray)++ep (52- (#[l7 (.yield l) #[] #[]]++ [eK (n0+1),eK n0,eK (n0+2)].toArray).size) hh,defers:= []} W:=by
 have M:n0+2<W.heap.size:=(ea.1 h2).1;let B:Nat->Prop:=λ b=>(ok b\/A3 n0 b)\/W.heap.size<=b;have E:∀b C,dB (eK b) C->C=b:=λ b C h=>by have h:some b=some C:=h;exact(eQ h).symm
 have D:∀d v,([.func (.yield l) #[] #[],eK (n0+1),eK n0,eK (n0+2)]:List eb)[d]?=some v->((#[l7 (.yield l) #[] #[]]++ [eK (n0+1),eK n0,eK (n0+2)].toArray)++ep (52- (#[l7 (.yield l) #[] #[]]++ [eK (n0+1),eK n0,eK (n0+2)].toArray).size) hh)[d]?=some v:=λ d v h=>by
  have L:d<4:=by have:=(ee.1 h).1;simpa using this
  rw[hN (by simp;omega)];simpa using h
 refine⟨MO n0 B l,{g:=rfl,n:=by simp[Bi],m:=λ d sl a p hp=>?_,k:=λ d sl a=>?_,q:=λ id ver o s=>?_,r:=λ id a=>?_,t:=λ i j J N c c' b z F y I=>?_,f:=λ i J c b z y=>?_,e:= ⟨rfl,rfl,⟨rfl,λ _=>ez _⟩,ez _,λ _ _ _=>rfl⟩,u:=rfl,x:=rfl,h:= ⟨λ b y=> .inr y,λ b y=> .inl (.inr y),(λ _ h=>by cases h),List.nodup_nil,ez _⟩,l:=(λ _ h=>by cases h)}⟩
 rcases Qy a with⟨_,e⟩| ⟨_,e⟩| ⟨_,e⟩| ⟨_,e⟩<;>(rw[e]at hp;cases hp)
 rcases Qy a with⟨rfl,rfl⟩| ⟨rfl,rfl⟩| ⟨rfl,rfl⟩| ⟨rfl,rfl⟩;exact⟨.func (.yield l) #[] #[],D 0 _ rfl,⟨λ _=> ⟨rfl,rfl⟩,λ A=>absurd (cG _) A⟩⟩;exact⟨eK (n0+1),D 1 _ rfl,⟨λ _=> ⟨rfl,0,_,true,rfl,ez _,rfl,λ _=> ⟨_,rfl,rfl⟩⟩,λ A=>absurd (cG _) A⟩⟩;exact⟨eK n0,D 2 _ rfl,⟨λ _=> ⟨rfl,0,_,true,rfl,ez _,rfl,λ _=> ⟨_,rfl,rfl⟩⟩,λ A=>absurd (cG _) A⟩⟩;exact⟨eK (n0+2),D 3 _ rfl,⟨λ _=> ⟨rfl,0,_,true,rfl,ez _,rfl,λ _=> ⟨_,rfl,rfl⟩⟩,λ A=>absurd (cG _) A⟩⟩
 match id,s with
 |0,s=>cases s;exact⟨_,true,rfl,rfl,_,_,_,rfl,h0,rfl,(λ v w=>by simp at w;subst w;rfl),⟨⟨_,rfl,rfl⟩,trivial⟩⟩
 |1,s=>cases s;exact⟨_,true,rfl,rfl,_,_,_,rfl,h1,rfl,(λ v w=>by simp at w;subst w;rfl),⟨⟨_,rfl,rfl⟩,trivial⟩⟩
 |2,s=>cases s;exact⟨_,true,rfl,rfl,_,_,_,rfl,h2,rfl,(λ v w=>by simp at w;subst w;rfl),⟨⟨_,rfl,rfl⟩,trivial⟩⟩
 |_+3,s=>cases s
 match id,a with
 |0,a=>cases a
 |1,a=>cases a
 |2,a=>cases a
 |_+3,_=>rfl
 obtain⟨_,_,z⟩:=Ho z;obtain⟨_,_,F⟩:=Ho F;rcases z with⟨rfl,rfl⟩| ⟨rfl,rfl⟩| ⟨rfl,rfl⟩<;>rcases F with⟨rfl,rfl⟩| ⟨rfl,rfl⟩| ⟨rfl,rfl⟩<;>first|rfl| (have H:=E _ _ y;have K:=E _ _ I;omega)
 obtain⟨_,_,z⟩:=Ho z;rcases z with⟨rfl,rfl⟩| ⟨rfl,rfl⟩| ⟨rfl,rfl⟩<;>(have H:=E _ _ y;subst H;refine⟨.inr ?_,by omega⟩;unfold A3;show _\/_\/_;omega)
section
variable{P:fv}
theorem pU{r}{n k i d:Nat}{c b a w w' Q op}(h1:(mK k c)[i]?=some (uZ k i c))(h2:(uZ k i c).op=op)(h3:(uZ k i c).guard=none)(h4:(uZ k i c).dst=some d) (e:∀c,op≠ .defer c) (f:∀o,o.op=op->(fR a.eval o).run P w= .ok (.value v) w') (h:wpOpsIn (Fr r) n P (mK k c) Q b (a.put (some d) v) w'):wpOpsIn (Fr r) n P (mK k c) Q (i::b) a w:=by refine BZ h1 h3 (λ c=>by rw[h2];exact e c) (QW (f _ h2) ?_);rw[h4];exact h
theorem OX{fn}{t:Nat}{a}(h:fn.results= #[.tmp t])(b:a[t]?=some v)(w):(hJ fn a).run P w= .ok v w:=by unfold hJ;rw[h,fl];simp[ej,b]
end
open Go.Proofs (Tryz.f145 Tryz.f115 Tryz.f156 Tryz.func145 Tryz.func115 Tryz.func156)
noncomputable abbrev Dv:=bd Tryz.f145
noncomputable abbrev tT:=bd Tryz.f115
theorem afl:Tryz.f145.body=some (.seq (.region 0 (mK 0 Dv) false) (.seq (.region 1 (mK 1 Dv) false) .ret)):=by kernel_rfl
theorem abz:Tryz.f115.body=some (.seq (.region 0 (mK 0 tT) false) (.seq (.region 1 (mK 1 tT) false) .ret)):=by kernel_rfl
theorem aiP:ml (mK 0 Dv).size= [0,1,2,3]:=by kernel_rfl
theorem adz:ml (mK 1 Dv).size= [0,1]:=by kernel_rfl
theorem UE:ml (mK 0 tT).size= [0]:=by kernel_rfl
theorem Yb:ml (mK 1 tT).size= [0,1,2,3]:=by kernel_rfl
theorem aiH:Tryz.f145.ntmps=8:=by kernel_rfl
theorem afd:Tryz.f115.ntmps=8:=by kernel_rfl
theorem adh:Tryz.f145.results= #[.tmp 6]:=by kernel_rfl
theorem acT:Tryz.f115.results= #[.tmp 4]:=by kernel_rfl
def pK(w:ef)(s t:List UInt8):=((w.alloc (.cells #[.string ⟨⟨s⟩⟩] 9)).alloc (.cells #[.string ⟨⟨t⟩⟩] 9)).alloc (.cells #[.int .i64 0] 3)
def yQ(w:ef):Value:= .func (.func 156) #[] [eK (w.heap.size+1),eK w.heap.size,eK (w.heap.size+2)].toArray
theorem jV(w:ef)(o):(w.alloc o).heap.size=w.heap.size+1:=oV ..
theorem aeP(w)(s t):yQ w= .func (.func 156) #[] [eK (w.alloc (.cells #[.string ⟨⟨s⟩⟩] 9)).heap.size,eK w.heap.size,eK ((w.alloc (.cells #[.string ⟨⟨s⟩⟩] 9)).alloc (.cells #[.string ⟨⟨t⟩⟩] 9)).heap.size].toArray:=by unfold yQ;rw[jV,jV,jV]
theorem UK(w)(s t):q3 Go.Rs.FM.Q 145 #[.string ⟨⟨s⟩⟩,.string ⟨⟨t⟩⟩,.int .i64 0] w λ a b=>∃v,a= .returned v/\v=yQ w/\b=pK w s t:=by
 refine oH.1 (s8 (n:=7) (Go.Rs.FM.a rm (by kernel_rfl) (by decide)) afl trivial ?_);have e:(#[.string ⟨⟨s⟩⟩,.string ⟨⟨t⟩⟩,.int .i64 0]:Array eb)++ep (Tryz.f145.ntmps- (#[.string ⟨⟨s⟩⟩,.string ⟨⟨t⟩⟩,.int .i64 0]:Array eb).size) hh= #[.string ⟨⟨s⟩⟩,.string ⟨⟨t⟩⟩,.int .i64 0,hh,hh,hh,hh,hh]:=by rw[aiH];apply lv.1;simp
 rw[e];refine o9 (mA ?_);rw[aiP];refine pU (r:=none) (by kernel_rfl) (op:= .box 9 (.tmp 0)) (by kernel_rfl) (by kernel_rfl) (d:=3) (by kernel_rfl) (λ c h=>by cases h) (λ o h=>H3 h _ _) ?_;refine pU (r:=none) (by kernel_rfl) (op:= .box 9 (.tmp 1)) (by kernel_rfl) (by kernel_rfl) (d:=4) (by kernel_rfl) (λ c h=>by cases h) (λ o h=>H3 h _ _) ?_;refine pU (r:=none) (by kernel_rfl) (op:= .box 3 (.tmp 2)) (by kernel_rfl) (by kernel_rfl) (d:=5) (by kernel_rfl) (λ c h=>by cases h) (λ o h=>H3 h _ _) ?_;refine pU (r:=none) (by kernel_rfl) (op:= .assign (.const .nilFunc)) (by kernel_rfl) (by kernel_rfl) (d:=6) (by kernel_rfl) (λ c h=>by cases h) (λ o h=>vP (.inl h) _ _) ?_;refine o9 (mA ?_);rw[adz];refine pU (r:=none) (by kernel_rfl) (op:= .makeFunc (.func 156) #[] #[.tmp 4,.tmp 3,.tmp 5]) (by kernel_rfl) (by kernel_rfl) (d:=7) (by kernel_rfl) (λ c h=>by cases h) (λ o h=>acd h _ _) ?_;refine pU (r:=none) (by kernel_rfl) (op:= .assign (.tmp 7)) (by kernel_rfl) (by kernel_rfl) (d:=6) (by kernel_rfl) (λ c h=>by cases h) (λ o h=>vP (.inl h) _ _) ?_;refine wpIn_ret ⟨rfl,_,OX adh (t:=6) rfl _,_,rfl,?_,rfl⟩;exact(aeP w s t).symm
theorem WQ:lE Go.Rs.FM.Q 145:= ⟨_,Go.Rs.FM.a rm (by kernel_rfl) (by decide),by kernel_rfl,by kernel_rfl⟩
theorem aas:lE Go.Rs.FM.Q 156:= ⟨_,Go.Rs.FM.a re (by kernel_rfl) (by decide),by kernel_rfl,by kernel_rfl⟩
theorem aai(w)(s t):q3 Go.Rs.FM.Q 115 #[.string ⟨⟨s⟩⟩,.string ⟨⟨t⟩⟩] w λ f a=>∃v,f= .returned v/\v=yQ w/\a=pK w s t:=by
 refine oH.1 (s8 (n:=7) (Go.Rs.FM.a rr (by kernel_rfl) (by decide)) abz trivial ?_);have e:(#[.string ⟨⟨s⟩⟩,.string ⟨⟨t⟩⟩]:Array eb)++ep (Tryz.f115.ntmps- (#[.string ⟨⟨s⟩⟩,.string ⟨⟨t⟩⟩]:Array eb).size) hh= #[.string ⟨⟨s⟩⟩,.string ⟨⟨t⟩⟩,hh,hh,hh,hh,hh,hh]:=by rw[afd];apply lv.1;simp
 rw[e];refine o9 (mA ?_);rw[UE];refine pU (r:=none) (by kernel_rfl) (op:= .assign (.const .nilFunc)) (by kernel_rfl) (by kernel_rfl) (d:=4) (by kernel_rfl) (λ c h=>by cases h) (λ o h=>vP (.inl h) _ _) ?_;refine o9 (mA ?_);rw[Yb];refine pU (r:=none) (by kernel_rfl) (op:= .move (.tmp 0)) (by kernel_rfl) (by kernel_rfl) (d:=5) (by kernel_rfl) (λ c h=>by cases h) (λ o h=>vP (.inr h) _ _) ?_;refine pU (r:=none) (by kernel_rfl) (op:= .move (.tmp 1)) (by kernel_rfl) (by kernel_rfl) (d:=6) (by kernel_rfl) (λ c h=>by cases h) (λ o h=>vP (.inr h) _ _) ?_;have b:(uZ 1 2 tT).op= .call {callee:= .value (.func 145),args:= #[.tmp 5,.tmp 6,.const (.int .i64 0)],argTypes:= #[9,9,3]}:=by kernel_rfl
 refine BZ (o:=uZ 1 2 tT) (by kernel_rfl) (by kernel_rfl) (λ c=>by rw[b];intro h;cases h) (MW (Rk WQ b _ w) (R:=λ v a=>v=yQ w/\a=pK w s t) ?_ ?_)
 rw[TC];exact UK w s t;rintro v a⟨rfl,rfl⟩;have g:(uZ 1 2 tT).dst=some 7:=by kernel_rfl
 rw[g];refine pU (r:=none) (by kernel_rfl) (op:= .assign (.tmp 7)) (by kernel_rfl) (by kernel_rfl) (d:=4) (by kernel_rfl) (λ c h=>by cases h) (λ o h=>vP (.inl h) _ _) ?_;exact wpIn_ret ⟨rfl,_,OX acT (t:=4) rfl _,_,rfl,rfl,rfl⟩
theorem ZY:lE Go.Rs.FM.Q 115:= ⟨_,Go.Rs.FM.a rr (by kernel_rfl) (by decide),by kernel_rfl,by kernel_rfl⟩
theorem Ua:Tryz.f156.body=some (bd s5):=by kernel_rfl
theorem Ux:Tryz.f156.results.toList= []:=by kernel_rfl
theorem aid:Tryz.f156.ntmps=52:=by kernel_rfl
theorem ahp(w)(s t):(pK w s t).heap.size=w.heap.size+3:=by unfold pK;rw[jV,jV,jV]
theorem wI(w:ef)(o)(b)(h:b<w.heap.size):(w.alloc o).heap[b]?=w.heap[b]?:=by show(w.heap.push o)[b]?=_;rw[j2,if_neg (by omega)]
theorem IE(w:ef)(o)(b)(h:b=w.heap.size):(w.alloc o).heap[b]?=some o:=by subst h;show(w.heap.push o)[w.heap.size]?=_;simp
theorem ZA{g:List UInt8->List UInt8->Option (List (List UInt8))}{e}(n:eS Go.Rs.FM.Q (jP [.aJ]) false (bd s5) e)(heq:∀s t,e (Bi t s 0) Cb=g s t):Ej Go.Rs.FM.Q 115 .aJ g:=by
 refine⟨ZY,λ w s t xs f=>(aai w s t).mono ?_⟩;rintro q z⟨v,rfl,rfl,rfl⟩;have y:=ahp w s t;have m:∀b,b<w.heap.size->(pK w s t).heap[b]?=w.heap[b]?:=λ b a=>by unfold pK;rw[wI _ _ _ (by rw[jV,jV];omega),wI _ _ _ (by rw[jV];omega),wI _ _ _ a]
 refine⟨_,rfl,156,_,A3 w.heap.size,rfl,aas,by omega,m,⟨rfl,rfl,rfl,λ _=>ez _⟩,λ b a=>?_,λ c r d ok u=>?_⟩
 unfold A3 at a;omega;have i:c.heap[w.heap.size]?=some (.cells #[.string ⟨⟨s⟩⟩] 9 (0,0)):=by rw[d _ (by omega)];unfold pK;rw[wI _ _ _ (by rw[jV,jV];omega),wI _ _ _ (by rw[jV];omega),IE _ _ _ rfl]
 have j:c.heap[w.heap.size+1]?=some (.cells #[.string ⟨⟨t⟩⟩] 9 (0,0)):=by rw[d _ (by omega)];unfold pK;rw[wI _ _ _ (by rw[jV,jV];omega),IE _ _ _ (by rw[jV])]
 have k:c.heap[w.heap.size+2]?=some (.cells #[.int .i64 0] 3 (0,0)):=by rw[d _ (by omega)];unfold pK;rw[IE _ _ _ (by rw[jV,jV])]
 rw[<-heq]at f;refine Q2 (tys:= [.aJ]) (by simp) (λ W o p x h=> ⟨p,rfl,h⟩) (Go.Rs.FM.a re (by kernel_rfl) (by decide)) Ua Ux n (λ b a=>?_) (λ l=>?_) f
 unfold A3 at a;omega;rw[aid];exact Yf i j k
end
end Go.Abs.R
