/- Part of a proof that the statement holds. No conditions. -/
import Derived.Lib.RowBridge
import Derived.Shelf.Slices.CompactI
import Derived.Shelf.Sort.Plain
import Derived.SevenTiedAt
import Derived.Test.YtbppbacfffndaaaGreatDoorN5
set_option linter.all false
set_option maxRecDepth 100000
open List renaming length->fV,getElem?_eq_getElem->u1,getElem?_eq_some_iff->u5,mem_of_getElem?->vo,mem_singleton->vE,mem_map->vR,mem_cons->x0,length_map->x2,replicate->x3,range'->yl,all_eq_true->y3,mem_flatten->y4,flatMap_cons->y5,mem_append->y6,length_pos_iff->y7,getElem_mem->zr,drop_eq_nil_of_le->zt,map_append->z1,getElem?_of_mem->A2,pairwise_cons->C8,mem_or_eq_of_mem_set->K3,getElem?_append_left->Lk,pairwise_iff_getElem->Ls,drop_eq_getElem_cons->Lt,pairwise_mergeSort->L3,mem_cons_of_mem->N4,pairwise_append->N5,mergeSort_perm->PH,findIdx?_cons->P8,length_append->P9,mem_cons_self->R1,append_assoc->SA,getElem?_map->S1,length_nil->Tw,nodup_cons->TK,all_cons->aa1,map_cons->abj,map_nil->agM,take->ajr
open Option renaming bind_some->k9,ne_none_iff_exists'->y8,getD->D3,map_some->I0,isSome_iff_exists->Jx
open Go.IntKind renaming wrap->u0
open Bool renaming not_true->u2,not_false->vL,and_eq_true->y2,or_self->zs,false_or->L1,and_self->Xs,true_and->a6
open UInt8 renaming toNat->vi
open Go renaming maxLen->vj
open Go.Value renaming int->w6
open Go.Sort renaming putCells->x1,ahead->Jo,onCells->Sh,putRow->ajo
open Go.Lib renaming compact->yt,compactUpTo->y9,keeps->L2
open Array renaming getElem?_eq_getElem->y0,getElem?_eq_some_iff->zj,getElem?_mapIdx->N1
open Nat renaming dvd_trans->zl,lt_or_ge->A1,gcd->B1,le_refl->N6,gcd_dvd_right->S3,gcd_dvd_left->Tp,sub_self->ahB,dvd_refl->ahM,gcd_comm->ah4,add_zero->aiw,mul_one->ajm
open Int renaming toNat_of_nonneg->B2,toNat_natCast->F0,toNat->N2,natCast_dvd_natCast->N3,dvd_sub->ajn
open Go.Proofs.Tryz renaming func129->Dd,func130->D1,f258->T2,func152->abJ,func172->abY,func176->acV,func208->ac1,func212->ac5,func232->ac8,func169->adp,func173->adq,func177->ads,func209->adH,func213->adV,func170->ad2,func174->ae7,func178->ae9,func210->afc,func151->afr,func171->afQ,func175->afY,func179->af1,func211->af2,f156->ajq
open Go.Shelf renaming Ren->S2
open Go.Claim7 renaming isSixth->To
open Go.World renaming frozen?->TT,cell?->agG
open Go.Proofs.Lays2 renaming n20->T0
open Go.Proofs.Lays renaming n189->abG
open Go.Proofs.Any renaming slices_Compact_int->agP,slices_Compact_int_empty->agU,slices_Sort_int->ahx
open List.Pairwise renaming nil->ai3
open Go.Rs renaming FM->a1
namespace Go.Abs
open Go.Proofs Go.Shelf Go.Sort
section
local instance:Dr:= ⟨false⟩
def am1:S2:= ⟨λ|189=>129|125=>152|257=>151|128=>178|129=>179|294=>169|295=>170|296=>171|297=>172|298=>173|299=>174|216=>175|300=>176|301=>177|328=>208|329=>209|330=>210|331=>211|332=>212|215=>213|343=>232|n=>n,λ|28=>26|3=>3|46=>237|0=>0|51=>250|53=>247|4=>4|183=>260|182=>259|131=>265|5=>5|9=>9|218=>291|222=>294|228=>311|229=>72|n=>n,λ|n=>n⟩
theorem am0(X:Go.Rs.FS):abG X.Q am1:={
 mixed:=X.b
 f125:=X.k abJ
 f128:=X.k ae9
 f129:=X.k af1
 f189:=X.k Dd
 f215:=X.k adV
 f216:=X.k afY
 f257:=X.k afr
 f294:=X.k adp
 f295:=X.k ad2
 f296:=X.k afQ
 f297:=X.k abY
 f298:=X.k adq
 f299:=X.k ae7
 f300:=X.k acV
 f301:=X.k ads
 f328:=X.k ac1
 f329:=X.k adH
 f330:=X.k afc
 f331:=X.k af2
 f332:=X.k ac5
 f343:=X.k ac8
 t0:=by kernel_rfl
 a0:=λ w=>by kernel_rfl
 z0:=λ w=>by kernel_rfl
 v0:=λ w=>by kernel_rfl
 t3:=by kernel_rfl
 a3:=λ w=>by kernel_rfl
 z3:=λ w=>by kernel_rfl
 v3:=λ w=>by kernel_rfl
 t4:=by kernel_rfl
 a4:=λ w=>by kernel_rfl
 z4:=λ w=>by kernel_rfl
 v4:=λ w=>by kernel_rfl
 t5:=by kernel_rfl
 a5:=λ w=>by kernel_rfl
 z5:=λ w=>by kernel_rfl
 v5:=λ w=>by kernel_rfl
 t9:=by kernel_rfl
 a9:=λ w=>by kernel_rfl
 z9:=λ w=>by kernel_rfl
 v9:=λ w=>by kernel_rfl
 t28:=by kernel_rfl
 a28:=λ w=>by kernel_rfl
 z28:=λ w=>by kernel_rfl
 v28:=λ w=>by kernel_rfl
 t46:=by kernel_rfl
 a46:=λ w=>by kernel_rfl
 z46:=λ w=>by kernel_rfl
 v46:=λ w=>by kernel_rfl
 t51:=by kernel_rfl
 a51:=λ w=>by kernel_rfl
 z51:=λ w=>by kernel_rfl
 v51:=λ w=>by kernel_rfl
 t53:=by kernel_rfl
 a53:=λ w=>by kernel_rfl
 z53:=λ w=>by kernel_rfl
 v53:=λ w=>by kernel_rfl
 t131:=by kernel_rfl
 a131:=λ w=>by kernel_rfl
 z131:=λ w=>by kernel_rfl
 v131:=λ w=>by kernel_rfl
 t182:=by kernel_rfl
 a182:=λ w=>by kernel_rfl
 z182:=λ w=>by kernel_rfl
 v182:=λ w=>by kernel_rfl
 t183:=by kernel_rfl
 a183:=λ w=>by kernel_rfl
 z183:=λ w=>by kernel_rfl
 v183:=λ w=>by kernel_rfl
 t218:=by kernel_rfl
 a218:=λ w=>by kernel_rfl
 z218:=λ w=>by kernel_rfl
 v218:=λ w=>by kernel_rfl
 t222:=by kernel_rfl
 a222:=λ w=>by kernel_rfl
 z222:=λ w=>by kernel_rfl
 v222:=λ w=>by kernel_rfl
 t228:=by kernel_rfl
 a228:=λ w=>by kernel_rfl
 z228:=λ w=>by kernel_rfl
 v228:=λ w=>by kernel_rfl
 t229:=by kernel_rfl
 a229:=λ w=>by kernel_rfl
 z229:=λ w=>by kernel_rfl
 v229:=λ w=>by kernel_rfl}
def an2:S2:= ⟨λ|20=>130|n=>n,λ|22=>26|3=>3|4=>4|0=>0|n=>n,λ|n=>n⟩
theorem akZ(X:Go.Rs.FS):T0 X.Q an2:={
 mixed:=X.b
 f20:=X.k D1
 t0:=by kernel_rfl
 a0:=λ w=>by kernel_rfl
 z0:=λ w=>by kernel_rfl
 v0:=λ w=>by kernel_rfl
 t3:=by kernel_rfl
 a3:=λ w=>by kernel_rfl
 z3:=λ w=>by kernel_rfl
 v3:=λ w=>by kernel_rfl
 t4:=by kernel_rfl
 a4:=λ w=>by kernel_rfl
 z4:=λ w=>by kernel_rfl
 v4:=λ w=>by kernel_rfl
 t22:=by kernel_rfl
 a22:=λ w=>by kernel_rfl
 z22:=λ w=>by kernel_rfl
 v22:=λ w=>by kernel_rfl
 i3:=by kernel_rfl}
def z7(n:Nat)(l:List Int):=bif l.isEmpty then none else(jk (fV l)).bind λ _=>some (l.mergeSort λ x y=>decide (x<=y))
def alM(n:Nat):u7:= ⟨.ay .i64,[],λ l _=>z7 n l,false⟩
theorem anc {w } {ok } {v } {l l' : List Int} (C : o7 a1.Q w ok (.ay .i64) v l) (M : z7 0 l = some l') :Calls a1.Q 129 #[v] w fun e w' => ∃ r, e = .returned r /\ aeE v w w' /\ r = .tuple #[] /\ o7 a1.Q w' (ft ok w) (.ay .i64) v l' := by
  have f : l ≠ [] /\ fV l <= iZ /\ l' = l.mergeSort fun x y => decide (x <= y) := by grind[z7,List.isEmpty_cons,jk,Option.some.injEq]
  obtain ⟨f, L, rfl⟩ := f
  obtain⟨_, h⟩ | ⟨b, off, cap, cs, T, rfl, c, q, s, D, t⟩:=C
  · trivial
  · have H : off + l.length <= cs.size := by
      grind[Ty.a]
    have E : ∀ j  a , cs[off + j]? = some (.int .i64 l[j]) := by
      intro j a
      have p : aS cs.toList (off + j * 1) 1 = [.int .i64 (l[j]'a)] := t j _ (u1 a)
      rw[ajm] at p
      have c : (aS cs.toList (off + j) 1)[0]? = some (.int .i64 (l[j]'a)) := by grind
      have ⟨_, q⟩ := Ct c
      grind
    have u : Holds (w6 .i64) w b off l.toArray := by
      intro j a
      grind[agG,TT]
    have g : b < w.heap.size := (zj.1 c).1
    have B : l.length < 4611686018427387904 := by grind[iZ]
    refine (ahx (am0 _) b _ _ l w u g B).mono ?_
    rintro e w' ⟨rfl, n, os, rfl⟩
    generalize J : (l.mergeSort fun x y => decide (x <= y)) = m
    have K : m.length = l.length := by grind[List.length_mergeSort]
    have F : (grow (ajo (w6 .i64) (Jo w n) b off m.toArray) os).heap = (w.heap.modify b (Sh (x1 (w6 .i64) off m.toArray))) ++ os := rfl
    have N : (w.heap.modify b (Sh (x1 (w6 .i64) off m.toArray))).size = w.heap.size := by simp
    have o : ∀ k, k < w.heap.size -> (grow (ajo (w6 .i64) (Jo w n) b off m.toArray) os).heap[k]? = if b = k then (w.heap[k]?).map (Sh (x1 (w6 .i64) off m.toArray)) else w.heap[k]? := by
      grind
    refine ⟨_, rfl, ⟨rfl, rfl, ⟨rfl, fun d => (by cases d)⟩, ?_, fun k A f => ?_⟩, rfl, .inr ⟨b, off, cap, x1 (w6 .i64) off m.toArray cs, T, by grind, ?_, by omega, s, ?_, fun i x z => ?_⟩⟩
    · simp
    · rw[o k A, if_neg fun e => f (by rw[e]; rfl)]
    · rw[o b g, if_pos rfl, c]; rfl
    · grind[x1]
    · have G : i < m.length := (u5.1 z).1
      have I : off + i < cs.size := by omega
      have hp : (x1 (w6 .i64) off m.toArray cs)[off + i]? = some (.int .i64 x) := by
        grind[x1,y0,Option.some.injEq,u5]
      show aS _ (off + i * 1) 1 = [.int _ x]
      grind[x1,Nt,y0]
theorem anU(n):aaO a1.Q 129 (alM n):=by refine⟨⟨_,a1.a Dd (by kernel_rfl) (by decide),by kernel_rfl,by kernel_rfl⟩,?_⟩;intro w ok v vs l y l' f h _ g;have:vs= []:=h;subst this;refine(anc f g).mono ?_;rintro e w'⟨r,a,b,c,d⟩;exact⟨r,a,b,.inr ⟨rfl,c,d⟩⟩
def zZ(n:Nat)(l:List Int):=(jk (fV l)).bind λ _=>some (yt l)
def alT(n:Nat):u7:= ⟨.ay .i64,[],λ l _=>zZ n l,true⟩
theorem amX {w } {ok } {v } {l l' : List Int} (z : o7 a1.Q w ok (.ay .i64) v l) (N : zZ 0 l = some l') :Calls a1.Q 130 #[v] w fun e w' => ∃ r, e = .returned r /\ aeE v w w' /\ o7 a1.Q w' (ft ok w) (.ay .i64) r l' /\ ∀ b, dB r b -> dB v b := by
  have h : fV l <= iZ /\ l' = yt l := by grind[zZ,jk,Option.some.injEq]
  obtain ⟨M, rfl⟩ := h
  obtain⟨rfl, rfl⟩ | ⟨b, off, cap, cs, T, rfl, c, g, p, A, s⟩:=z
  · refine (agU (akZ _) _ 0 w).mono ?_;rintro e w' ⟨rfl, rfl⟩;exact ⟨_, rfl, ⟨rfl, rfl, ⟨rfl, by omega⟩, N6 _, fun _ _ _ => rfl⟩, .inl ⟨rfl, rfl⟩, fun b f => f⟩
  · have H : off + l.length <= cs.size := by
      grind[Ty.a]
    have B : ∀ j  a , cs[off + j]? = some (.int .i64 l[j]) := by
      intro j a
      have o : aS cs.toList (off + j * 1) 1 = [.int .i64 (l[j]'a)] := s j _ (u1 a)
      rw[ajm] at o
      have c : (aS cs.toList (off + j) 1)[0]? = some (.int .i64 (l[j]'a)) := by grind
      have ⟨_, g⟩ := Ct c
      grind
    have t : Holds (w6 .i64) w b off l.toArray := by
      intro j a
      grind[agG,TT]
    have f : b < w.heap.size := (zj.1 c).1
    have G : l.length < 4611686018427387904 := by grind[iZ]
    refine (agP (akZ _) b _ _ l w t (by omega) g).mono ?_
    rintro e w' ⟨rfl, q, rfl⟩
    have u := Lib.compact_length_le l
    generalize J : yt l ++ x3 (l.length - (yt l).length) 0 = m
    have L : m.length = l.length := by grind
    have C : (ajo (w6 .i64) (Jo w q) b off m.toArray).heap = (w.heap.modify b (Sh (x1 (w6 .i64) off m.toArray))) := rfl
    have n : ∀ k, (ajo (w6 .i64) (Jo w q) b off m.toArray).heap[k]? = if b = k then (w.heap[k]?).map (Sh (x1 (w6 .i64) off m.toArray)) else w.heap[k]? := by
      grind
    refine ⟨_, rfl, ⟨rfl, rfl, ⟨rfl, fun d => (by cases d)⟩, ?_, fun k F h => ?_⟩, .inr ⟨b, off, cap, x1 (w6 .i64) off m.toArray cs, T, rfl, ?_, Nat.le_trans u g, p, ?_, fun i x y => ?_⟩, fun b f => f⟩
    · simp
    · rw[n k, if_neg fun e => h (by rw[e]; rfl)]
    · rw[n b, if_pos rfl, c]; rfl
    · grind[x1]
    · have D : i < (yt l).length := (u5.1 y).1
      have E : i < m.length := by omega
      have I : off + i < cs.size := by omega
      have K : m[i]? = some x := by grind
      have hp : (x1 (w6 .i64) off m.toArray cs)[off + i]? = some (.int .i64 x) := by
        grind[x1,y0,Option.some.injEq,u5]
      show aS _ (off + i * 1) 1 = [.int _ x]
      grind[x1,Nt,y0]
theorem aot(n):aaO a1.Q 130 (alT n):=by refine⟨⟨_,a1.a D1 (by kernel_rfl) (by decide),by kernel_rfl,by kernel_rfl⟩,?_⟩;intro w ok v vs l y l' f h _ g;have:vs= []:=h;subst this;refine(amX f g).mono ?_;rintro e w'⟨r,a,b,c,d⟩;exact⟨r,a,b,.inl ⟨rfl,c,d⟩⟩
end
end Go.Abs
namespace Go.Abs.R
open Go.Abs Go.Proofs.Tryz
open Go.Abs.N(IY H2 zQ vk yf BY C5 En Gt tN Hv yp tR xA)
section
open Go.Abs.N(IY H2 zQ vk yf BY C5 En Gt tN Hv yp tR xA)
local instance:Dr:= ⟨false⟩
noncomputable section
abbrev o4(D A R:Type):=D->(D->Option R)->(A->Option R)×Unit->Option R
abbrev b7(D A B R:Type):=D->(D->Option R)->(A->Option R)×(B->Option R)×Unit->Option R
abbrev amo(D Y A R:Type):=D->Y->(D->Option R)->(A->Option R)×Unit->Option R
abbrev J3(T:Type):=Int×Int×Int×T
abbrev J5(T:Type):=Int×Int×Int×Int×Int×T
abbrev u6(T:Type):=Int×Int×Int×Int×Int×Int×Int×Int×Int×Int×Int×Int×T
abbrev Eo(E:aq):=al a1.Q E
variable(n:Nat)
abbrev Z0:Ty:=.ay .i64
abbrev Z1:=J5 Int
abbrev Z2:=Z1×J5 Int
abbrev Z3:Ty:=.aF Z0 Z0
abbrev Z4:Ty:=.aH Z0
abbrev Z5:=List Int
abbrev Z6:Ty:=.aF Z0 Z3
abbrev Z7:Ty:=.aF Z0 Z6
abbrev Z8:Ty:=.aF Z0 Z7
abbrev Z9:Ty:=.aF Z0 Z8
abbrev dy:=Int×Int
abbrev gH:Ty:=.aF .aJ Z0
abbrev BW:Ty:=.aF Z4 Z4
abbrev eB:=List UInt8
abbrev fh:Ty:=.aF Z9 Z9
abbrev dK:Ty:=.aH Z3
abbrev gv:Ty:=.aH gH
abbrev qG:Ty:=.aF gv dK
abbrev cN:=eB×Int
abbrev aZ:=List dy
abbrev bZ:=List cN
abbrev cn:=Z5×Z5
abbrev gS:Ty:=.aF BW BW
abbrev nk:=Int×Z2×Int×Int
abbrev QG:=List cn
abbrev Yl:=cn×Z5×Z5
abbrev uy:=bZ×aZ
abbrev kj:=uy×Yl×Z1×J5 Int
abbrev qZ:=List Z2
abbrev EM:Ty:=.aH BW
abbrev qm:=Z2×nk
abbrev uf:=List qZ
abbrev EC:Ty:=.aF fh Z3
abbrev um:Ty:=.aF Z0 EC
abbrev pR:Ty:=.aF gS fh
abbrev EF:Ty:=.aF qG pR
abbrev Lb:Ty:=.aH fh
abbrev JO:=List qm
abbrev xh:=JO×uf
abbrev qL:=Option xh
abbrev fH:Ty:=.aH Lb
abbrev QQ:Ty:=.cO fh .aO
abbrev qE:=List QG
abbrev Ah:Ty:=.cO fh um
abbrev qJ:Ty:=.aF Ah fH
abbrev Cu:Ty:=.ec EF
abbrev tZ:=Option kj
abbrev AU:=Z2×Bool
abbrev zp:=dy×Z2
abbrev xR:=qL×Bool
abbrev LJ:=List zp
abbrev Bu:=List eB
abbrev Fp:=List AU
abbrev Jz:=cn×Int×Int
abbrev Iq:Ty:=.aH EM
abbrev Fc:Ty:=.dP Z0 .aO
abbrev Z56:=qL×Z2×Int
abbrev K1:=Z2×Int×Int
abbrev zh:=List eB
abbrev Z59:=qE×Int
abbrev TH:=Int×Int×Int
abbrev Z61:Ty:=.dX Z3 fh
abbrev pX:Ty:=.ec qJ
abbrev Z63:=Yl×Int
abbrev Z64:=Z2×Int×Z2×Int×Int
abbrev Z65:=aZ×Int
abbrev Z66:Ty:=.dP fh .aO
abbrev Z67:Ty:=.dP gH .aO
abbrev Z68:Ty:=.aF fh um
abbrev Z69:=Z5×Int
abbrev Z70:Ty:=.aH .aJ
abbrev X0(k:Nat):Nat×mS:=(k,.cp qG [.aj gv,.aj dK])
abbrev X1(k:Nat):Nat×mS:=(k,.cp BW [.aj Z4,.aj Z4])
abbrev X2(k:Nat):Nat×mS:=(k,.cp gS [.aj Z4,.aj Z4,.aj Z4,.aj Z4])
abbrev X3(k:Nat):Nat×mS:=(k,.cp fh (x3 12 (.aj Z0)))
abbrev X4(k:Nat):Nat×mS:=(k,.cp Z0 [.aj Z0])
abbrev X5(k:Nat):Nat×mS:=(k,.cp .aO [.aj .aO])
abbrev X6(k:Nat):Nat×mS:=(k,.cp .aJ [.aj .aJ])
abbrev X7(k:Nat):Nat×mS:=(k,.cp gS [.j6,.j6,.j6,.j6])
abbrev Xb(k a:Nat):Nat×ki:=(k,.v (.cu a 0))
abbrev Xp(k:Nat)(t:Ty):Nat×ki:=(k,.v (.pp t))
def OZ(n:Nat)(b:eU)(a:List bS)(num:Int):=Rs.CG b a num
def MS:fc:= ⟨wM,[],[.aH bq],λ x _=>OZ n x.1 x.2.1 x.2.2,true⟩
theorem aaP:jf a1.Q 147 (MS n):=Rs.Ww
def KJ(n:Nat)(s:eB):Option dy:=none
def M6:fc:= ⟨[.aJ],[],[.ay .i32,.ay .i64],λ x y=>KJ n x,false⟩
theorem aeb(n):jf a1.Q 157 (M6 n):=by refine⟨⟨_,Rs.iC func157 (by kernel_rfl) (by decide),by kernel_rfl,by kernel_rfl⟩,?_⟩;intro w ok vs cs x y r b c a;cases a
def gT:List (Nat×eZ):= [(3,⟨Z0,0,false⟩),(4,⟨.aO,0,false⟩),(5,⟨(.ay .u8),0,false⟩),(9,⟨.aJ,0,false⟩),(21,⟨(.ay .i32),0,false⟩),(22,⟨gv,0,false⟩),(23,⟨dK,0,false⟩),(25,⟨qG,2,false⟩),(26,⟨Z4,0,false⟩),(28,⟨BW,2,false⟩),(30,⟨gS,3,false⟩),(35,⟨Z0,0,false⟩),(46,⟨(.aH Z6),0,false⟩),(56,⟨Z3,2,false⟩),(59,⟨dK,0,false⟩),(98,⟨Iq,0,false⟩),(112,⟨EM,0,false⟩),(134,⟨Z6,3,false⟩),(136,⟨gH,2,false⟩),(138,⟨qG,1,false⟩),(143,⟨Cu,1,false⟩),(147,⟨Z9,6,true⟩),(149,⟨fh,2,false⟩),(151,⟨EF,3,false⟩),(152,⟨Z66,0,false⟩),(159,⟨Fc,0,false⟩),(163,⟨Z61,0,false⟩),(168,⟨Z3,2,true⟩),(173,⟨pX,1,false⟩),(177,⟨um,3,false⟩),(178,⟨Ah,0,false⟩),(179,⟨fH,0,false⟩),(181,⟨qJ,2,false⟩),(182,⟨Z70,0,false⟩),(191,⟨Lb,0,false⟩),(200,⟨QQ,0,false⟩),(205,⟨Z4,0,false⟩),(207,⟨(.aH (.ay .u8)),0,false⟩),(209,⟨Z67,0,false⟩),(228,⟨(.aH Z68),0,false⟩),(231,⟨Z68,2,false⟩)]
def gQ:= [(56,Z3),(168,Z3)]
theorem q56:zP a1.Q 56 Z3:=JF (d:=40) (by decide) (by kernel_rfl) rfl (by kernel_rfl)
theorem XI:zP a1.Q 168 Z3:=JF (d:=40) (by decide) (by kernel_rfl) rfl (by kernel_rfl)
theorem amS{P E}(h:al P E){G Q}(g:al P ⟨G,[],Q,[],[],[],[]⟩):al P ⟨G,E.C,Q,E.I,[],[],[]⟩:={g with h:=h.h,j:=h.j}
def e0(n:Nat):aq:= ⟨gT,(N.qH n).C,gQ,(N.qH n).I,[],[],[]⟩
theorem h0:Eo (e0 n):=amS (N.xm a1 n) (GI (GI (IN (by kernel_rfl)) XI) q56)
def zC(n:Nat):Option uy:=some (([([97],8),([98],5),([99],3)]:List cN),([(0,1),(0,2),(1,0),(1,2),(2,0),(2,1)]:List dy))
def e1:=(e0 n).B 84 [] [qG] λ x y=>zC n
theorem h1:Eo (e1 n):=dw a1 (h0 n) func84
def DU(n:Nat):Option cn:=some (([8,0,0]:List Int),([1,0,0]:List Int))
def e2:=(e1 n).B 85 [] [BW] λ x y=>DU n
theorem h2:Eo (e2 n):=dw a1 (h1 n) func85
def yM(n:Nat):b7 (eB×Z5×Int×Int×Unit) (eB×Unit) (Bool×Unit) Bool:=λ(s,b,c,a,_) again (k0,k1,_)=>bif decide (a<c)then(aG b a).bind λ e=>bif (!(((decide (e>=97))&& (decide (e<=122)))|| ((decide (e>=65))&& (decide (e<=90)))))&& ((a==0)|| ((e !=45)&& ((decide (e<48))|| (decide (e>57)))))then k1 (false,())else again (s,b,c,(u0 .i64 (a+1)),())else k0 (s,())
def B9(s:eB):=cq (yM n) n (s,(kv s),((fV (kv s):Nat):Int),0,()) (λ(a,_)=>some ((a != [])&& (decide ((fV a:Int)<=12))),λ(b,_)=>some b,())
def e5:=(e2 n).B 106 [.aJ] [.aO] λ x y=>B9 n x
theorem h5:Eo (e5 n):=gD a1 (h2 n) func106 (O:= [_]) ⟨gh n (h2 n) (eN 54 [aT 0 .aJ,aT 7 (.aH (.ay .u8)),aT 8 Z0,aT 9 Z0] []) [fq 0 54 [aT 0 .aJ] [],fw 54 [aT 2 .aO] []] (yM n),trivial⟩
def Jr(n:Nat)(v:eB×Int)(a:eB):=some (v.1==a)
def e6:=(e5 n).a 137 ⟨[gH],[.aJ],[.aO],λ x y=>Jr n x y,false⟩
theorem h6:Eo (e6 n):=dw a1 (h5 n) func137
def xO(n:Nat):b7 (bZ×(cN->Option Bool)×Int×Int×Unit) Unit (Int×Unit) Int:=λ(s,f,b,a,_) again (k0,k1,_)=>bif decide (a<b)then(aG s a).bind λ e=>(f e).bind λ x=>bif x then k1 (a,())else again (s,f,b,(u0 .i64 (a+1)),())else k0 ()
def IH(s:List cN)(f:cN->Option Bool):=cq (xO n) n (s,f,(fV s:Int),0,()) (λ(_)=>some (-1),λ(a,_)=>some a,())
def e7:=(e6 n).B 136 [gv,Z67] [Z0] λ x y=>IH n x.1 x.2
theorem h7:Eo (e7 n):=gD a1 (h6 n) func136 (O:= [_]) ⟨gh n (h6 n) (eN 19 [aT 0 gv,aT 1 Z67,aT 7 Z0,aT 8 Z0] []) [fq 0 19 [] [],fw 19 [aT 4 Z0] []] (xO n),trivial⟩
def vV(l:List cN)(name:eB):=(IH n l (λ a=>Jr n a name)).bind λ x=>some x
def e8:=(e7 n).B 107 [gv,.aJ] [Z0] λ x y=>vV n x.1 x.2
theorem h8:Eo (e8 n):=dw a1 (h7 n) func107
def EJ(a:Int):=(H2 n a 1 50).bind λ x=>some x
def Lr:=(e8 n).B 101 [Z0] [.aO] λ x y=>EJ n x
theorem h10:Eo (Lr n):=dw a1 (h8 n) func101
def vO(b:Int)(a:bZ×aZ):=(H2 n b 0 (u0 .i64 ((fV a.1:Int)- 1))).bind λ x=>some x
def OO:=(Lr n).a 108 ⟨[Z0],[qG],[.aO],λ x y=>vO n x y,false⟩
theorem Sp:Eo (OO n):=dw a1 (h10 n) func108
def Au:b7 (bZ×Int×Int×bZ×aZ×Unit) (bZ×aZ×Unit) (Int×Int×Unit) dy:=λ(c,d,a,p,b,_) again (k0,k1,_)=>bif decide (a<d)then(aG c a).bind λ e=>(B9 n e.1).bind λ x=>(vk n x 4).bind λ g=>(iB p 0 a).bind λ h=>(vV n h e.1).bind λ i=>(vk n (decide (i<0)) 5).bind λ j=>(EJ n e.2).bind λ k=>(vk n k 2).bind λ l=>(C5 n ([g,j,l]:List Int)).bind λ f=>bif f !=0 then k1 (a,f,())else again (c,d,(u0 .i64 (a+1)),p,b,())else k0 (p,b,())
def Ag:b7 (uy×(Int->Option Bool)×aZ×Int×Int×Unit) Unit (Int×Int×Unit) dy:=λ(p,c,d,f,a,_) again (k0,k1,_)=>bif decide (a<f)then(aG d a).bind λ e=>(cQ 0 2).bind λ u=>(aG [e.1,e.2] 0).bind λ x=>(c x).bind λ b=>(bI b (cQ 1 2) ()).bind λ s=>(bI b (aG [e.1,e.2] 1) 0).bind λ i=>(bI b (c i) false).bind λ j=>(vk n (b&&j) 6).bind λ k=>(cQ 0 2).bind λ t=>(aG [e.1,e.2] 0).bind λ l=>(cQ 1 2).bind λ v=>(aG [e.1,e.2] 1).bind λ m=>(vk n (l !=m) 11).bind λ o=>(iB p.2 0 a).bind λ q=>(BY n q e).bind λ r=>(vk n (!r) 26).bind λ h=>(C5 n ([k,o,h]:List Int)).bind λ g=>bif g !=0 then k1 (a,g,())else again (p,c,d,f,(u0 .i64 (a+1)),())else k0 ()
def xg(p:bZ×aZ):Option dy:=(vk n (decide ((fV p.1:Int)>0)) 10).bind λ x=>(vk n (decide ((fV p.1:Int)<=6)) 8).bind λ h=>(C5 n ([x,h]:List Int)).bind λ c=>bif c !=0 then some (0,c)else cq (Au n) n (p.1,(fV p.1:Int),0,p.1,p.2,()) (λ(b,a,_)=>bif decide ((fV a:Int)>30)then some (0,8)else cq (Ag n) n ((b,a),(λ i=>vO n i (b,a)),a,(fV a:Int),0,()) (λ(_)=>some (0,0),λ(d,f,_)=>some (d,f),()),λ(e,g,_)=>some (e,g),())
def QX:=(OO n).B 43 [qG] [Z0,Z0] λ x y=>xg n x
theorem h14:Eo (QX n):=gD a1 (Sp n) func43 (O:= [_,_]) ⟨gh n (Sp n) (eN 104 [Xb 1 104,aT 28 gv,aT 29 Z0,aT 30 Z0] [X0 104]) [fq 0 104 [Xb 1 104] [X0 104],fw 104 [aT 2 Z0,aT 3 Z0] []] (Au n),gh n (Sp n) (eN 104 [Xp 1 qG,aT 8 Fc,aT 65 dK,aT 66 Z0,aT 67 Z0] []) [fq 2 104 [] [],fw 104 [aT 2 Z0,aT 3 Z0] []] (Ag n),trivial⟩
def tx(p:bZ×aZ):Option (uy×Int):=(xg n p).bind λ x=>some (p,x.2)
def Rf:=(QX n).B 87 [qG] [qG,Z0] λ x y=>tx n x
theorem Vw:Eo (Rf n):=dw a1 (h14 n) func87
def Dy(a:Int):=(H2 n a 0 3).bind λ x=>some x
def NZ:=(Rf n).B 132 [Z0] [.aO] λ x y=>Dy n x
theorem NP:Eo (NZ n):=dw a1 (Vw n) func132
def Co:b7 (bZ×Int×Int×Z5×Z5×Unit) Unit (Int×Unit) Int:=λ(f,g,a,s,d,_) again (k0,k1,_)=>bif decide (a<g)then(aG f a).bind λ e=>(aG s a).bind λ b=>(aG d a).bind λ c=>(H2 n b 0 e.2).bind λ x=>(bI x (Dy n c) false).bind λ i=>(vk n (x&&i) 2).bind λ j=>(vk n ((b==0)==(c==0)) 13).bind λ k=>(C5 n ([j,k]:List Int)).bind λ h=>bif h !=0 then k1 (h,())else again (f,g,(u0 .i64 (a+1)),s,d,())else k0 ()
def px(p:bZ×aZ)(s:Z5×Z5):=(IY n p).bind λ x=>(bI (!((fV s.1:Int) !=x)) (IY n p) 0).bind λ b=>bif ((fV s.1:Int) !=x)|| ((fV s.2:Int) !=b)then some 10 else cq (Co n) n (p.1,(fV p.1:Int),0,s.1,s.2,()) (λ(_)=>some 0,λ(a,_)=>some a,())
def JC:=(NZ n).B 91 [qG,BW] [Z0] λ x y=>px n x.1 x.2
theorem NC:Eo (JC n):=gD a1 (NP n) func91 (O:= [_]) ⟨gh n (NP n) (eN 64 [Xb 3 64,aT 26 gv,aT 27 Z0,aT 28 Z0] [X1 64]) [fq 0 64 [] [],fw 64 [aT 4 Z0] []] (Co n),trivial⟩
def tj(n:Nat)(s:Z5×Z5):Option Z2:=(kZ 6 6).bind λ u=>(kZ 6 6).bind λ a=>some (((bif decide (0<6)then(s.1[0]?).getD 0 else 0),(bif decide (1<6)then(s.1[1]?).getD 0 else 0),(bif decide (2<6)then(s.1[2]?).getD 0 else 0),(bif decide (3<6)then(s.1[3]?).getD 0 else 0),(bif decide (4<6)then(s.1[4]?).getD 0 else 0),(bif decide (5<6)then(s.1[5]?).getD 0 else 0)),(bif decide (0<6)then(s.2[0]?).getD 0 else 0),(bif decide (1<6)then(s.2[1]?).getD 0 else 0),(bif decide (2<6)then(s.2[2]?).getD 0 else 0),(bif decide (3<6)then(s.2[3]?).getD 0 else 0),(bif decide (4<6)then(s.2[4]?).getD 0 else 0),(bif decide (5<6)then(s.2[5]?).getD 0 else 0))
def Oo:=(JC n).n [5,10]
theorem agq:al a1.Q (Oo n):=IV (NC n) _
def HC:fc:= ⟨[BW],[],[fh],λ x y=>tj n x,false⟩
theorem aax(x)(y):oI (Oo n) f93 [BW] [] [fh] false [] x y=(HC n).g x y:=by kernel_rfl
theorem XG:jf a1.Q 93 (HC n):=xz (agq n) a1.b (a1.a func93 (by kernel_rfl) (by decide)) (by kernel_rfl) (by kernel_rfl) (O:= []) trivial (aax n)
def KA:=(JC n).a 93 (HC n)
theorem h19:Eo (KA n):=mN (NC n) (XG n)
def Ij(p:bZ×aZ)(s:Z5×Z5):Option (uy×Z2×Int):=(tx n p).bind λ x=>bif x.2==0 then(px n x.1 s).bind λ a=>bif a !=0 then some (x.1,((0,0,0,0,0,0),0,0,0,0,0,0),a)else(tj n s).bind λ b=>some (x.1,b,0)else bif x.2 !=0 then some (x.1,((0,0,0,0,0,0),0,0,0,0,0,0),x.2)else(tj n s).bind λ c=>some (x.1,c,0)
def OA:=(KA n).B 95 [qG,BW] [qG,fh,Z0] λ x y=>Ij n x.1 x.2
theorem VP:Eo (OA n):=dw a1 (h19 n) func95
def IF:=(OA n).a 133 (PJ n)
theorem PM:Eo (IF n):=mN (VP n) (ac3 n)
def yw(a:Z1×J5 Int)(b:Int):Option cn:=(kZ b 6).bind λ u=>(Gu n (ajr (N2 b) [a.1.1,a.1.2.1,a.1.2.2.1,a.1.2.2.2.1,a.1.2.2.2.2.1,a.1.2.2.2.2.2])).bind λ x=>(kZ b 6).bind λ d=>(Gu n (ajr (N2 b) [a.2.1,a.2.2.1,a.2.2.2.1,a.2.2.2.2.1,a.2.2.2.2.2.1,a.2.2.2.2.2.2])).bind λ c=>some (x,c)
def R2:=(IF n).n [1000002]
theorem aiK:al a1.Q (R2 n):=IV (PM n) _
def JH:fc:= ⟨[fh,Z0],[],[BW],λ x y=>yw n x.1 x.2,false⟩
theorem YX(x)(y):oI (R2 n) f102 [fh,Z0] [] [BW] false [] x y=(JH n).g x y:=by kernel_rfl
theorem aiN:jf a1.Q 102 (JH n):=xz (aiK n) a1.b (a1.a func102 (by kernel_rfl) (by decide)) (by kernel_rfl) (by kernel_rfl) (O:= []) trivial (YX n)
def Mp:=(IF n).a 102 (JH n)
theorem h24:Eo (Mp n):=mN (PM n) (aiN n)
def Na(p:bZ×aZ)(s:Z5×Z5)(m:Int×Int):Option (cn×Int):=(Ij n p s).bind λ x=>bif x.2.2==0 then(En n x.1 x.2.1 m).bind λ a=>bif a.2 !=0 then some ((([]:List Int),([]:List Int)),a.2)else(IY n x.1).bind λ b=>(yw n a.1 b).bind λ c=>some (c,0)else bif x.2.2 !=0 then some ((([]:List Int),([]:List Int)),x.2.2)else(IY n x.1).bind λ d=>(yw n x.2.1 d).bind λ e=>some (e,0)
def Lh:=(Mp n).B 35 [qG,BW,Z3] [BW,Z0] λ x y=>Na n x.1 x.2.1 x.2.2
theorem h25:Eo (Lh n):=dw a1 (h24 n) func35
def LQ:Option Yl:=(DU n).bind λ x=>some (x,([4,4,0]:List Int),([0,0,0]:List Int))
def MH:=(Lh n).B 86 [] [gS] λ x y=>LQ n
theorem Mw:Eo (MH n):=dw a1 (h25 n) func86
def Em:b7 (bZ×Int×Int×Z5×Z5×Z5×Z5×Unit) Unit (Int×Unit) Int:=λ(d,f,b,t,j,g,h,_) again (k0,k1,_)=>bif decide (b<f)then(aG d b).bind λ e=>(aG g b).bind λ a=>(aG h b).bind λ c=>(bI (!(a==(-1))) (H2 n a 0 e.2) false).bind λ x=>(bI ((a==(-1))||x) (Dy n c) false).bind λ k=>(vk n (((a==(-1))||x)&&k) 2).bind λ l=>(vk n ((c==0)|| (a !=0)) 13).bind λ m=>(C5 n ([l,m]:List Int)).bind λ i=>bif i !=0 then k1 (i,())else again (d,f,(u0 .i64 (b+1)),t,j,g,h,())else k0 ()
def v7(p:bZ×aZ)(t:cn×Z5×Z5):=(px n p t.1).bind λ x=>(IY n p).bind λ a=>(bI ((fV t.2.1:Int)==a) (IY n p) 0).bind λ d=>(vk n (((fV t.2.1:Int)==a)&& ((fV t.2.2:Int)==d)) 10).bind λ e=>(C5 n ([x,e]:List Int)).bind λ b=>bif b !=0 then some b else cq (Em n) n (p.1,(fV p.1:Int),0,t.1.1,t.1.2,t.2.1,t.2.2,()) (λ(_)=>some 0,λ(c,_)=>some c,())
def QI:=(MH n).B 88 [qG,gS] [Z0] λ x y=>v7 n x.1 x.2
theorem UR:Eo (QI n):=gD a1 (Mw n) func88 (O:= [_]) ⟨gh n (Mw n) (eN 80 [Xb 3 80,aT 37 gv,aT 38 Z0,aT 39 Z0] [X2 80]) [fq 0 80 [] [],fw 80 [aT 4 Z0] []] (Em n),trivial⟩
def ux(p:bZ×aZ)(t:cn×Z5×Z5):=(tx n p).bind λ x=>bif x.2 !=0 then some x.2 else(v7 n x.1 t).bind λ a=>some a
def Rq:=(QI n).B 21 [qG,gS] [Z0] λ x y=>ux n x.1 x.2
theorem Uo:Eo (Rq n):=dw a1 (UR n) func21
def vm(p:bZ×aZ)(t:cn×Z5×Z5):Option (tZ×Int):=(ux n p t).bind λ x=>bif x !=0 then some ((none:Option kj),x)else(tj n t.1).bind λ a=>some ((some (p,t,a)),0)
def LP:=(Rq n).B 90 [qG,gS] [Cu,Z0] λ x y=>vm n x.1 x.2
theorem h29:Eo (LP n):=dw a1 (Uo n) func90
def Q9:=(LP n).a 147 (MS n)
theorem FF:Eo (Q9 n):=mN (h29 n) (aaP n)
def Te(n:Nat):b7 (Int×Int×bZ×aZ×JO×uf×qZ×(List Z64)×Unit) (bZ×aZ×JO×uf×qZ×Unit) (qL×Bool×Unit) xR:=λ(g,a,p,d,r,f,b,c,_) again (k0,k1,_)=>bif decide (a<g)then(aG c a).bind λ e=>(aG c a).bind λ x=>bif Option.isSome (j4 (Ty.f fh) r x.1)then again (g,(u0 .i64 (a+1)),p,d,r,f,b,c,())else bif decide (((fV (lz (Ty.f fh) r x.1 x.2):Nat):Int)>4000)then k1 ((none:Option xh),false,())else(jk (fV b+fV ([x.1]:List Z2))).bind λ u=>again (g,(u0 .i64 (a+1)),p,d,(lz (Ty.f fh) r x.1 x.2),f,(b++ ([x.1]:List Z2)),c,())else k0 (p,d,r,f,b,())
def Ta:b7 (qZ×bZ×aZ×JO×uf×Unit) (JO×uf×Unit) (qL×Bool×Unit) xR:=λ(last,p,d,r,b,_) again (k0,k1,_)=>bif decide ((fV last:Int)>0)then(OZ n (p,d) last (fV b:Int)).bind λ x=>cq (Te n) n ((fV x:Int),0,p,d,r,b,([]:List Z2),x,()) (λ(e,f,g,c,a,_)=>bif decide ((fV a:Int)>0)then(jk (fV c+fV ([a]:List qZ))).bind λ j=>again (a,e,f,g,(c++ ([a]:List qZ)),())else again (a,e,f,g,c,()),λ(h,i,_)=>k1 (h,i,()),())else k0 (r,b,())
def Qs(p:bZ×aZ)(start:Z1×J5 Int):=(aG ([([start]:List Z2)]:List qZ) 0).bind λ e=>(aG ([([start]:List Z2)]:List qZ) 0).bind λ x=>cq (Ta n) n (x,p.1,p.2,(lz (Ty.f fh) ([]:List qm) start (0,((0,0,0,0,0,0),0,0,0,0,0,0),0,0)),([([start]:List Z2)]:List qZ),()) (λ(a,b,_)=>some ((some (a,b)),true),λ(c,d,_)=>some (c,d),())
def Kp:=(Q9 n).B 124 [qG,fh] [pX,.aO] λ x y=>Qs n x.1 x.2
theorem Lq:Eo (Kp n):=gD a1 (FF n) func124 (O:= [_]) ⟨B8 n (FF n) (eN 90 [Xb 2 90,Xb 6 91,aT 7 Lb] [X0 90,(91,.cp qJ [.iR 92,.iR 93]),(92,.tU fh um),(93,.jH Lb)]) [fq 0 90 [Xb 6 90] [(90,.cp qJ [.iR 91,.iR 92]),(91,.tU fh um),(92,.jH Lb)],fw 90 [aT 4 pX,aT 5 .aO] []] (Ta n) (O:= [_]) ⟨gh n (FF n) (eN 90 [Xb 2 90,Xb 6 91,(8,.v (.iR 94)),(38,.v (.iR 95)),aT 39 Z0,aT 40 Z0] [X0 90,(91,.cp qJ [.iR 92,.iR 93]),(92,.tU fh um),(93,.jH Lb),(94,.jH fh),(95,.jH Z68)]) [fq 2 90 [Xb 2 90,Xb 6 91,(8,.v (.iR 94))] [X0 90,(91,.cp qJ [.iR 92,.iR 93]),(92,.tU fh um),(93,.jH Lb),(94,.jH fh)],fw 90 [aT 4 pX,aT 5 .aO] []] (Te n),trivial⟩,trivial⟩
def B4(n:Nat):b7 (tZ×u6 (Int×Int×Unit)) Unit (Bool×Unit) Bool:=λ(t,f,a,g,h,k,l,m,o,p,q,r,s,i,j,_) again (k0,k1,_)=>bif decide (a<f)then t.bind λ x=>(aG x.2.1.2.1 a).bind λ e=>(bI (e !=(-1)) t (([],[]),(([],[]),[],[]),(0,0,0,0,0,0),0,0,0,0,0,0)).bind λ w=>(bI (e !=(-1)) (aG w.2.1.2.1 a) 0).bind λ b=>(bI (e !=(-1)) (cQ a 6) ()).bind λ u=>(bI (e !=(-1)) (aG [g,h,k,l,m,o] a) 0).bind λ c=>(bI (!((e !=(-1))&& (b !=c))) t (([],[]),(([],[]),[],[]),(0,0,0,0,0,0),0,0,0,0,0,0)).bind λ y=>(bI (!((e !=(-1))&& (b !=c))) (aG y.2.1.2.2 a) 0).bind λ d=>(bI ((!((e !=(-1))&& (b !=c)))&& (d !=0)) t (([],[]),(([],[]),[],[]),(0,0,0,0,0,0),0,0,0,0,0,0)).bind λ z=>(bI ((!((e !=(-1))&& (b !=c)))&& (d !=0)) (aG z.2.1.2.2 a) 0).bind λ v=>(bI ((!((e !=(-1))&& (b !=c)))&& (d !=0)) (cQ a 6) ()).bind λ B=>(bI ((!((e !=(-1))&& (b !=c)))&& (d !=0)) (aG [p,q,r,s,i,j] a) 0).bind λ A=>bif ((e !=(-1))&& (b !=c))|| ((d !=0)&& (v !=A))then k1 (false,())else again (t,f,(u0 .i64 (a+1)),g,h,k,l,m,o,p,q,r,s,i,j,())else k0 ()
def ud(t:Option kj)(a:Z1×J5 Int):=t.bind λ x=>cq (B4 n) n (t,(fV x.1.1:Int),0,a.1.1,a.1.2.1,a.1.2.2.1,a.1.2.2.2.1,a.1.2.2.2.2.1,a.1.2.2.2.2.2,a.2.1,a.2.2.1,a.2.2.2.1,a.2.2.2.2.1,a.2.2.2.2.2.1,a.2.2.2.2.2.2,()) (λ(_)=>some true,λ(b,_)=>some b,())
def SO:=(Kp n).B 92 [Cu,fh] [.aO] λ x y=>ud n x.1 x.2
theorem L0:Eo (SO n):=gD a1 (Lq n) func92 (O:= [_]) ⟨gh n (Lq n) (eN 67 [aT 0 Cu,Xb 3 67,aT 12 Z0,aT 13 Z0] [X3 67]) [fq 0 67 [] [],fw 67 [aT 4 .aO] []] (B4 n),trivial⟩
def N8(n:Nat):b7 (qZ×(Z2->Option Bool)×Int×Int×Unit) Unit (Int×Unit) Int:=λ(s,f,b,a,_) again (k0,k1,_)=>bif decide (a<b)then(aG s a).bind λ e=>(f e).bind λ x=>bif x then k1 (a,())else again (s,f,b,(u0 .i64 (a+1)),())else k0 ()
def Pg(s:List Z2)(f:Z2->Option Bool):=cq (N8 n) n (s,f,(fV s:Int),0,()) (λ(_)=>some (-1),λ(a,_)=>some a,())
def Ti:=(SO n).B 141 [Lb,Z66] [Z0] λ x y=>Pg n x.1 x.2
theorem M7:Eo (Ti n):=gD a1 (L0 n) func141 (O:= [_]) ⟨gh n (L0 n) (eN 19 [aT 0 Lb,aT 1 Z66,aT 7 Z0,aT 8 Z0] []) [fq 0 19 [] [],fw 19 [aT 4 Z0] []] (N8 n),trivial⟩
def T6:b7 (tZ×qL×uf×u6 (Int×Int×Unit)) (u6 Unit) (qL×u6 (Int×Unit)) Z56:=λ(t,r,c,d,b,f,g,j,k,l,m,o,p,q,s,h,i,_) again (k0,k1,_)=>bif decide (b<d)then(aG c b).bind λ e=>(Pg n e (λ u=>ud n t u)).bind λ x=>bif decide (x>=0)then(aG e x).bind λ a=>k1 (r,0,a.1.1,a.1.2.1,a.1.2.2.1,a.1.2.2.2.1,a.1.2.2.2.2.1,a.1.2.2.2.2.2,a.2.1,a.2.2.1,a.2.2.2.1,a.2.2.2.2.1,a.2.2.2.2.2.1,a.2.2.2.2.2.2,())else again (t,r,c,d,(u0 .i64 (b+1)),f,g,j,k,l,m,o,p,q,s,h,i,())else k0 (f,g,j,k,l,m,o,p,q,s,h,i,())
def Qu(t:Option kj):Option Z56:=t.bind λ x=>t.bind λ r=>(Qs n x.1 r.2.2).bind λ a=>bif !a.2 then some ((none:Option xh),((0,0,0,0,0,0),0,0,0,0,0,0),8)else a.1.bind λ b=>cq (T6 n) n (t,a.1,b.2,(fV b.2:Int),0,0,0,0,0,0,0,0,0,0,0,0,0,()) (λ(s,u,v,w,y,z,A,B,C,D,E,F,_)=>some ((none:Option xh),((0,0,0,0,0,0),0,0,0,0,0,0),12),λ(c,q,d,e,f,g,h,i,j,k,l,m,o,p,_)=>some (c,((d,e,f,g,h,i),j,k,l,m,o,p),q),())
def Nq:=(Ti n).B 113 [Cu] [pX,fh,Z0] λ x y=>Qu n x
theorem h34:Eo (Nq n):=gD a1 (M7 n) func113 (O:= [_]) ⟨gh n (M7 n) (eN 47 [aT 0 Cu,Xb 3 47,aT 5 pX,aT 28 fH,aT 29 Z0,aT 30 Z0] [X3 47]) [fq 0 47 [Xb 3 47] [X3 47],fw 47 [aT 2 pX,Xb 3 47,aT 4 Z0] [X3 47]] (T6 n),trivial⟩
def OD(p:bZ×aZ)(t:cn×Z5×Z5):Option dy:=(vm n p t).bind λ x=>bif x.2 !=0 then some (0,x.2)else(Qu n x.1).bind λ a=>bif a.2.2 !=0 then some (0,a.2.2)else a.1.bind λ b=>some ((D3 (j4 (Ty.f fh) b.1 a.2.1) (0,((0,0,0,0,0,0),0,0,0,0,0,0),0,0)).1,0)
def Nb:=(Nq n).B 56 [qG,gS] [Z0,Z0] λ x y=>OD n x.1 x.2
theorem Zs:Eo (Nb n):=dw a1 (h34 n) func56
def Tt(b:Int)(a:bZ×aZ):=(IY n a).bind λ x=>(H2 n b 0 (u0 .i64 (x- 1))).bind λ c=>some c
def Ri:=(Nb n).a 98 ⟨[Z0],[qG],[.aO],λ x y=>Tt n x y,false⟩
theorem Kj:Eo (Ri n):=dw a1 (Zs n) func98
def Lg:b7 (uy×(Int->Option Bool)×(List TH)×Int×Int×bZ×aZ×Z5×Z5×u6 Unit) (uy×Z5×Z5×u6 Unit) (Int×Unit) Z63:=λ(A,t,y,z,v,p,C,s,w,d,f,g,h,i,j,m,o,q,r,k,l,_) again (k0,k1,_)=>bif decide (v<z)then(aG y v).bind λ e=>(t e.1).bind λ x=>(bI x (t e.2.1) false).bind λ G=>(vk n (x&&G) 6).bind λ M=>(vk n (e.1 !=e.2.1) 11).bind λ N=>(EJ n e.2.2).bind λ O=>(vk n O 2).bind λ P=>(C5 n ([M,N,P]:List Int)).bind λ E=>bif E !=0 then k1 (E,())else(cQ e.1 6).bind λ u=>(aG [m,o,q,r,k,l] e.1).bind λ c=>(cQ e.1 6).bind λ S=>(aG [d,f,g,h,i,j] e.1).bind λ Q=>(vk n (decide (Q>=e.2.2)) 12).bind λ R=>(cQ e.2.1 6).bind λ V=>(aG [d,f,g,h,i,j] e.2.1).bind λ H=>(aG p e.2.1).bind λ F=>(vk n (decide ((u0 .i64 (H+e.2.2))<=F.2)) 16).bind λ I=>(cQ e.2.1 6).bind λ W=>(aG [m,o,q,r,k,l] e.2.1).bind λ B=>(bI (!(B==0)) (cQ e.2.1 6) ()).bind λ X=>(bI (!(B==0)) (aG [m,o,q,r,k,l] e.2.1) 0).bind λ J=>(vk n ((B==0)|| (J==c)) 13).bind λ K=>(C5 n ([R,I,K]:List Int)).bind λ D=>bif D !=0 then k1 (D,())else(cQ e.1 6).bind λ Y=>(aG [d,f,g,h,i,j] e.1).bind λ a=>(cQ e.1 6).bind λ Z=>(cQ e.2.1 6).bind λ aa=>(aG [(bif decide (e.1=0)then(u0 .i64 (a- e.2.2))else d),(bif decide (e.1=1)then(u0 .i64 (a- e.2.2))else f),(bif decide (e.1=2)then(u0 .i64 (a- e.2.2))else g),(bif decide (e.1=3)then(u0 .i64 (a- e.2.2))else h),(bif decide (e.1=4)then(u0 .i64 (a- e.2.2))else i),(bif decide (e.1=5)then(u0 .i64 (a- e.2.2))else j)] e.2.1).bind λ b=>(cQ e.2.1 6).bind λ ab=>(cQ e.2.1 6).bind λ ac=>(cQ e.1 6).bind λ T=>(aG [(bif decide (e.2.1=0)then(u0 .i64 (b+e.2.2))else(bif decide (e.1=0)then(u0 .i64 (a- e.2.2))else d)),(bif decide (e.2.1=1)then(u0 .i64 (b+e.2.2))else(bif decide (e.1=1)then(u0 .i64 (a- e.2.2))else f)),(bif decide (e.2.1=2)then(u0 .i64 (b+e.2.2))else(bif decide (e.1=2)then(u0 .i64 (a- e.2.2))else g)),(bif decide (e.2.1=3)then(u0 .i64 (b+e.2.2))else(bif decide (e.1=3)then(u0 .i64 (a- e.2.2))else h)),(bif decide (e.2.1=4)then(u0 .i64 (b+e.2.2))else(bif decide (e.1=4)then(u0 .i64 (a- e.2.2))else i)),(bif decide (e.2.1=5)then(u0 .i64 (b+e.2.2))else(bif decide (e.1=5)then(u0 .i64 (a- e.2.2))else j))] e.1).bind λ L=>bif L==0 then(cQ e.1 6).bind λ U=>again (A,t,y,z,(u0 .i64 (v+1)),p,C,s,w,(bif decide (e.2.1=0)then(u0 .i64 (b+e.2.2))else(bif decide (e.1=0)then(u0 .i64 (a- e.2.2))else d)),(bif decide (e.2.1=1)then(u0 .i64 (b+e.2.2))else(bif decide (e.1=1)then(u0 .i64 (a- e.2.2))else f)),(bif decide (e.2.1=2)then(u0 .i64 (b+e.2.2))else(bif decide (e.1=2)then(u0 .i64 (a- e.2.2))else g)),(bif decide (e.2.1=3)then(u0 .i64 (b+e.2.2))else(bif decide (e.1=3)then(u0 .i64 (a- e.2.2))else h)),(bif decide (e.2.1=4)then(u0 .i64 (b+e.2.2))else(bif decide (e.1=4)then(u0 .i64 (a- e.2.2))else i)),(bif decide (e.2.1=5)then(u0 .i64 (b+e.2.2))else(bif decide (e.1=5)then(u0 .i64 (a- e.2.2))else j)),(bif decide (e.1=0)then 0 else(bif decide (e.2.1=0)then c else m)),(bif decide (e.1=1)then 0 else(bif decide (e.2.1=1)then c else o)),(bif decide (e.1=2)then 0 else(bif decide (e.2.1=2)then c else q)),(bif decide (e.1=3)then 0 else(bif decide (e.2.1=3)then c else r)),(bif decide (e.1=4)then 0 else(bif decide (e.2.1=4)then c else k)),(bif decide (e.1=5)then 0 else(bif decide (e.2.1=5)then c else l)),())else again (A,t,y,z,(u0 .i64 (v+1)),p,C,s,w,(bif decide (e.2.1=0)then(u0 .i64 (b+e.2.2))else(bif decide (e.1=0)then(u0 .i64 (a- e.2.2))else d)),(bif decide (e.2.1=1)then(u0 .i64 (b+e.2.2))else(bif decide (e.1=1)then(u0 .i64 (a- e.2.2))else f)),(bif decide (e.2.1=2)then(u0 .i64 (b+e.2.2))else(bif decide (e.1=2)then(u0 .i64 (a- e.2.2))else g)),(bif decide (e.2.1=3)then(u0 .i64 (b+e.2.2))else(bif decide (e.1=3)then(u0 .i64 (a- e.2.2))else h)),(bif decide (e.2.1=4)then(u0 .i64 (b+e.2.2))else(bif decide (e.1=4)then(u0 .i64 (a- e.2.2))else i)),(bif decide (e.2.1=5)then(u0 .i64 (b+e.2.2))else(bif decide (e.1=5)then(u0 .i64 (a- e.2.2))else j)),(bif decide (e.2.1=0)then c else m),(bif decide (e.2.1=1)then c else o),(bif decide (e.2.1=2)then c else q),(bif decide (e.2.1=3)then c else r),(bif decide (e.2.1=4)then c else k),(bif decide (e.2.1=5)then c else l),())else k0 (A,s,w,d,f,g,h,i,j,m,o,q,r,k,l,())
def P6(p:bZ×aZ)(s:Z5×Z5)(l:List TH):Option Z63:=(Ij n p s).bind λ x=>(vk n (decide ((fV l:Int)<=20)) 8).bind λ v=>(C5 n ([x.2.2,v]:List Int)).bind λ b=>bif b !=0 then some (((([]:List Int),([]:List Int)),([]:List Int),([]:List Int)),b)else cq (Lg n) n (x.1,(λ C=>Tt n C x.1),l,(fV l:Int),0,p.1,p.2,s.1,s.2,x.2.1.1.1,x.2.1.1.2.1,x.2.1.1.2.2.1,x.2.1.1.2.2.2.1,x.2.1.1.2.2.2.2.1,x.2.1.1.2.2.2.2.2,x.2.1.2.1,x.2.1.2.2.1,x.2.1.2.2.2.1,x.2.1.2.2.2.2.1,x.2.1.2.2.2.2.2.1,x.2.1.2.2.2.2.2.2,()) (λ(a,c,d,f,g,h,i,j,k,m,o,q,r,t,u,_)=>(IY n a).bind λ w=>(yw n ((f,g,h,i,j,k),m,o,q,r,t,u) w).bind λ y=>(tj n (c,d)).bind λ z=>(IY n a).bind λ A=>(yw n z A).bind λ B=>some ((B,y),0),λ(e,_)=>some (((([]:List Int),([]:List Int)),([]:List Int),([]:List Int)),e),())
def NF:=(Ri n).B 29 [qG,BW,(.aH Z6)] [gS,Z0] λ x y=>P6 n x.1 x.2.1 x.2.2
theorem VK:Eo (NF n):=gD a1 (Kj n) func29 (O:= [_]) ⟨gh n (Kj n) (eN 173 [Xb 3 173,Xb 4 174,Xb 6 175,Xp 8 qG,Xb 9 176,aT 11 Fc,aT 37 (.aH Z6),aT 38 Z0,aT 39 Z0] [X0 173,X1 174,X7 175,X3 176]) [fq 0 173 [Xb 4 173,Xb 6 174,Xp 8 qG,Xb 9 175] [X1 173,X7 174,X3 175],fw 173 [Xb 6 173,aT 7 Z0] [X7 173]] (Lg n),trivial⟩
def Tn:=(NF n).a 157 (M6 n)
theorem h38:Eo (Tn n):=mN (VK n) (aeb n)
def Nh:=(Tn n).a 184 (T7 n)
theorem h39:Eo (Nh n):=mN (h38 n) (abx n)
def Gi(s a:eB):=(BL n s a).bind λ x=>some x
def pf:=(Nh n).B 158 [.aJ,.aJ] [Z0] λ x y=>Gi n x.1 x.2
theorem El:Eo (pf n):=dw a1 (h39 n) func158
def Is:b7 (eB×Unit) Unit Unit Bu:=λ(a,_) again (k0,k1,_)=>bif decide ((fV a:Int)>0)then(KJ n a).bind λ x=>(iB a 0 x.2).bind λ b=>tG (α:=eB) b ((iB a x.2 (fV a:Int)).bind λ c=>again (c,())) (k1 ())else k0 ()
def Gy:b7 (eB×eB×Int×Unit) (eB×Unit) Unit Bu:=λ(b,a,c,_) again (k0,k1,_)=>(Gi n a b).bind λ x=>bif decide (x<0)then k0 (a,())else(iB a 0 (u0 .i64 (x+c))).bind λ d=>tG (α:=eB) d ((iB a (u0 .i64 (x+ (fV b:Int))) (fV a:Int)).bind λ e=>again (b,e,c,())) (k1 ())
def Nc(a c1:eB)(c2:Int):=bif (fV a:Int)==0 then cq (Is n) n (c1,()) (λ(_)=>some [],λ(_)=>some [],())else cq (Gy n) n (a,c1,c2,()) (λ(b,_)=>tG (α:=eB) b (some []) (some []),λ(_)=>some [],())
def IX:cf:= ⟨52,[.aJ],[(0,.v (.sZ)),Xb 2 52],[X6 52],[]⟩
def Td:List (dN×cf):= [(.ou 0,⟨52,[],[],[],[]⟩),(.sT,⟨52,[],[],[],[]⟩)]
def I4:Ev (List (ax [.aJ])):=mG n (pf n) IX Td (Is n)
theorem UM d again ks:dv (R:=(List (ax [.aJ]))) (pf n) (jP [.aJ]) (iw (lp (bd ajq) 0)) [] (mk IX d) (mL (pf n) IX Td again ks)=Is n d again ks:=by kernel_rfl
theorem aeA:eS a1.Q (jP [.aJ]) false (lp (bd ajq) 0) (I4 n):=rk (El n) a1.b (by kernel_rfl) (O:= []) trivial (UM n)
def Ip:cf:= ⟨52,[.aJ,.aJ,Z0],[(0,.v (.sZ)),Xb 1 52,Xb 2 53,Xb 3 54],[X6 52,X6 53,X4 54],[]⟩
def Pn:List (dN×cf):= [(.ou 2,⟨52,[.aJ],[(0,.v (.sZ)),Xb 2 52],[X6 52],[]⟩),(.sT,⟨52,[],[],[],[]⟩)]
def HL:Ev (List (ax [.aJ])):=mG n (pf n) Ip Pn (Gy n)
theorem ahD d again ks:dv (R:=(List (ax [.aJ]))) (pf n) (jP [.aJ]) (iw (lp (bd ajq) 1)) [] (mk Ip d) (mL (pf n) Ip Pn again ks)=Gy n d again ks:=by kernel_rfl
theorem af6:eS a1.Q (jP [.aJ]) false (lp (bd ajq) 1) (HL n):=rk (El n) a1.b (by kernel_rfl) (O:= []) trivial (ahD n)
def aeW(e c1:eB)(c2:Int):au:={N:=52,d:= [],a:=(0,⟨[],true,.v .ku⟩):: [(1,⟨[],true,.v (.dx 0 0 0)⟩),(2,⟨[],true,.v (.dx 1 0 0)⟩),(3,⟨[],true,.v (.dx 2 0 0)⟩)],b:= [(0,0,.eu .aJ [.aE .aJ e]),(1,0,.eu .aJ [.aE .aJ c1]),(2,0,.eu Z0 [.aE Z0 c2])],c:= []}
theorem aeY(a)(c1)(c2):dv (R:=(List (ax [.aJ]))) (pf n) (jP [.aJ]) (bd ajq) [I4 n,HL n] (aeW a c1 c2) Cb=Nc n a c1 c2:=by kernel_rfl
theorem ahS:eS a1.Q (jP [.aJ]) false (bd ajq) (dv (R:=(List (ax [.aJ]))) (pf n) (jP [.aJ]) (bd ajq) [I4 n,HL n]):=ji (El n) a1.b _ _ (my ⟨aeA n,af6 n,trivial⟩)
def HO(s t:eB):Option zh:=Nc n t s 0
theorem YH:Ej a1.Q 115 .aJ (HO n):=ZA (ahS n) λ s t=>aeY n t s 0
def Pp:=pf n
theorem h41:Eo (Pp n):=El n
def MB:=(Pp n).a 159 (Ps n)
theorem h42:Eo (MB n):=mN (h41 n) (ahr n)
def Pa:=(MB n).a 160 (QB n)
theorem TY:Eo (Pa n):=mN (h42 n) (aeV n)
def Fw:o4 (eB×eB×J3 (zh×Unit)) (eB×Int×zh×Unit) zh:=λ(s,sep,b,c,i,a,_) again (k0,_)=>bif decide (i<c)then(Gi n s sep).bind λ x=>bif decide (x<0)then k0 (s,i,a,())else(iB s 0 (u0 .i64 (x+b))).bind λ d=>(aG a i).bind λ e=>(tD a i d).bind λ l=>(iB s (u0 .i64 (x+ (fV sep:Int))) (fV s:Int)).bind λ f=>again (f,sep,b,c,(u0 .i64 (i+1)),l,())else k0 (s,i,a,())
def MC(s sep:eB)(g a:Int):Option zh:=bif a==0 then some ([]:List eB)else bif sep== []then(TI n s a).bind λ x=>some x else bif decide (a<0)then(Bp n s sep).bind λ d=>(CO (bu (u0 .i64 (d+1)) (u0 .i64 ((fV s:Int)+1)))).bind λ u=>cq (Fw n) n (s,sep,g,(u0 .i64 ((bu (u0 .i64 (d+1)) (u0 .i64 ((fV s:Int)+1)))- 1)),0,(x3 (N2 (bu (u0 .i64 (d+1)) (u0 .i64 ((fV s:Int)+1)))) []),()) (λ(j,b,e,_)=>(aG e b).bind λ o=>(tD e b j).bind λ h=>(iB h 0 (u0 .i64 (b+1))).bind λ l=>some l,())else(CO (bu a (u0 .i64 ((fV s:Int)+1)))).bind λ q=>cq (Fw n) n (s,sep,g,(u0 .i64 ((bu a (u0 .i64 ((fV s:Int)+1)))- 1)),0,(x3 (N2 (bu a (u0 .i64 ((fV s:Int)+1)))) []),()) (λ(k,c,f,_)=>(aG f c).bind λ p=>(tD f c k).bind λ i=>(iB i 0 (u0 .i64 (c+1))).bind λ m=>some m,())
def M3:=(Pa n).B 146 [.aJ,.aJ,Z0,Z0] [Z70] λ x y=>MC n x.1 x.2.1 x.2.2.1 x.2.2.2
theorem h44:Eo (M3 n):=gD a1 (TY n) func146 (O:= [_]) ⟨gh n (TY n) (eN 66 [aT 0 .aJ,aT 1 .aJ,aT 2 Z0,aT 3 Z0,(9,.v (.iR 66)),aT 10 Z0] [(66,.jH .aJ)]) [fq 0 66 [aT 0 .aJ,(9,.v (.iR 66)),aT 10 Z0] [(66,.jH .aJ)]] (Fw n),trivial⟩
def Qd(s sep:eB):=(MC n s sep 0 (-1)).bind λ x=>some x
def qA:=(M3 n).B 116 [.aJ,.aJ] [Z70] λ x y=>Qd n x.1 x.2
theorem HN:Eo (qA n):=dw a1 (h44 n) func116
def BN:amo (bZ×aZ×Int×aZ×Bool×Unit) eB (Int×Unit) Z65:=λ(p,g,h,out,missing,_) y again (k0,_)=>(Qd n y [32]).bind λ x=>(bI (!((fV x:Int) !=2)) (aG x 0) []).bind λ e=>(bI (!(((fV x:Int) !=2)|| (e== []))) (aG x 1) []).bind λ c=>bif (((fV x:Int) !=2)|| (e== []))|| (c== [])then k0 (7,())else(aG x 0).bind λ d=>(vV n p d).bind λ a=>(aG x 1).bind λ f=>(vV n p f).bind λ b=>(jk (fV out+fV ([(a,b)]:List dy))).bind λ u=>again (p,g,h,(out++ ([(a,b)]:List dy)),((missing|| (decide (a<0)))|| (decide (b<0))),())
def LL(p:bZ×aZ)(s:eB):Option Z65:=(tx n p).bind λ x=>bif x.2 !=0 then some (([]:List dy),x.2)else bif s== []then some (([]:List dy),0)else(HO n s [59]).bind λ xs=>la (BN n) (λ(c,_)=>some (([]:List dy),c),()) (λ(d,e,f,b,a,_)=>bif a then some (([]:List dy),6)else some (b,0)) xs (p.1,p.2,0,([]:List dy),false,())
def uc:cf:= ⟨73,[gv,dK,Z0,dK,.aO],[Xb 2 73,Xb 4 74,Xb 5 75,Xb 8 76,Xb 9 78],[X0 73,(74,.cp dK [.j6]),X4 75,(76,.cp dK [.iR 77]),(77,.jH Z3),X5 78],[]⟩
def Gr:List (dN×cf):= [(.sT,⟨73,[Z0],[Xb 4 73,Xb 5 74],[(73,.cp dK [.j6]),X4 74],[]⟩)]
theorem aaS(d)(x)(again)(ks):dv (R:=(ax [dK,Z0])) (qA n) (bT.b (R:=(ax [dK,Z0]))) (D8 (pE 5 (bd f58))) [] (yO uc [2,4,5,8,9] [25] [.aJ] d x) (tH λ st=>dv (R:=(ax [dK,Z0])) (qA n) (bT.b (R:=(ax [dK,Z0]))) (Dt (pE 5 (bd f58))) [] st (wR (qA n) uc [2,4,5,8,9] Gr again ks))=BN n d x again ks:=by kernel_rfl
def JN:fc:= ⟨[qG,.aJ],[],[dK,Z0],λ x y=>LL n x.1 x.2,false⟩
theorem XJ:CD 1 23 24 115 0 25 [59] (pE 5 (bd f58))=true:=by kernel_rfl
theorem WE:qp (R:=(ax [dK,Z0])) a1.Q (qA n) [.aJ] [25] (D8 (pE 5 (bd f58))) (Dt (pE 5 (bd f58))) [] [] uc [2,4,5,8,9] Gr (BN n):=ab1 (HN n) a1.b rfl (by decide) (by decide) rfl trivial trivial (aaS n)
theorem abU(d)(k)(sl)(h:Map.av (mk uc d).a k=some sl):k≠23/\k≠24:=U7 (T:=uc) (by kernel_rfl) d k sl h
theorem aet(x)(y):(xP (qA n) (bT.b (R:=(ax [dK,Z0]))) (Eu (qA n) .aJ (.tmp 1) (λ s=>HO n s [59]) uc Gr (BN n) 0) 5 (bd f58)) (uN f58.ntmps [qG,.aJ] [] x y) (xj (qA n) false f58.results.toList [dK,Z0])=(JN n).g x y:=by kernel_rfl
theorem Zf:jf a1.Q 58 (JN n):=ZQ (HN n) a1.b (a1.a func58 (by kernel_rfl) (by decide)) (by kernel_rfl) (by kernel_rfl) (by kernel_rfl) (YH n) XJ (by kernel_rfl) (by decide) (by decide) (by decide) (WE n) abU (aet n)
def Rl:=(qA n).a 58 (JN n)
theorem Tq:Eo (Rl n):=mN (HN n) (Zf n)
def Pu(n:Nat):b7 (Z5×Z5×Int×Unit) Unit (Bool×Unit) Bool:=λ(a,b,i,_) again (k0,k1,_)=>bif decide (i< (fV a:Int))then(aG a i).bind λ e=>(aG b i).bind λ c=>bif e !=c then k1 (false,())else again (a,b,(u0 .i64 (i+1)),())else k0 ()
def zL(a b:List Int):=bif (fV a:Int) !=(fV b:Int)then some false else cq (Pu n) n (a,b,0,()) (λ(_)=>some true,λ(c,_)=>some c,())
def Mb:=(Rl n).B 82 [Z4,Z4] [.aO] λ x y=>zL n x.1 x.2
theorem h47:Eo (Mb n):=gD a1 (Tq n) func82 (O:= [_]) ⟨gh n (Tq n) (eN 26 [aT 0 Z4,aT 1 Z4,aT 5 Z0] []) [fq 0 26 [] [],fw 26 [aT 4 .aO] []] (Pu n),trivial⟩
def Mn(a b:Z5×Z5):=(zL n a.1 b.1).bind λ x=>(bI x (zL n a.2 b.2) false).bind λ c=>some (x&&c)
def P3:=(Mb n).B 41 [BW,BW] [.aO] λ x y=>Mn n x.1 x.2
theorem OJ:Eo (P3 n):=dw a1 (h47 n) func41
def Sk(n:Nat):b7 (aZ×aZ×Int×Unit) Unit (Bool×Unit) Bool:=λ(a,b,i,_) again (k0,k1,_)=>bif decide (i< (fV a:Int))then(aG a i).bind λ e=>(aG b i).bind λ c=>bif !((e.1==c.1)&& (e.2==c.2))then k1 (false,())else again (a,b,(u0 .i64 (i+1)),())else k0 ()
def RH(a b:List dy):=bif (fV a:Int) !=(fV b:Int)then some false else cq (Sk n) n (a,b,0,()) (λ(_)=>some true,λ(c,_)=>some c,())
def Qo:=(P3 n).B 38 [dK,dK] [.aO] λ x y=>RH n x.1 x.2
theorem h49:Eo (Qo n):=gD a1 (OJ n) func38 (O:= [_]) ⟨gh n (OJ n) (eN 26 [aT 0 dK,aT 1 dK,aT 5 Z0] []) [fq 0 26 [] [],fw 26 [aT 4 .aO] []] (Sk n),trivial⟩
def FJ:=(zC n).bind λ x=>(DU n).bind λ h=>(Na n x h (0,1)).bind λ b=>(zC n).bind λ j=>(LQ n).bind λ k=>(OD n j k).bind λ a=>(zC n).bind λ l=>(DU n).bind λ m=>(P6 n l m ([(0,1,2),(1,2,1)]:List TH)).bind λ c=>(zC n).bind λ o=>(LL n o [97,32,98,59,98,32,99]).bind λ e=>(bI (b.2==0) (Mn n b.1 (([3,5,0]:List Int),([1,1,0]:List Int))) false).bind λ d=>(bI (((((b.2==0)&&d)&& (a.2==0))&& (a.1==7))&& (c.2==0)) (zL n c.1.2.1 ([6,1,1]:List Int)) false).bind λ f=>(bI ((((((b.2==0)&&d)&& (a.2==0))&& (a.1==7))&& (c.2==0))&&f) (zL n c.1.2.2 ([1,1,1]:List Int)) false).bind λ g=>(bI ((((((((b.2==0)&&d)&& (a.2==0))&& (a.1==7))&& (c.2==0))&&f)&&g)&& (e.2==0)) (RH n e.1 ([(0,1),(1,2)]:List dy)) false).bind λ i=>some (((((((((b.2==0)&&d)&& (a.2==0))&& (a.1==7))&& (c.2==0))&&f)&&g)&& (e.2==0))&&i)
def Rn:=(Qo n).B 17 [] [.aO] λ x y=>FJ n
theorem h50:Eo (Rn n):=dw a1 (h49 n) func17
def qg(n:Nat)(a lo b:Int):=some ((decide (lo<=a))&& (decide (a<=b)))
def OS:=(Rn n).B 47 [Z0,Z0,Z0] [.aO] λ x y=>qg n x.1 x.2.1 x.2.2
theorem LN:Eo (OS n):=dw a1 (h50 n) func47
def yJ:b7 (Int×bZ×aZ×Unit) Unit (Bool×Unit) Bool:=λ(i,p,b,_) again (k0,k1,_)=>bif decide (i< (fV p:Int))then(aG p i).bind λ e=>(bI (!(decide ((fV e.1:Int)>20))) (aG p i) ([],0)).bind λ a=>(bI (!(decide ((fV e.1:Int)>20))) (qg n a.2 11 50) false).bind λ x=>bif (decide ((fV e.1:Int)>20))||x then k1 (false,())else again ((u0 .i64 (i+1)),p,b,())else k0 ()
def xB(p:bZ×aZ):=bif ((((decide ((fV p.1:Int)>4))&& (decide ((fV p.1:Int)<=6)))|| (decide ((fV p.1:Int)>8)))|| ((decide ((fV p.2:Int)>14))&& (decide ((fV p.2:Int)<=30))))|| (decide ((fV p.2:Int)>32))then some false else cq (yJ n) n (0,p.1,p.2,()) (λ(_)=>some true,λ(a,_)=>some a,())
def Nw:=(OS n).B 18 [qG] [.aO] λ x y=>xB n x
theorem h52:Eo (Nw n):=gD a1 (LN n) func18 (O:= [_]) ⟨gh n (LN n) (eN 62 [Xb 1 62,aT 3 Z0] [X0 62]) [fq 0 62 [] [],fw 62 [aT 2 .aO] []] (yJ n),trivial⟩
def wX(n:Nat)(s:Z5×Z5):=some ((decide ((fV s.1:Int)<=10))&& (decide ((fV s.2:Int)<=10)))
def Sj:=(Nw n).B 20 [BW] [.aO] λ x y=>wX n x
theorem h53:Eo (Sj n):=dw a1 (h52 n) func20
def zS(t:cn×Z5×Z5):=(wX n t.1).bind λ x=>some ((x&& (decide ((fV t.2.1:Int)<=10)))&& (decide ((fV t.2.2:Int)<=10)))
def Sf:=(Sj n).B 19 [gS] [.aO] λ x y=>zS n x
theorem h54:Eo (Sf n):=dw a1 (h53 n) func19
def wL(n:Nat)(p:bZ×aZ):Option uy:=(jk (fV ([]:List cN)+fV p.1)).bind λ u=>(jk (fV ([]:List dy)+fV p.2)).bind λ a=>some ((([]:List cN)++p.1),(([]:List dy)++p.2))
def Mv:=(Sf n).B 22 [qG] [qG] λ x y=>wL n x
theorem WJ:Eo (Mv n):=dw a1 (h54 n) func22
def uV(n:Nat)(l:List Int):Option Z5:=(jk (fV ([]:List Int)+fV l)).bind λ u=>some (([]:List Int)++l)
def NG:=(Mv n).a 89 ⟨[Z4],[],[Z4],λ x y=>uV n x,true⟩
theorem h56:Eo (NG n):=dw a1 (WJ n) func89
def th(s:Z5×Z5):Option cn:=(uV n s.1).bind λ x=>(uV n s.2).bind λ a=>some (x,a)
def Rx:=(NG n).a 25 ⟨[BW],[],[BW],λ x y=>th n x,true⟩
theorem h57:Eo (Rx n):=dw a1 (h56 n) func25
def xf(t:cn×Z5×Z5):Option Yl:=(th n t.1).bind λ x=>(uV n t.2.1).bind λ a=>(uV n t.2.2).bind λ b=>some (x,a,b)
def NB:=(Rx n).B 23 [gS] [gS] λ x y=>xf n x
theorem Zu:Eo (NB n):=dw a1 (h57 n) func23
def yx(n:Nat):b7 (eB×Int×Unit) Unit (Bool×Unit) Bool:=λ(s,i,_) again (k0,k1,_)=>bif decide (i< (fV s:Int))then(aG s i).bind λ c=>bif (!(((decide (((vi c:Nat):Int)>=97))&& (decide (((vi c:Nat):Int)<=122)))|| ((decide (((vi c:Nat):Int)>=65))&& (decide (((vi c:Nat):Int)<=90)))))&& ((i==0)|| ((((vi c:Nat):Int) !=45)&& ((decide (((vi c:Nat):Int)<48))|| (decide (((vi c:Nat):Int)>57)))))then k1 (false,())else again (s,(u0 .i64 (i+1)),())else k0 ()
def EH(s:eB):=bif (decide ((fV s:Int)<1))|| (decide ((fV s:Int)>12))then some false else cq (yx n) n (s,0,()) (λ(_)=>some true,λ(a,_)=>some a,())
def Pm:=(NB n).B 110 [.aJ] [.aO] λ x y=>EH n x
theorem Oe:Eo (Pm n):=gD a1 (Zu n) func110 (O:= [_]) ⟨gh n (Zu n) (eN 55 [aT 0 .aJ,aT 3 Z0] []) [fq 0 55 [] [],fw 55 [aT 2 .aO] []] (yx n),trivial⟩
def zF(p:bZ×aZ)(a:Int):=(qg n a 0 (u0 .i64 ((fV p.1:Int)- 1))).bind λ x=>some x
def Ny:=(Pm n).B 80 [qG,Z0] [.aO] λ x y=>zF n x.1 x.2
theorem PK:Eo (Ny n):=dw a1 (Oe n) func80
def Ak(n:Nat):b7 (Int×Int×bZ×aZ×Unit) (Int×bZ×aZ×Unit) (Int×Int×Unit) dy:=λ(i,a,p,b,_) again (k0,k1,_)=>bif decide (a<i)then(aG p a).bind λ e=>(aG p i).bind λ c=>bif e.1==c.1 then k1 (i,5,())else again (i,(u0 .i64 (a+1)),p,b,())else k0 (i,p,b,())
def yU:b7 (Int×bZ×aZ×Unit) (bZ×aZ×Unit) (Int×Int×Unit) dy:=λ(i,p,b,_) again (k0,k1,_)=>bif decide (i< (fV p:Int))then(aG p i).bind λ e=>(EH n e.1).bind λ x=>bif !x then k1 (i,4,())else cq (Ak n) n (i,0,p,b,()) (λ(a,c,f,_)=>(aG c a).bind λ d=>(qg n d.2 1 50).bind λ j=>bif !j then k1 (a,2,())else again ((u0 .i64 (a+1)),c,f,()),λ(g,h,_)=>k1 (g,h,()),())else k0 (p,b,())
def yj(n:Nat):b7 (Int×Int×bZ×aZ×Int×Int×Unit) (Int×bZ×aZ×Unit) (Int×Int×Unit) dy:=λ(i,b,p,a,h,c,_) again (k0,k1,_)=>bif decide (b<i)then(aG a b).bind λ e=>bif (e.1==h)&& (e.2==c)then k1 (i,26,())else again (i,(u0 .i64 (b+1)),p,a,h,c,())else k0 (i,p,a,())
def zm:b7 (Int×bZ×aZ×Unit) Unit (Int×Int×Unit) dy:=λ(i,p,a,_) again (k0,k1,_)=>bif decide (i< (fV a:Int))then(aG a i).bind λ e=>(cQ 0 2).bind λ u=>(aG [e.1,e.2] 0).bind λ x=>(zF n (p,a) x).bind λ b=>(bI (!(!b)) (cQ 1 2) ()).bind λ o=>(bI (!(!b)) (aG [e.1,e.2] 1) 0).bind λ j=>(bI (!(!b)) (zF n (p,a) j) false).bind λ k=>bif (!b)|| (!k)then k1 (i,6,())else(cQ 0 2).bind λ q=>(aG [e.1,e.2] 0).bind λ l=>(cQ 1 2).bind λ r=>(aG [e.1,e.2] 1).bind λ m=>bif l==m then k1 (i,11,())else cq (yj n) n (i,0,p,a,e.1,e.2,()) (λ(c,d,f,_)=>again ((u0 .i64 (c+1)),d,f,()),λ(g,h,_)=>k1 (g,h,()),())else k0 ()
def xy(p:bZ×aZ):Option dy:=bif (fV p.1:Int)==0 then some (0,10)else bif decide ((fV p.1:Int)>6)then some (0,8)else cq (yU n) n (0,p.1,p.2,()) (λ(b,a,_)=>bif decide ((fV a:Int)>30)then some (0,8)else cq (zm n) n (0,b,a,()) (λ(_)=>some (0,0),λ(c,e,_)=>some (c,e),()),λ(d,f,_)=>some (d,f),())
def OF:=(Ny n).B 46 [qG] [Z0,Z0] λ x y=>xy n x
theorem zq:Eo (OF n):=gD a1 (PK n) func46 (O:= [_,_]) ⟨B8 n (PK n) (eN 109 [Xb 1 109,aT 4 Z0] [X0 109]) [fq 0 109 [Xb 1 109] [X0 109],fw 109 [aT 2 Z0,aT 3 Z0] []] (yU n) (O:= [_]) ⟨gh n (PK n) (eN 109 [Xb 1 109,aT 4 Z0,aT 5 Z0] [X0 109]) [fq 2 109 [Xb 1 109,aT 4 Z0] [X0 109],fw 109 [aT 2 Z0,aT 3 Z0] []] (Ak n),trivial⟩,B8 n (PK n) (eN 109 [Xb 1 109,aT 6 Z0] [X0 109]) [fq 4 109 [] [],fw 109 [aT 2 Z0,aT 3 Z0] []] (zm n) (O:= [_]) ⟨gh n (PK n) (eN 109 [Xb 1 109,aT 6 Z0,Xb 7 110,aT 8 Z0] [X0 109,(110,.cp Z3 [.aj Z0,.aj Z0])]) [fq 6 109 [Xb 1 109,aT 6 Z0] [X0 109],fw 109 [aT 2 Z0,aT 3 Z0] []] (yj n),trivial⟩,trivial⟩
def DI:b7 (Int×bZ×aZ×Z5×Z5×Unit) Unit (Int×Unit) Int:=λ(i,p,g,s,a,_) again (k0,k1,_)=>bif decide (i< (fV p:Int))then(aG s i).bind λ e=>(aG p i).bind λ b=>(qg n e 0 b.2).bind λ x=>(bI (!(!x)) (aG a i) 0).bind λ c=>(bI (!(!x)) (qg n c 0 3) false).bind λ h=>bif (!x)|| (!h)then k1 (2,())else(aG a i).bind λ d=>(aG s i).bind λ f=>bif !((d==0)==(f==0))then k1 (13,())else again ((u0 .i64 (i+1)),p,g,s,a,())else k0 ()
def sM(p:bZ×aZ)(s:Z5×Z5):=bif ((fV s.1:Int) !=(fV p.1:Int))|| ((fV s.2:Int) !=(fV p.1:Int))then some 10 else cq (DI n) n (0,p.1,p.2,s.1,s.2,()) (λ(_)=>some 0,λ(a,_)=>some a,())
def Qw:=(OF n).B 27 [qG,BW] [Z0] λ x y=>sM n x.1 x.2
theorem Of:Eo (Qw n):=gD a1 (zq n) func27 (O:= [_]) ⟨gh n (zq n) (eN 64 [Xb 2 64,Xb 3 65,aT 5 Z0] [X0 64,X1 65]) [fq 0 64 [] [],fw 64 [aT 4 Z0] []] (DI n),trivial⟩
def Ez:b7 (Int×bZ×aZ×Z5×Z5×Z5×Z5×Unit) Unit (Int×Unit) Int:=λ(i,p,j,t,k,a,b,_) again (k0,k1,_)=>bif decide (i< (fV p:Int))then(aG a i).bind λ e=>(bI (e !=(-1)) (aG a i) 0).bind λ d=>(bI (e !=(-1)) (aG p i) ([],0)).bind λ f=>(bI (e !=(-1)) (qg n d 0 f.2) false).bind λ x=>(bI (!((e !=(-1))&& (!x))) (aG b i) 0).bind λ g=>(bI (!((e !=(-1))&& (!x))) (qg n g 0 3) false).bind λ l=>bif ((e !=(-1))&& (!x))|| (!l)then k1 (2,())else(aG b i).bind λ c=>(bI (c !=0) (aG a i) 0).bind λ h=>bif (c !=0)&& (h==0)then k1 (13,())else again ((u0 .i64 (i+1)),p,j,t,k,a,b,())else k0 ()
def wy(p:bZ×aZ)(t:cn×Z5×Z5):=(sM n p t.1).bind λ x=>bif x !=0 then some x else bif ((fV t.2.1:Int) !=(fV p.1:Int))|| ((fV t.2.2:Int) !=(fV p.1:Int))then some 10 else cq (Ez n) n (0,p.1,p.2,t.1.1,t.1.2,t.2.1,t.2.2,()) (λ(_)=>some 0,λ(a,_)=>some a,())
def QL:=(Qw n).B 94 [qG,gS] [Z0] λ x y=>wy n x.1 x.2
theorem Lw:Eo (QL n):=gD a1 (Of n) func94 (O:= [_]) ⟨gh n (Of n) (eN 81 [Xb 2 81,Xb 3 82,aT 6 Z0] [X0 81,X2 82]) [fq 0 81 [] [],fw 81 [aT 4 Z0] []] (Ez n),trivial⟩
def AT(p:bZ×aZ)(t:cn×Z5×Z5):=(xy n p).bind λ x=>bif x.2 !=0 then some x.2 else(wy n p t).bind λ a=>some a
def Qi:=(QL n).B 26 [qG,gS] [Z0] λ x y=>AT n x.1 x.2
theorem h64:Eo (Qi n):=dw a1 (Lw n) func26
def EX(n:Nat):b7 (Int×Z5×Z5×Z5×Z5×Z5×Z5×Unit) Unit (Bool×Unit) Bool:=λ(i,t,k,d,f,s,g,_) again (k0,k1,_)=>bif decide (i< (fV s:Int))then(aG d i).bind λ e=>(bI (e !=(-1)) (aG d i) 0).bind λ a=>(bI (e !=(-1)) (aG s i) 0).bind λ b=>(bI (!((e !=(-1))&& (a !=b))) (aG f i) 0).bind λ c=>(bI ((!((e !=(-1))&& (a !=b)))&& (c !=0)) (aG f i) 0).bind λ h=>(bI ((!((e !=(-1))&& (a !=b)))&& (c !=0)) (aG g i) 0).bind λ j=>bif ((e !=(-1))&& (a !=b))|| ((c !=0)&& (h !=j))then k1 (false,())else again ((u0 .i64 (i+1)),t,k,d,f,s,g,())else k0 ()
def wS(t:cn×Z5×Z5)(s:Z5×Z5):=cq (EX n) n (0,t.1.1,t.1.2,t.2.1,t.2.2,s.1,s.2,()) (λ(_)=>some true,λ(a,_)=>some a,())
def Kv:=(Qi n).B 28 [gS,BW] [.aO] λ x y=>wS n x.1 x.2
theorem LO:Eo (Kv n):=gD a1 (h64 n) func28 (O:= [_]) ⟨gh n (h64 n) (eN 53 [Xb 2 53,Xb 3 54,aT 5 Z0] [X2 53,X1 54]) [fq 0 53 [] [],fw 53 [aT 4 .aO] []] (EX n),trivial⟩
def akl(n:Nat):b7 (Int×bZ×aZ×Int×Int×Unit) Unit (Bool×Unit) Bool:=λ(i,p,a,m,b,_) again (k0,k1,_)=>bif decide (i< (fV a:Int))then(aG a i).bind λ e=>bif (e.1==m)&& (e.2==b)then k1 (true,())else again ((u0 .i64 (i+1)),p,a,m,b,())else k0 ()
def akG(p:bZ×aZ)(m:Int×Int):=cq (akl n) n (0,p.1,p.2,m.1,m.2,()) (λ(_)=>some false,λ(a,_)=>some a,())
def e68:=(Kv n).B 105 [qG,Z3] [.aO] λ x y=>akG n x.1 x.2
theorem h68:Eo (e68 n):=gD a1 (LO n) func105 (O:= [_]) ⟨gh n (LO n) (eN 24 [Xb 2 24,Xb 3 25,aT 5 Z0] [X0 24,(25,.cp Z3 [.aj Z0,.aj Z0])]) [fq 0 24 [] [],fw 24 [aT 4 .aO] []] (akl n),trivial⟩
def x6(p:bZ×aZ)(s:Z5×Z5)(m:Int×Int):Option Int:=(zF n p m.1).bind λ x=>(bI (!(!x)) (zF n p m.2) false).bind λ g=>bif (!x)|| (!g)then some 6 else(akG n p m).bind λ h=>bif !h then some 18 else(aG s.1 m.1).bind λ e=>bif e==0 then some 12 else(aG s.1 m.2).bind λ b=>(aG p.1 m.2).bind λ c=>bif b==c.2 then some 16 else(aG s.2 m.2).bind λ a=>(bI (a !=0) (aG s.2 m.2) 0).bind λ d=>(bI (a !=0) (aG s.2 m.1) 0).bind λ f=>bif (a !=0)&& (d !=f)then some 13 else some 0
def e69:=(e68 n).B 40 [qG,BW,Z3] [Z0] λ x y=>x6 n x.1 x.2.1 x.2.2
theorem h69:Eo (e69 n):=dw a1 (h68 n) func40
def K7:o4 (Int×Int×bZ×aZ×Z5×Z5×aZ×Unit) (Int×bZ×aZ×Z5×Z5×aZ×Unit) aZ:=λ(i,a,p,b,s,c,out,_) again (k0,_)=>bif decide (a< (fV p:Int))then(x6 n (p,b) (s,c) (i,a)).bind λ x=>bif x==0 then(jk (fV out+fV ([(i,a)]:List dy))).bind λ u=>again (i,(u0 .i64 (a+1)),p,b,s,c,(out++ ([(i,a)]:List dy)),())else again (i,(u0 .i64 (a+1)),p,b,s,c,out,())else k0 (i,p,b,s,c,out,())
def abr:o4 (Int×bZ×aZ×Z5×Z5×aZ×Unit) (aZ×Unit) aZ:=λ(i,p,c,s,f,out,_) again (k0,_)=>bif decide (i< (fV p:Int))then cq (K7 n) n (i,0,p,c,s,f,out,()) (λ(a,d,e,g,h,b,_)=>again ((u0 .i64 (a+1)),d,e,g,h,b,()),())else k0 (out,())
def za(p:bZ×aZ)(s:Z5×Z5):=cq (abr n) n (0,p.1,p.2,s.1,s.2,([]:List dy),()) (λ(a,_)=>some a,())
def e70:=(e69 n).B 39 [qG,BW] [dK] λ x y=>za n x.1 x.2
theorem h70:Eo (e70 n):=gD a1 (h69 n) func39 (O:= [_]) ⟨B8 n (h69 n) (eN 36 [Xb 2 36,Xb 3 37,(5,.v (.iR 38)),aT 6 Z0] [X0 36,X1 37,(38,.jH Z3)]) [fq 0 36 [(5,.v (.iR 36))] [(36,.jH Z3)]] (abr n) (O:= [_]) ⟨gh n (h69 n) (eN 36 [Xb 2 36,Xb 3 37,(5,.v (.iR 38)),aT 6 Z0,aT 7 Z0] [X0 36,X1 37,(38,.jH Z3)]) [fq 2 36 [Xb 2 36,Xb 3 37,(5,.v (.iR 38)),aT 6 Z0] [X0 36,X1 37,(38,.jH Z3)]] (K7 n),trivial⟩,trivial⟩
def K9(p:bZ×aZ)(s:Z5×Z5)(m:Int×Int):Option cn:=(th n s).bind λ x=>(aG s.1 m.1).bind λ e=>(aG p.1 m.2).bind λ c=>(aG s.1 m.2).bind λ d=>(aG s.1 m.1).bind λ f=>(aG s.1 m.2).bind λ g=>(aG x.1 m.1).bind λ o=>(tD x.1 m.1 (u0 .i64 (f- (bu e (u0 .i64 (c.2- d)))))).bind λ l=>(aG l m.2).bind λ q=>(tD l m.2 (u0 .i64 (g+ (bu e (u0 .i64 (c.2- d)))))).bind λ a=>(aG s.2 m.1).bind λ h=>(aG x.2 m.2).bind λ r=>(tD x.2 m.2 h).bind λ b=>(aG a m.1).bind λ t=>(aG a m.1).bind λ j=>bif j==0 then(aG b m.1).bind λ k=>(tD b m.1 0).bind λ i=>some (a,i)else some (a,b)
def e71:=(e70 n).B 42 [qG,BW,Z3] [BW] λ x y=>K9 n x.1 x.2.1 x.2.2
theorem h71:Eo (e71 n):=dw a1 (h70 n) func42
def s48(l:List dy):=(bI (!(decide ((fV l:Int)<=30))) (qg n (fV l:Int) 501 502) false).bind λ x=>some ((decide ((fV l:Int)<=30))||x)
def e72:=(e71 n).B 48 [dK] [.aO] λ x y=>s48 n x
theorem h72:Eo (e72 n):=dw a1 (h71 n) func48
def s50(n:Nat)(l:List dy):Option aZ:=(jk (fV ([]:List dy)+fV l)).bind λ u=>some (([]:List dy)++l)
def e73:=(e72 n).B 50 [dK] [dK] λ x y=>s50 n x
theorem h73:Eo (e73 n):=dw a1 (h72 n) func50
def ade:b7 (aZ×Int×Int×bZ×aZ×u6 (u6 Unit)) (u6 (u6 Unit)) (u6 (Int×Int×Unit)) K1:=λ(c,d,a,p,b,t,u,y,z,A,B,C,D,E,F,v,w,f,g,j,k,l,m,o,q,r,s,h,i,_) again (k0,k1,_)=>bif decide (a<d)then(aG c a).bind λ e=>(En n (p,b) ((t,u,y,z,A,B),C,D,E,F,v,w) e).bind λ x=>bif x.2 !=0 then k1 (a,x.2,0,0,0,0,0,0,0,0,0,0,0,0,())else again (c,d,(u0 .i64 (a+1)),p,b,x.1.1.1,x.1.1.2.1,x.1.1.2.2.1,x.1.1.2.2.2.1,x.1.1.2.2.2.2.1,x.1.1.2.2.2.2.2,x.1.2.1,x.1.2.2.1,x.1.2.2.2.1,x.1.2.2.2.2.1,x.1.2.2.2.2.2.1,x.1.2.2.2.2.2.2,f,g,j,k,l,m,o,q,r,s,h,i,())else k0 (t,u,y,z,A,B,C,D,E,F,v,w,f,g,j,k,l,m,o,q,r,s,h,i,())
def aje(p:bZ×aZ)(a:Z1×J5 Int)(l:List dy):Option K1:=bif decide ((fV l:Int)>500)then some (((0,0,0,0,0,0),0,0,0,0,0,0),0,8)else cq (ade n) n (l,(fV l:Int),0,p.1,p.2,a.1.1,a.1.2.1,a.1.2.2.1,a.1.2.2.2.1,a.1.2.2.2.2.1,a.1.2.2.2.2.2,a.2.1,a.2.2.1,a.2.2.2.1,a.2.2.2.2.1,a.2.2.2.2.2.1,a.2.2.2.2.2.2,0,0,0,0,0,0,0,0,0,0,0,0,()) (λ(s,t,u,v,w,x,y,z,A,B,C,D,E,F,G,H,I,J,K,L,M,N,O,P,_)=>some (((s,t,u,v,w,x),y,z,A,B,C,D),0,0),λ(q,r,b,c,d,e,f,g,h,i,j,k,m,o,_)=>some (((b,c,d,e,f,g),h,i,j,k,m,o),q,r),())
def e74:=(e73 n).B 111 [qG,fh,dK] [fh,Z0,Z0] λ x y=>aje n x.1 x.2.1 x.2.2
theorem h74:Eo (e74 n):=gD a1 (h73 n) func111 (O:= [_]) ⟨gh n (h73 n) (eN 39 [Xb 3 39,Xb 4 40,Xb 6 41,aT 17 dK,aT 18 Z0,aT 19 Z0] [X0 39,X3 40,X3 41]) [fq 0 39 [Xb 4 39,Xb 6 40] [X3 39,X3 40],fw 39 [Xb 6 39,aT 7 Z0,aT 8 Z0] [X3 39]] (ade n),trivial⟩
def ag1:b7 (aZ×Int×bZ×aZ×Z5×Z5×Unit) (Z5×Z5×Unit) (Int×Int×Unit) Jz:=λ(l,i,p,a,s,b,_) again (k0,k1,_)=>bif decide (i< (fV l:Int))then(aG l i).bind λ e=>(x6 n (p,a) (s,b) e).bind λ x=>bif x !=0 then k1 (i,x,())else(aG l i).bind λ d=>(K9 n (p,a) (s,b) d).bind λ c=>again (l,(u0 .i64 (i+1)),p,a,c.1,c.2,())else k0 (s,b,())
def s51(p:bZ×aZ)(s:Z5×Z5)(l:List dy):Option Jz:=bif decide ((fV l:Int)>500)then some ((([]:List Int),([]:List Int)),0,8)else cq (ag1 n) n (l,0,p.1,p.2,s.1,s.2,()) (λ(a,b,_)=>(th n (a,b)).bind λ e=>some (e,0,0),λ(c,d,_)=>some ((([]:List Int),([]:List Int)),c,d),())
def l8:=(e74 n).B 51 [qG,BW,dK] [BW,Z0,Z0] λ x y=>s51 n x.1 x.2.1 x.2.2
theorem Us:Eo (l8 n):=gD a1 (h74 n) func51 (O:= [_]) ⟨gh n (h74 n) (eN 42 [aT 2 dK,Xb 3 42,Xb 4 43,Xb 6 44,aT 9 Z0] [X0 42,X1 43,(44,.cp BW [.j6,.j6])]) [fq 0 42 [Xb 4 42,Xb 6 43] [X1 42,(43,.cp BW [.j6,.j6])],fw 42 [Xb 6 42,aT 7 Z0,aT 8 Z0] [(42,.cp BW [.j6,.j6])]] (ag1 n),trivial⟩
def xM(n:Nat):amo (tZ×LJ×Fp×Bool×Fp×Unit) (dy×Z1×J5 Int) (Bool×Unit) Bool:=λ(t,a,c,b,it,_) y again (k0,_)=>bif !(D3 (j4 (Ty.f fh) c y.2) false)then k0 (false,())else again (t,a,c,b,it,())
def JR:b7 (tZ×Fp×Bool×Fp×Unit) (Bool×Unit) (Bool×Unit) Bool:=λ(t,c,a,it,_) again (k0,k1,_)=>aag it (λ z j=>(ud n t z.1).bind λ x=>bif x then k1 (false,())else t.bind λ i=>(tN n i.1 z.1).bind λ b=>la (xM n) (λ(g,_)=>k1 (g,()),()) (λ(h,k,d,f,e,_)=>again (h,d,f,e,())) b (t,b,c,a,j,())) (k0 (a,()))
def G5(c:List AU)(t:Option kj):=t.bind λ x=>bif !(D3 (j4 (Ty.f fh) c x.2.2) false)then some false else cq (JR n) n (t,c,false,c,()) (λ(b,_)=>some true,λ(a,_)=>some a,())
def LS:cf:= ⟨36,[Cu,Z61,QQ,.aO,QQ],[(1,.v (.aj Cu)),Xb 2 36,Xb 4 37,(16,.v (.iR 38)),(29,.v (.aj Z61))],[(36,.cp QQ [.aj QQ]),X5 37,(38,.it fh .aO)],[]⟩
def ab0:List (dN×cf):= [(.sT,⟨36,[.aO],[Xb 4 36],[X5 36],[]⟩)]
theorem ap1(d)(x)(again)(ks):dv (R:=(ax [.aO])) (l8 n) (bT.b (R:=(ax [.aO]))) (vv (lp (iw (lp (bd T2) 0)) 0)) [] (GP LS [1,2,4,16,29] 30 31 Z3 fh d x) (tH λ st=>dv (R:=(ax [.aO])) (l8 n) (bT.b (R:=(ax [.aO]))) (wQ (lp (iw (lp (bd T2) 0)) 0)) [] st (wR (l8 n) LS [1,2,4,16,29] ab0 again ks))=xM n d x again ks:=by kernel_rfl
theorem ap0:eS a1.Q (bT.b (R:=(ax [.aO]))) false (lp (iw (lp (bd T2) 0)) 0) ((λ n=>qX (R:=(ax [.aO])) (l8 n) Z3 fh (vp (lp (iw (lp (bd T2) 0)) 0)) LS ab0 (xM n)) n):=RZ (Us n) a1.b (p:=30) (q:=31) (F:= [1,2,4,16,29]) (Oa:= []) (Ob:= []) (by kernel_rfl) (by kernel_rfl) trivial trivial (ap1 n)
def ale:cf:= ⟨36,[Cu,QQ,.aO,QQ],[(1,.v (.aj Cu)),Xb 2 36,Xb 4 37,(16,.v (.iR 38))],[(36,.cp QQ [.aj QQ]),X5 37,(38,.it fh .aO)],[]⟩
def al1:List (dN×cf):= [(.ou 0,⟨36,[.aO],[Xb 4 36],[X5 36],[]⟩),(.sT,⟨36,[.aO],[Xb 4 36],[X5 36],[]⟩)]
def akj:Ev (ax [.aO]):=mG n (l8 n) ale al1 (JR n)
theorem apm d again ks:dv (R:=(ax [.aO])) (l8 n) (bT.b (R:=(ax [.aO]))) (iw (lp (bd T2) 0)) [(λ n=>qX (R:=(ax [.aO])) (l8 n) Z3 fh (vp (lp (iw (lp (bd T2) 0)) 0)) LS ab0 (xM n)) n] (mk ale d) (mL (l8 n) ale al1 again ks)=JR n d again ks:=by kernel_rfl
theorem ap8:eS a1.Q (bT.b (R:=(ax [.aO]))) false (lp (bd T2) 0) (akj n):=rk (Us n) a1.b (by kernel_rfl) (O:= [(λ n=>qX (R:=(ax [.aO])) (l8 n) Z3 fh (vp (lp (iw (lp (bd T2) 0)) 0)) LS ab0 (xM n)) n]) ⟨ap0 n,trivial⟩ (apm n)
def aiL:fc:= ⟨[QQ,Cu],[],[.aO],λ x y=>G5 n x.1 x.2,false⟩
theorem apM(x)(y):oI (l8 n) T2 [QQ,Cu] [] [.aO] false [akj n] x y=(aiL n).g x y:=by kernel_rfl
theorem apn:jf a1.Q 258 (aiL n):=xz (Us n) a1.b (a1.a func258 (by kernel_rfl) (by decide)) (by kernel_rfl) (by kernel_rfl) (O:= [akj n]) ⟨ap8 n,trivial⟩ (apM n)
def e76:=(l8 n).a 258 (aiL n)
theorem h76:Eo (e76 n):=mN (Us n) (apn n)
def aoc:b7 (qE×Int×Int×Unit) (qE×Int×Unit) (Bool×Unit) Bool:=λ(l,i,a,_) again (k0,k1,_)=>(aG l i).bind λ e=>bif decide (a< (fV e:Int))then(aG l i).bind λ b=>(aG b a).bind λ c=>(wX n c).bind λ x=>bif !x then k1 (false,())else again (l,i,(u0 .i64 (a+1)),())else k0 (l,i,())
def aol:b7 (qE×Int×Unit) Unit (Bool×Unit) Bool:=λ(l,i,_) again (k0,k1,_)=>bif decide (i< (fV l:Int))then(aG l i).bind λ e=>bif decide ((fV e:Int)>60)then k1 (false,())else cq (aoc n) n (l,i,0,()) (λ(b,a,_)=>again (b,(u0 .i64 (a+1)),()),λ(c,_)=>k1 (c,()),())else k0 ()
def s61(l:List QG):=bif decide ((fV l:Int)>12)then some false else cq (aol n) n (l,0,()) (λ(_)=>some true,λ(a,_)=>some a,())
def e77:=(e76 n).B 61 [Iq] [.aO] λ x y=>s61 n x
theorem h77:Eo (e77 n):=gD a1 (h76 n) func61 (O:= [_]) ⟨B8 n (h76 n) (eN 38 [aT 0 Iq,aT 3 Z0] []) [fq 0 38 [] [],fw 38 [aT 2 .aO] []] (aol n) (O:= [_]) ⟨gh n (h76 n) (eN 38 [aT 0 Iq,aT 3 Z0,aT 4 Z0] []) [fq 2 38 [aT 0 Iq,aT 3 Z0] [],fw 38 [aT 2 .aO] []] (aoc n),trivial⟩,trivial⟩
def s62(p:bZ×aZ)(t:cn×Z5×Z5)(l:List dy):Option dy:=(vm n p t).bind λ x=>bif x.2 !=0 then some (0,x.2)else x.1.bind λ c=>x.1.bind λ d=>(aje n c.1 d.2.2 l).bind λ a=>(ud n x.1 a.1).bind λ e=>(vk n e 20).bind λ f=>(C5 n ([a.2.2,f]:List Int)).bind λ b=>bif b !=0 then some (0,b)else some ((fV l:Int),0)
def e78:=(e77 n).B 62 [qG,gS,dK] [Z0,Z0] λ x y=>s62 n x.1 x.2.1 x.2.2
theorem h78:Eo (e78 n):=dw a1 (h77 n) func62
def Tl:o4 (QG×Int×QG×Unit) (QG×Unit) QG:=λ(l,i,out,_) again (k0,_)=>bif decide (i< (fV l:Int))then(aG l i).bind λ e=>(th n e).bind λ x=>(jk (fV out+fV ([x]:List cn))).bind λ u=>again (l,(u0 .i64 (i+1)),(out++ ([x]:List cn)),())else k0 (out,())
def HY(l:List cn):=cq (Tl n) n (l,0,([]:List cn),()) (λ(a,_)=>some a,())
def e79:=(e78 n).B 71 [EM] [EM] λ x y=>HY n x
theorem h79:Eo (e79 n):=gD a1 (h78 n) func71 (O:= [_]) ⟨gh n (h78 n) (eN 20 [aT 0 EM,(3,.v (.iR 20)),aT 4 Z0] [(20,.jH BW)]) [fq 0 20 [(3,.v (.iR 20))] [(20,.jH BW)]] (Tl n),trivial⟩
def aaV(t:Option kj)(p:tZ->Option Bool):=(p t).bind λ x=>(vk n x 20).bind λ a=>some a
def e80:=(e79 n).B 119 [Cu,(.dP Cu .aO)] [Z0] λ x y=>aaV n x.1 x.2
theorem h80:Eo (e80 n):=dw a1 (h79 n) func119
def ac7:b7 (QG×tZ×QG×Int×Int×Fp×Unit) (QG×tZ×Fp×Unit) (Int×Int×Unit) dy:=λ(l,b,c,d,a,own,_) again (k0,k1,_)=>bif decide (a<d)then(aG c a).bind λ e=>b.bind λ x=>(px n x.1 e).bind λ f=>bif f !=0 then k1 (0,f,())else(tj n e).bind λ g=>bif D3 (j4 (Ty.f fh) own g) false then k1 (0,26,())else again (l,b,c,d,(u0 .i64 (a+1)),(lz (Ty.f fh) own g true),())else k0 (l,b,own,())
def s70(p:bZ×aZ)(t:cn×Z5×Z5)(l:List cn):Option dy:=(vm n p t).bind λ x=>(vk n (decide ((fV l:Int)<=4000)) 8).bind λ h=>(C5 n ([x.2,h]:List Int)).bind λ a=>bif a !=0 then some (0,a)else cq (ac7 n) n (l,x.1,l,(fV l:Int),0,([]:List AU),()) (λ(c,g,d,_)=>(aaV n g (λ i=>G5 n d i)).bind λ b=>bif b !=0 then some (0,b)else some ((fV c:Int),0),λ(e,f,_)=>some (e,f),())
def e81:=(e80 n).B 70 [qG,gS,EM] [Z0,Z0] λ x y=>s70 n x.1 x.2.1 x.2.2
theorem h81:Eo (e81 n):=gD a1 (h80 n) func70 (O:= [_]) ⟨gh n (h80 n) (eN 65 [aT 2 EM,aT 8 Cu,(10,.v (.iR 65)),aT 33 EM,aT 34 Z0,aT 35 Z0] [(65,.tU fh .aO)]) [fq 0 65 [aT 2 EM,aT 8 Cu,(10,.v (.iR 65))] [(65,.tU fh .aO)],fw 65 [aT 6 Z0,aT 7 Z0] []] (ac7 n),trivial⟩
def ack(n:Nat):b7 (Z5×(Int->Option Bool)×Int×Int×Unit) Unit (Int×Unit) Int:=λ(s,f,b,a,_) again (k0,k1,_)=>bif decide (a<b)then(aG s a).bind λ e=>(f e).bind λ x=>bif x then k1 (a,())else again (s,f,b,(u0 .i64 (a+1)),())else k0 ()
def aaY(s:List Int)(f:Int->Option Bool):=cq (ack n) n (s,f,(fV s:Int),0,()) (λ(_)=>some (-1),λ(a,_)=>some a,())
def e82:=(e81 n).B 148 [Z4,Fc] [Z0] λ x y=>aaY n x.1 x.2
theorem h82:Eo (e82 n):=gD a1 (h81 n) func148 (O:= [_]) ⟨gh n (h81 n) (eN 19 [aT 0 Z4,aT 1 Fc,aT 7 Z0,aT 8 Z0] []) [fq 0 19 [] [],fw 19 [aT 4 Z0] []] (ack n),trivial⟩
def FQ(n:Nat)(a b:Int):=(bI (a !=(-1)) (NL a b) 0).bind λ r=>some ((a !=(-1))&& (r !=0))
def e83:=(e82 n).a 126 ⟨[Z0],[Z0],[.aO],λ x y=>FQ n x y,false⟩
theorem h83:Eo (e83 n):=dw a1 (h82 n) func126
def alf(s:List Int)(f:Int->Option Bool):=(aaY n s f).bind λ x=>some (decide (x>=0))
def qc:=(e83 n).B 125 [Z4,Fc] [.aO] λ x y=>alf n x.1 x.2
theorem h84:Eo (qc n):=dw a1 (h83 n) func125
def Ov(n:Nat):o4 (Int×Int×Unit) (Int×Unit) Int:=λ(a,b,_) again (k0,_)=>bif a !=0 then(NL b a).bind λ r=>again (r,a,())else k0 (b,())
def aeO(d b:Int):=cq (Ov n) n (b,d,()) (λ(a,_)=>some a,())
def ak0:cf:= ⟨9,[Z0,Z0],[(0,.v (.aj Z0)),Xb 1 9],[X4 9],[1]⟩
def amW:List (dN×cf):= [(.ou 0,⟨9,[Z0],[Xb 1 9],[X4 9],[1]⟩)]
def akt:Ev (Ty.b Z0):=mG n (qc n) ak0 amW (Ov n)
theorem apF d again ks:dv (R:=(Ty.b Z0)) (qc n) (bT.b (R:=(Ty.b Z0))) (iw (lp (bd f149) 0)) [] (mk ak0 d) (mL (qc n) ak0 amW again ks)=Ov n d again ks:=by kernel_rfl
theorem aph:eS a1.Q (bT.b (R:=(Ty.b Z0))) false (lp (bd f149) 0) (akt n):=rk (h84 n) a1.b (by kernel_rfl) (O:= []) trivial (apF n)
def akI:o9:= ⟨Z0,[Z0],λ d x=>aeO n d x⟩
theorem apz(d)(x):dv (R:=(Ty.b Z0)) (qc n) (bT.b (R:=(Ty.b Z0))) (bd f149) [akt n] (akE f149.ntmps Z0 [Z0] d x) (al7 (qc n) Z0 1)=(akI n).fn d x:=by kernel_rfl
theorem apq:aiT a1.Q 149 (akI n):=aoA (h84 n) a1.b (a1.a func149 (by kernel_rfl) (by decide)) (by kernel_rfl) (c:=bd f149) (by kernel_rfl) (by kernel_rfl) (O:= [akt n]) (my ⟨aph n,trivial⟩) (by kernel_rfl) (by kernel_rfl) (apz n)
def e85:=(qc n).g 149 (akI n)
theorem h85:Eo (e85 n):=aoe (h84 n) (apq n)
def acX:o4 (tZ×bZ×J3 Unit) (Int×Unit) Int:=λ(t,b,c,a,out,_) again (k0,_)=>bif decide (a<c)then(aG b a).bind λ e=>(aeO n out e.2).bind λ l=>t.bind λ x=>(aG [x.2.2.1.1,x.2.2.1.2.1,x.2.2.1.2.2.1,x.2.2.1.2.2.2.1,x.2.2.1.2.2.2.2.1,x.2.2.1.2.2.2.2.2] a).bind λ f=>(aeO n l f).bind λ d=>again (t,b,c,(u0 .i64 (a+1)),d,())else k0 (out,())
def JZ(t:Option kj):=t.bind λ x=>cq (acX n) n (t,x.1.1,(fV x.1.1:Int),0,0,()) (λ(a,_)=>some a,())
def e86:=(e85 n).B 127 [Cu] [Z0] λ x y=>JZ n x
theorem h86:Eo (e86 n):=gD a1 (h85 n) func127 (O:= [_]) ⟨gh n (h85 n) (eN 35 [aT 0 Cu,Xb 3 35,(4,.v (.akJ 149 35)),aT 13 gv,aT 14 Z0,aT 15 Z0] [X4 35]) [fq 0 35 [Xb 3 35] [X4 35]] (acX n),trivial⟩
def s72(p:bZ×aZ)(t:cn×Z5×Z5)(a:Int):=(vm n p t).bind λ x=>(H2 n a 2 50).bind λ c=>(vk n c 2).bind λ d=>(C5 n ([x.2,d]:List Int)).bind λ b=>bif b !=0 then some b else(alf n t.2.1 (λ h=>FQ n h a)).bind λ e=>(JZ n x.1).bind λ f=>(NL f a).bind λ r=>(vk n ((r==0)&&e) 20).bind λ g=>some g
def e87:=(e86 n).B 72 [qG,gS,Z0] [Z0] λ x y=>s72 n x.1 x.2.1 x.2.2
theorem h87:Eo (e87 n):=dw a1 (h86 n) func72
def s73(p:bZ×aZ)(t:cn×Z5×Z5):Option dy:=(vm n p t).bind λ x=>bif x.2 !=0 then some (0,x.2)else(JZ n x.1).bind λ a=>some (a,0)
def e88:=(e87 n).B 73 [qG,gS] [Z0,Z0] λ x y=>s73 n x.1 x.2
theorem h88:Eo (e88 n):=dw a1 (h87 n) func73
def amt(n:Nat)(a:Int):=some (U1 a (u0 .i64 (0- a)))
def e89:=(e88 n).B 150 [Z0] [Z0] λ x y=>amt n x
theorem h89:Eo (e89 n):=dw a1 (h88 n) func150
def am8(n:Nat):o4 (Int×Int×Unit) (Int×Unit) Int:=λ(a,b,_) again (k0,_)=>bif b !=0 then(NL a b).bind λ r=>again (b,r,())else k0 (a,())
def ai4(a b:Int):=cq (am8 n) n (a,b,()) (λ(c,_)=>(amt n c).bind λ x=>some x,())
def e90:=(e89 n).B 128 [Z0,Z0] [Z0] λ x y=>ai4 n x.1 x.2
theorem h90:Eo (e90 n):=gD a1 (h89 n) func128 (O:= [_]) ⟨gh n (h89 n) (eN 13 [aT 0 Z0,aT 1 Z0] []) [fq 0 13 [aT 0 Z0] []] (am8 n),trivial⟩
def aob:o4 (Int×Int×bZ×aZ×Z5×Z5×Z5×Z5×Unit) (Int×Unit) Int:=λ(g,i,p,b,t,c,d,f,_) again (k0,_)=>bif decide (i< (fV p:Int))then(aG p i).bind λ e=>(ai4 n g e.2).bind λ x=>(aG t i).bind λ a=>(ai4 n x a).bind λ h=>again (h,(u0 .i64 (i+1)),p,b,t,c,d,f,())else k0 (g,())
def s76(p:bZ×aZ)(t:cn×Z5×Z5):=cq (aob n) n (0,0,p.1,p.2,t.1.1,t.1.2,t.2.1,t.2.2,()) (λ(a,_)=>some a,())
def e91:=(e90 n).B 76 [qG,gS] [Z0] λ x y=>s76 n x.1 x.2
theorem h91:Eo (e91 n):=gD a1 (h90 n) func76 (O:= [_]) ⟨gh n (h90 n) (eN 30 [Xb 2 30,Xb 3 31,aT 5 Z0,aT 6 Z0] [X0 30,X2 31]) [fq 0 30 [aT 5 Z0] []] (aob n),trivial⟩
def aos(n:Nat):b7 (Int×Int×Z5×Z5×Z5×Z5×Unit) Unit (Int×Unit) Int:=λ(b,i,t,d,a,f,_) again (k0,k1,_)=>bif decide (i< (fV a:Int))then(aG a i).bind λ e=>(bI (e !=(-1)) (aG a i) 0).bind λ c=>(bI (e !=(-1)) (NL c b) 0).bind λ r=>bif (e !=(-1))&& (r !=0)then k1 (0,())else again (b,(u0 .i64 (i+1)),t,d,a,f,())else k0 ()
def s75(p:bZ×aZ)(t:cn×Z5×Z5)(a:Int):=(qg n a 2 50).bind λ x=>bif !x then some 2 else(s76 n p t).bind λ c=>(NL c a).bind λ r=>bif r !=0 then some 20 else cq (aos n) n (a,0,t.1.1,t.1.2,t.2.1,t.2.2,()) (λ(_)=>some 20,λ(b,_)=>some b,())
def e92:=(e91 n).B 75 [qG,gS,Z0] [Z0] λ x y=>s75 n x.1 x.2.1 x.2.2
theorem h92:Eo (e92 n):=gD a1 (h91 n) func75 (O:= [_]) ⟨gh n (h91 n) (eN 40 [aT 2 Z0,Xb 4 40,aT 7 Z0] [X2 40]) [fq 0 40 [] [],fw 40 [aT 6 Z0] []] (aos n),trivial⟩
def s65(p:bZ×aZ)(t:cn×Z5×Z5)(l:List dy):=(s51 n p t.1 l).bind λ x=>bif x.2.2 !=0 then some x.2.2 else(wS n t x.1).bind λ a=>bif !a then some 20 else some 0
def e93:=(e92 n).B 65 [qG,gS,dK] [Z0] λ x y=>s65 n x.1 x.2.1 x.2.2
theorem h93:Eo (e93 n):=dw a1 (h92 n) func65
def akr:b7 (QG×Int×Z5×Z5×Unit) Unit (Bool×Unit) Bool:=λ(l,i,s,a,_) again (k0,k1,_)=>bif decide (i< (fV l:Int))then(aG l i).bind λ e=>(Mn n e (s,a)).bind λ x=>bif x then k1 (true,())else again (l,(u0 .i64 (i+1)),s,a,())else k0 ()
def agO(l:List cn)(s:Z5×Z5):=cq (akr n) n (l,0,s.1,s.2,()) (λ(_)=>some false,λ(a,_)=>some a,())
def e94:=(e93 n).B 121 [EM,BW] [.aO] λ x y=>agO n x.1 x.2
theorem h94:Eo (e94 n):=gD a1 (h93 n) func121 (O:= [_]) ⟨gh n (h93 n) (eN 18 [aT 0 EM,Xb 3 18,aT 5 Z0] [X1 18]) [fq 0 18 [] [],fw 18 [aT 4 .aO] []] (akr n),trivial⟩
def ZE:b7 (QG×aZ×Int×bZ×aZ×Z5×Z5×Unit) Unit (Bool×Unit) Bool:=λ(l,m,i,p,a,s,b,_) again (k0,k1,_)=>bif decide (i< (fV m:Int))then(aG m i).bind λ e=>(K9 n (p,a) (s,b) e).bind λ x=>(agO n l x).bind λ c=>bif !c then k1 (false,())else again (l,m,(u0 .i64 (i+1)),p,a,s,b,())else k0 ()
def ak3(p:bZ×aZ)(s:Z5×Z5)(l:List cn):=(za n p s).bind λ x=>cq (ZE n) n (l,x,0,p.1,p.2,s.1,s.2,()) (λ(_)=>some true,λ(a,_)=>some a,())
def e95:=(e94 n).B 122 [qG,BW,EM] [.aO] λ x y=>ak3 n x.1 x.2.1 x.2.2
theorem h95:Eo (e95 n):=gD a1 (h94 n) func122 (O:= [_]) ⟨gh n (h94 n) (eN 28 [aT 2 EM,Xb 3 28,Xb 4 29,aT 7 dK,aT 8 Z0] [X0 28,X1 29]) [fq 0 28 [] [],fw 28 [aT 6 .aO] []] (ZE n),trivial⟩
def ace:o4 (uf×Int×Int×qZ×Int×Int×bZ×aZ×qE×QG×Unit) (uf×Int×Int×bZ×aZ×qE×QG×Unit) Z59:=λ(d,f,g,h,i,a,b,c,out,l,_) again (k0,_)=>bif decide (a<i)then(aG h a).bind λ e=>(IY n (b,c)).bind λ x=>(yw n e x).bind λ j=>(jk (fV l+fV ([j]:List cn))).bind λ u=>again (d,f,g,h,i,(u0 .i64 (a+1)),b,c,out,(l++ ([j]:List cn)),())else k0 (d,f,g,b,c,out,l,())
def K8:o4 (uf×Int×Int×bZ×aZ×qE×Unit) (qE×Unit) Z59:=λ(d,f,a,j,k,out,_) again (k0,_)=>bif decide (a<f)then(aG d a).bind λ e=>cq (ace n) n (d,f,a,e,(fV e:Int),0,j,k,out,([]:List cn),()) (λ(g,h,i,l,m,c,b,_)=>(jk (fV c+fV ([b]:List QG))).bind λ o=>again (g,h,(u0 .i64 (i+1)),l,m,(c++ ([b]:List QG)),()),())else k0 (out,())
def K4(p:bZ×aZ)(s:Z5×Z5):Option Z59:=(Ij n p s).bind λ x=>bif x.2.2 !=0 then some (([]:List QG),x.2.2)else(Qs n x.1 x.2.1).bind λ a=>bif !a.2 then some (([]:List QG),8)else a.1.bind λ b=>cq (K8 n) n (b.2,(fV b.2:Int),0,x.1.1,x.1.2,([]:List QG),()) (λ(c,_)=>some (c,0),())
def Tg:=(e95 n).B 69 [qG,BW] [Iq,Z0] λ x y=>K4 n x.1 x.2
theorem h96:Eo (Tg n):=gD a1 (h95 n) func69 (O:= [_]) ⟨B8 n (h95 n) (eN 64 [Xb 6 64,(11,.v (.iR 65)),aT 38 fH,aT 39 Z0,aT 40 Z0] [X0 64,(65,.jH EM)]) [fq 0 64 [(11,.v (.iR 64))] [(64,.jH EM)]] (K8 n) (O:= [_]) ⟨gh n (h95 n) (eN 64 [Xb 6 64,(11,.v (.iR 65)),(14,.v (.iR 66)),aT 38 fH,aT 39 Z0,aT 40 Z0,aT 44 Lb,aT 45 Z0,aT 46 Z0] [X0 64,(65,.jH EM),(66,.jH BW)]) [fq 2 64 [Xb 6 64,(11,.v (.iR 65)),(14,.v (.iR 66)),aT 38 fH,aT 39 Z0,aT 40 Z0] [X0 64,(65,.jH EM),(66,.jH BW)]] (ace n),trivial⟩,trivial⟩
def e97:=(Tg n).e 129 (alM n)
theorem h97:Eo (e97 n):=alU (h96 n) (anU n)
def e98:=(e97 n).e 130 (alT n)
theorem h98:Eo (e98 n):=alU (h97 n) (aot n)
def aao(n:Nat):o4 (Int×Z5×JO×Unit) (Z5×Unit) Z69:=λ(a,out,it,_) again (k0,_)=>aag it (λ z b=>(cQ a 6).bind λ u=>(aG [z.1.1.1,z.1.1.2.1,z.1.1.2.2.1,z.1.1.2.2.2.1,z.1.1.2.2.2.2.1,z.1.1.2.2.2.2.2] a).bind λ x=>(jk (fV out+fV ([x]:List Int))).bind λ c=>again (a,(out++ ([x]:List Int)),b,())) (k0 (out,()))
def Gw(p:bZ×aZ)(s:Z5×Z5)(a:Int):Option Z69:=(Ij n p s).bind λ x=>(H2 n a 0 (u0 .i64 ((fV p.1:Int)- 1))).bind λ f=>(vk n f 6).bind λ g=>(C5 n ([x.2.2,g]:List Int)).bind λ b=>bif b !=0 then some (([]:List Int),b)else(Qs n x.1 x.2.1).bind λ c=>bif !c.2 then some (([]:List Int),8)else c.1.bind λ h=>cq (aao n) n (a,([]:List Int),h.1,()) (λ(e,_)=>(z7 n e).bind λ l=>(zZ n l).bind λ d=>some (d,0),())
def ko:=(e98 n).B 77 [qG,BW,Z0] [Z4,Z0] λ x y=>Gw n x.1 x.2.1 x.2.2
theorem NT:Eo (ko n):=gD a1 (h98 n) func77 (O:= [_]) ⟨gh n (h98 n) (eN 63 [aT 2 Z0,(13,.v (.iR 63)),(47,.v (.iR 64))] [(63,.jH Z0),(64,.it fh um)]) [fq 0 63 [(13,.v (.iR 63))] [(63,.jH Z0)]] (aao n),trivial⟩
def FU:b7 (Int×qE×Int×Int×bZ×aZ×Z5×Z5×Z5×Z5×QG×Unit) (Int×Int×bZ×aZ×Z5×Z5×Z5×Z5×QG×Unit) (Bool×Unit) Bool:=λ(e,a,g,i,p,b,t,c,d,f,all,_) again (k0,k1,_)=>bif decide (i< (fV a:Int))then(aG a i).bind λ h=>(HY n h).bind λ x=>(jk (fV all+fV x)).bind λ u=>bif decide (((fV (all++x):Nat):Int)>4000)then k1 (false,())else again (e,a,g,(u0 .i64 (i+1)),p,b,t,c,d,f,(all++x),())else k0 (e,g,p,b,t,c,d,f,all,())
def GY(n:Nat):b7 (J3 (Z5×Int×bZ×aZ×Z5×Z5×Z5×Z5×QG×Unit)) (J3 (bZ×aZ×Z5×Z5×Z5×Z5×QG×Unit)) (Bool×Unit) Bool:=λ(e,g,i,l,m,p,a,t,b,c,d,all,_) again (k0,k1,_)=>bif decide (m< (fV l:Int))then(aG l m).bind λ f=>(NL f g).bind λ r=>bif r !=0 then k1 (false,())else again (e,g,i,l,(u0 .i64 (m+1)),p,a,t,b,c,d,all,())else k0 (e,g,i,p,a,t,b,c,d,all,())
def Cv:b7 (J3 (bZ×aZ×Z5×Z5×Z5×Z5×QG×Unit)) (Int×Int×bZ×aZ×Z5×Z5×Z5×Z5×QG×Unit) (Bool×Unit) Bool:=λ(e,g,i,p,a,t,b,c,d,all,_) again (k0,k1,_)=>bif decide (i< (fV p:Int))then(wL n (p,a)).bind λ x=>(th n (t,b)).bind λ w=>(Gw n x w i).bind λ f=>bif f.2 !=0 then k1 (false,())else cq (GY n) n (e,g,i,f.1,0,p,a,t,b,c,d,all,()) (λ(j,k,l,m,o,u,v,r,s,h,_)=>again (j,k,(u0 .i64 (l+1)),m,o,u,v,r,s,h,()),λ(q,_)=>k1 (q,()),())else k0 (e,g,p,a,t,b,c,d,all,())
def s15(p:bZ×aZ)(t:cn×Z5×Z5):=(FJ n).bind λ x=>bif !x then some false else(xB n p).bind λ c=>(bI (!(!c)) (zS n t) false).bind λ m=>(bI (!((!c)|| (!m))) (AT n p t) 0).bind λ M=>bif ((!c)|| (!m))|| (M !=0)then some true else(wL n p).bind λ N=>(xf n t).bind λ O=>(OD n N O).bind λ b=>(wL n p).bind λ P=>(th n t.1).bind λ Q=>(K4 n P Q).bind λ e=>(wL n p).bind λ E=>(xf n t).bind λ F=>(s73 n E F).bind λ d=>bif e.2 !=0 then some ((e.2==8)&& (b.2==8))else bif (((b.2 !=0)&& (b.2 !=12))|| (d.2 !=0))|| (decide (d.1<1))then some false else cq (FU n) n (b.2,e.1,d.1,0,p.1,p.2,t.1.1,t.1.2,t.2.1,t.2.2,([]:List cn),()) (λ(q,s,v,w,A,B,C,D,o,_)=>cq (Cv n) n (q,s,0,v,w,A,B,C,D,o,()) (λ(r,u,g,h,i,j,k,l,f,_)=>(wL n (g,h)).bind λ G=>(xf n ((i,j),k,l)).bind λ H=>(HY n f).bind λ I=>(s70 n G H I).bind λ a=>(wL n (g,h)).bind λ J=>(xf n ((i,j),k,l)).bind λ K=>(s72 n J K u).bind λ L=>bif r==12 then some ((a.2==0)&& (a.1==(fV f:Int)))else some (((a.2==20)&& (a.1==0))&& (L !=0)),λ(y,_)=>some y,()),λ(z,_)=>some z,())
def agV:cf:= ⟨167,[Z0,Z0,Z0,Z4,Z0,gv,dK,Z4,Z4,Z4,Z4,EM],[Xb 2 167,Xb 3 168,(6,.v (.aj Z0)),(9,.v (.aj Z0)),(11,.v (.iR 169)),(13,.v (.aj Z0)),(14,.v (.aj Z4)),(16,.v (.aj Z0))],[X0 167,X2 168,(169,.jH BW)],[]⟩
def an6:List (dN×cf):= [(.ou 4,⟨167,[Z0,Z0,Z0,gv,dK,Z4,Z4,Z4,Z4,EM],[Xb 2 167,Xb 3 168,(6,.v (.aj Z0)),(9,.v (.aj Z0)),(11,.v (.iR 169)),(13,.v (.aj Z0))],[X0 167,X2 168,(169,.jH BW)],[]⟩),(.sT,⟨167,[.aO],[(4,.v (.aj .aO))],[],[]⟩)]
def akk:Ev (ax [.aO]):=mG n (ko n) agV an6 (GY n)
theorem aqd d again ks:dv (R:=(ax [.aO])) (ko n) (bT.b (R:=(ax [.aO]))) (iw (lp (iw (lp (bd f15) 1)) 0)) [] (mk agV d) (mL (ko n) agV an6 again ks)=GY n d again ks:=by kernel_rfl
theorem apr:eS a1.Q (bT.b (R:=(ax [.aO]))) false (lp (iw (lp (bd f15) 1)) 0) (akk n):=rk (NT n) a1.b (by kernel_rfl) (O:= []) trivial (aqd n)
def ahc:cf:= ⟨167,[Z0,Iq,Z0,Z0,gv,dK,Z4,Z4,Z4,Z4,EM],[Xb 2 167,Xb 3 168,(6,.v (.aj Z0)),(7,.v (.aj Iq)),(9,.v (.aj Z0)),(11,.v (.iR 169)),(12,.v (.aj Z0))],[X0 167,X2 168,(169,.jH BW)],[]⟩
def anQ:List (dN×cf):= [(.ou 0,⟨167,[Z0,Z0,gv,dK,Z4,Z4,Z4,Z4,EM],[Xb 2 167,Xb 3 168,(6,.v (.aj Z0)),(9,.v (.aj Z0)),(11,.v (.iR 169))],[X0 167,X2 168,(169,.jH BW)],[]⟩),(.sT,⟨167,[.aO],[(4,.v (.aj .aO))],[],[]⟩)]
def ahZ:Ev (ax [.aO]):=mG n (ko n) ahc anQ (FU n)
theorem aqr d again ks:dv (R:=(ax [.aO])) (ko n) (bT.b (R:=(ax [.aO]))) (iw (lp (bd f15) 0)) [] (mk ahc d) (mL (ko n) ahc anQ again ks)=FU n d again ks:=by kernel_rfl
theorem aqu:eS a1.Q (bT.b (R:=(ax [.aO]))) false (lp (bd f15) 0) (ahZ n):=rk (NT n) a1.b (by kernel_rfl) (O:= []) trivial (aqr n)
def akO:cf:= ⟨167,[Z0,Z0,Z0,gv,dK,Z4,Z4,Z4,Z4,EM],[Xb 2 167,Xb 3 168,(6,.v (.aj Z0)),(9,.v (.aj Z0)),(11,.v (.iR 169)),(13,.v (.aj Z0))],[X0 167,X2 168,(169,.jH BW)],[]⟩
def amk:List (dN×cf):= [(.ou 2,⟨167,[Z0,Z0,gv,dK,Z4,Z4,Z4,Z4,EM],[Xb 2 167,Xb 3 168,(6,.v (.aj Z0)),(9,.v (.aj Z0)),(11,.v (.iR 169))],[X0 167,X2 168,(169,.jH BW)],[]⟩),(.sT,⟨167,[.aO],[(4,.v (.aj .aO))],[],[]⟩)]
def akV:Ev (ax [.aO]):=mG n (ko n) akO amk (Cv n)
theorem aqa d again ks:dv (R:=(ax [.aO])) (ko n) (bT.b (R:=(ax [.aO]))) (iw (lp (bd f15) 1)) [akk n] (mk akO d) (mL (ko n) akO amk again ks)=Cv n d again ks:=by kernel_rfl
theorem aqC:eS a1.Q (bT.b (R:=(ax [.aO]))) false (lp (bd f15) 1) (akV n):=rk (NT n) a1.b (by kernel_rfl) (O:= [akk n]) ⟨apr n,trivial⟩ (aqa n)
def SL:fc:= ⟨[qG,gS],[],[.aO],λ x y=>s15 n x.1 x.2,false⟩
theorem ap5(x)(y):oI (ko n) f15 [qG,gS] [] [.aO] false [ahZ n,akV n] x y=(SL n).g x y:=by kernel_rfl
theorem alB:jf a1.Q 15 (SL n):=xz (NT n) a1.b (a1.a func15 (by kernel_rfl) (by decide)) (by kernel_rfl) (by kernel_rfl) (O:= [ahZ n,akV n]) ⟨aqu n,aqC n,trivial⟩ (ap5 n)
end
end
theorem acS(m):FJ (m+2000)=some true:=by kernel_rfl
section
local instance:Dr:= ⟨false⟩
abbrev wO:=List UInt8
abbrev Vs:=wO×Int
abbrev Pl:=List Vs×List (Int×Int)
abbrev St:=List Int×List Int
abbrev Tk:=St×St
def jh(l:List Int):=(l.find? λ e=>e !=0).getD 0
def ia(b:Bool)(e:Int):=bif b then 0 else e
def cy(x lo a:Int):=decide (lo<=x)&&decide (x<=a)
theorem tP(n)(b)(e):vk n b e=some (ia b e):=by cases b<;>rfl
theorem Ra(n)(x lo a):H2 n x lo a=some (cy x lo a):=rfl
theorem EO(n)(x lo a):qg n x lo a=some (cy x lo a):=rfl
theorem afC(n)(x):EJ n x=some (cy x 1 50):=rfl
theorem Pt(n)(x):Dy n x=some (cy x 0 3):=rfl
theorem jv{α}(b)(x d:α):bI b (some x) d=some (bif b then x else d):=by cases b<;>rfl
theorem OH{n}(l)(a:l.length<n)(b:l.length<=vj):C5 n l=some (jh l):=by refine iy (n:=n) l (λ i=>(l,((fV l):Int),(i:Int),())) (λ i r=>some (jh r)) b ?_ ?_ a;all_goals grind[h1,h2,h5,h6,Hv,jh]
theorem BO{n}(c:1000<=n)(a b):C5 n [a,b]=some (jh [a,b]):=OH _ (by simp;omega) (by simp[vj])
theorem QD{n}(d:1000<=n)(a b c):C5 n [a,b,c]=some (jh [a,b,c]):=OH _ (by simp;omega) (by simp[vj])
def AJ(b:Bool)(c:Int):=(!(((decide (c>=97))&& (decide (c<=122)))|| ((decide (c>=65))&& (decide (c<=90)))))&& (b|| ((c !=45)&& ((decide (c<48))|| (decide (c>57)))))
def xo:Bool->wO->Bool|_,[]=>true|b,c::r=>!AJ b ((vi c:Nat):Int)&&xo false r
def rQ(s:wO):=(decide (1<=s.length)&&decide (s.length<=12))&&xo true s
theorem FK(i:Nat):((i:Int)==(0:Int))=decide (i=0):=by grind
theorem VF{n}(d:1000<=n)(s:wO):EH n s=some (rQ s):=by
 unfold EH rQ;by_cases a:1<=s.length
 ·by_cases b:s.length<=12
  ·rw[(decide_eq_false (by omega)),(decide_eq_false (by omega)),decide_eq_true a,decide_eq_true b];have:=iy (n:=n) (body:=yx n) (ks:=(λ(_)=>some (true),λ(c,_)=>some (c),())) s (λ i=>(s,(i:Int),())) (λ i r=>some (xo (decide (i=0)) r)) (by unfold vj;omega) ?_ ?_ (by omega);all_goals grind[AJ,decide,vi,FK,yx,xo]
  grind
 grind
theorem acJ{n}(s:wO)(f:s.length<n)(d:s.length<=vj):B9 n s=some (rQ s):=by
 unfold B9 rQ;have t:kv s=s.map λ c=>((vi c:Nat):Int):=rfl;have u:(kv s).length=s.length:=by grind
 have:=iy (n:=n) (body:=yM n) (ks:=(λ(b,_)=>some ((((b:List UInt8) != [])&& (decide (((fV b:Nat):Int)<=(12:Int))))),λ(g,_)=>some (g),())) s (λ i=>(s,kv s,((fV (kv s):Nat):Int),(i:Int),())) (λ i r=>some (xo (decide (i=0)) r&& (((s:List UInt8) != [])&& (decide (((fV s:Nat):Int)<=(12:Int)))))) d ?_ ?_ f;grind[decide];intro i x r h j k l o q again v;have m:aG (kv s) (i:Int)=some ((vi x:Nat):Int):=by grind[oR]
 have p:decide ((i:Int)< ((fV (kv s):Nat):Int))=true:=by grind
 have e:AJ (decide (i=0)) ((vi x:Nat):Int)=((!(((decide (((vi x:Nat):Int)>=(97:Int)))&& (decide (((vi x:Nat):Int)<=(122:Int))))|| ((decide (((vi x:Nat):Int)>=(65:Int)))&& (decide (((vi x:Nat):Int)<=(90:Int))))))&& (((i:Int)==(0:Int))|| ((((vi x:Nat):Int) !=(45:Int))&& ((decide (((vi x:Nat):Int)< (48:Int)))|| (decide (((vi x:Nat):Int)>(57:Int))))))):=by rw[FK];rfl
 grind[yM,xo,AJ,decide,vi];intro a again;have a':decide ((s.length:Int)< ((fV (kv s):Nat):Int))=false:=by grind
 simp only[yM,a',cond_false];rfl
theorem ahd{n}(l:List Vs)(name:wO)(a:l.length<n)(b:l.length<=vj):∃q,vV n l name=some q/\decide (q<0)=!(l.any λ x=>x.1==name):=by
 have:=iy (n:=n) (body:=xO n) (ks:=(λ(_)=>some ((-1:Int)),λ(c,_)=>some (c),())) l (λ i=>(l,(λ d=>some (d.1==name)),((fV l:Nat):Int),(i:Int),())) (λ i r=>some (match r.findIdx? λ x=>x.1==name with|some k=>((i+k:Nat):Int)|none=> -1)) b ?_ ?_ a;refine⟨match l.findIdx? λ x=>x.1==name with|some k=>((0+k:Nat))|none=> -1,?_,?_⟩;simp_all[vV,IH,Jr];grind;all_goals grind[h1,h2,h5,h6,xO]
theorem V1{n}(l:List (Int×Int))(v)(a:l.length<n)(b:l.length<=vj):∃q,yf n l v=some q/\(decide (q>=0))=decide (v∈l):=by
 unfold yf;have:=iy (n:=n) (body:=yp n) (ks:=(λ(_)=>some ((-1:Int)),λ(c,_)=>some (c),())) l (λ i=>(l,((fV l:Nat):Int),(i:Int),v.1,v.2,())) (λ i r=>some (match r.findIdx? λ e=>e==v with|some k=>((i+k:Nat):Int)|none=> -1)) b ?_ ?_ a;all_goals grind[h1,h2,h5,h6,yp]
theorem afi{n}(l:List (Int×Int))(v)(a:l.length<n)(b:l.length<=vj):BY n l v=some (decide (v∈l)):=by have⟨q,c,d⟩:=V1 l v a b;grind[BY]
def wi(pre:List Vs)(v:Vs):=jh [ia (rQ v.1) 4,ia (!(pre.any λ x=>x.1==v.1)) 5,ia (cy v.2 1 50) 2]
def ix:Nat->List Vs->List Vs->Int×Int|_,_,[]=>(0,0)|i,pre,v::r=>bif wi pre v==0 then ix (i+1) (pre++ [v]) r else((i:Int),wi pre v)
def sx(m:Int)(pre:List (Int×Int))(h:Int×Int):=jh [ia (cy h.1 0 (m- 1)&&cy h.2 0 (m- 1)) 6,ia (h.1 !=h.2) 11,ia (!(decide (h∈pre))) 26]
def iq(m:Int):Nat->List (Int×Int)->List (Int×Int)->Int×Int|_,_,[]=>(0,0)|i,pre,h::r=>bif sx m pre h==0 then iq m (i+1) (pre++ [h]) r else((i:Int),sx m pre h)
def mQ(p:Pl):=bif decide (p.1.length=0)then(0,10)else bif decide (6<p.1.length)then(0,8)else bif (ix 0 [] p.1).2==0 then(bif decide (30<p.2.length)then(0,8)else iq p.1.length 0 [] p.2)else ix 0 [] p.1
structure jg(p:Pl):Prop where
 v:p.1.length<=8
 h:p.2.length<=32
 n:∀v∈p.1,v.1.length<=20
theorem fE3(a b c):jh [a,b,c]=bif a !=0 then a else bif b !=0 then b else c:=by grind[jh]
theorem BP(a b):jh [a,b]=bif a !=0 then a else b:=by grind[jh]
theorem Hh(m):(l:List (Int×Int))->(i:Nat)->(pre:List (Int×Int))->((iq m i pre l).2==0)=true->iq m i pre l=(0,0)
 | [],_,_,_=>rfl|v::r,i,pre,h=>by simp only[iq]at h⊢;cases a:(sx m pre v==0);grind;rw[a]at h;exact Hh m r _ _ h
theorem BD{α:Type}{l:List α}{i x}(h:l[i]?=some x):l.take (i+1)=l.take i++ [x]:=by grind[List.take_add_one]
theorem SF{α:Type}{l:List α}(h:l.length<=1000):u0 .i64 (((fV l:Nat):Int)- 1)=(l.length:Int)- 1:=by rw[nu]<;>omega
theorem i2(a b:Int):aG [a,b] 0=some a/\aG [a,b] 1=some b:= ⟨rfl,rfl⟩
theorem r2:cQ (0:Int) 2=some ()/\cQ (1:Int) 2=some ():= ⟨rfl,rfl⟩
theorem aiO{n}(e:1000<=n){p}(hp:jg p)(k0:List Vs×List (Int×Int)×Unit->Option (Int×Int))(k1:Int×Int×Unit->Option (Int×Int)):cq (Au n) n (p.1,((fV p.1:Nat):Int),(0:Int),p.1,p.2,()) (k0,k1,())=bif (ix 0 [] p.1).2==0 then k0 (p.1,p.2,())else k1 ((ix 0 [] p.1).1,(ix 0 [] p.1).2,()):=by have k:=hp.v;refine iy _ (λ i=>(p.1,((fV _):Int),(i:Int),p.1,p.2,())) (λ i r=>bif (ix i (p.1.take i) r).2==0 then k0 _ else k1 ((ix i (p.1.take i) r).1,(ix i (p.1.take i) r).2,())) (by unfold vj;omega) ?_ ?_ (by omega);intro i x r h a j b c d again m;have l:=hp.n x (vo a);have⟨q,f,g⟩:=ahd (n:=n) (p.1.take i) x.1 (by grind) (by simp[vj];omega);simp[Au,c,cond_true,b,k9,d,xV p.1 i (by omega),acJ (n:=n) x.1 (by omega) (by unfold vj;omega),tP,f,g,afC,QD e];grind[wi,ix];grind[Au,ix]
theorem ab7{n}(e:1000<=n){p}(hp:jg p)(k0:Unit->Option (Int×Int))(k1:Int×Int×Unit->Option (Int×Int)):cq (Ag n) n (p,(λ f=>vO n f p),p.2,((fV p.2:Nat):Int),(0:Int),()) (k0,k1,())=bif (iq p.1.length 0 [] p.2).2==0 then k0 ()else k1 ((iq p.1.length 0 [] p.2).1,(iq p.1.length 0 [] p.2).2,()):=by
 have k:=hp.h;have l:=hp.v;have a:∀z,vO n z p=some (cy z 0 ((p.1.length:Int)- 1)):=λ z=>by show(H2 n z 0 (u0 _ (((fV p.1))- 1))).bind _=_;rw[SF (by omega)];rfl
 rw[(funext a)];refine iy _ (λ i=>(p,(λ z=>some (cy z 0 _)),p.2,((fV _):Int),(i:Int),())) (λ i r=>bif (iq _ i (p.2.take i) r).2==0 then k0 _ else k1 ((iq _ i (p.2.take i) r).1,(iq _ i (p.2.take i) r).2,())) (by unfold vj;omega) ?_ ?_ (by omega);intro i x r g h j b c d again m;simp[Ag,c,cond_true,b,k9,d,r2.1,r2.2,(i2 x.1 x.2).1,(i2 x.1 x.2).2,jv,tP,xV p.2 i (by omega),afi (n:=n) (p.2.take i) x (by grind) (by simp[vj];omega),QD e];grind[sx,iq];grind[Ag,iq]
theorem gt0(m:Nat):decide ((m:Int)>(0:Int))=!decide (m=0):=by grind
theorem YO(m k:Nat):decide ((m:Int)<=(k:Int))=!decide (k<m):=by grind
theorem Ig(m k:Nat):decide ((m:Int)>(k:Int))=decide (k<m):=by simp
theorem Ym{n}(a:1000<=n){p}(hp:jg p):xg n p=some (mQ p):=by unfold xg mQ;rw[tP,k9,tP,k9,BO a,k9,gt0,show decide (p.1.length<=(6:Int))=!decide _ from YO _ 6];cases h0:decide (p.1.length=0)with|true=>rfl|false=>cases b:decide (6<p.1.length)with|true=>rfl|false=>simp[vL,ia,cond_true,cond_false];grind[jh,bne_self_eq_false,aiO,ix,decide,fV,Ig,FF,ab7,iq,Hh]
theorem Km{D a R body}{ks:a}{α n}(l)(i)(c:i<=l.length)(f:α->Bool)(F:Nat->D)(yes no:Option R)(d:i<=vj)(g:i<n) (h:∀k x,k<i->l[k]?=some x->decide ((k:Int)< (i:Int))=true->u0 .i64 ((k:Int)+1)=((k+1:Nat):Int)->aG l (k:Int)=some x->∀again,body (F k) again ks=bif f x then yes else again (F (k+1))) (b:decide ((i:Int)< (i:Int))=false->∀again,body (F i) again ks=no):cq body n (F 0) ks=bif (l.take i).any f then yes else no:=by
 have e:(l.take i).length=i:=by grind
 have:=iy (n:=n) (body:=body) (ks:=ks) (l.take i) F (λ _ r=>bif r.any f then yes else no) (by omega) ?_ ?_ (by omega);all_goals grind[h1,h2,h5,h6,oR]
theorem air{n}(e:1000<=n){p}(hp:jg p)(k0:List Vs×List (Int×Int)×Unit->Option (Int×Int))(k1:Int×Int×Unit->Option (Int×Int)):cq (yU n) n ((0:Int),p.1,p.2,()) (k0,k1,())=bif (ix 0 [] p.1).2==0 then k0 (p.1,p.2,())else k1 ((ix 0 [] p.1).1,(ix 0 [] p.1).2,()):=by
 have u:=hp.v;refine iy _ (λ i=>((i:Int),p.1,p.2,())) (λ i r=>bif (ix i (p.1.take i) r).2==0 then k0 _ else k1 ((ix i (p.1.take i) r).1,(ix i (p.1.take i) r).2,())) (by unfold vj;omega) ?_ ?_ (by omega);intro i x r m o q c d s again v;simp only[yU,d,cond_true,c,k9,VF e];simp[ix];have a:wi (p.1.take i) x=bif !rQ x.1 then 4 else bif (p.1.take i).any λ y=>y.1==x.1 then 5 else bif !cy x.2 1 50 then 2 else 0:=by unfold wi;cases rQ x.1<;>cases(p.1.take i).any (λ y=>y.1==x.1)<;>cases cy x.2 1 50<;>rfl
 rw[a];cases t:rQ _ with
 |false=>rfl|true=>simp[u2,cond_false];refine(Km (n:=n) (body:=Ak n) p.1 i (by omega) (λ y=>y.1==x.1) (λ k=>(i,k,p.1,p.2,())) (k1 (i,5,())) (bif !cy x.2 1 50 then k1 (i,2,())else again (((i+1:Nat)),p.1,p.2,())) (by unfold vj;omega) (by omega) (λ k y f g h j l again=>by grind[Ak]) (λ b again=>by grind[Ak,EO])).trans ?_;grind
 grind[yU,ix]
theorem adi{n}(B:1000<=n){p}(hp:jg p)(k0:Unit->Option (Int×Int))(k1:Int×Int×Unit->Option (Int×Int)):cq (zm n) n ((0:Int),p.1,p.2,()) (k0,k1,())=bif (iq p.1.length 0 [] p.2).2==0 then k0 ()else k1 ((iq p.1.length 0 [] p.2).1,(iq p.1.length 0 [] p.2).2,()):=by
 have w:=hp.h;have C:=hp.v;refine iy _ (λ i=>((i:Int),p.1,p.2,())) (λ i r=>bif (iq _ i (p.2.take i) r).2==0 then k0 _ else k1 ((iq _ i (p.2.take i) r).1,(iq _ i (p.2.take i) r).2,())) (by unfold vj;omega) ?_ ?_ (by omega);intro i x r q s t e f u again D;have c:∀z,zF n p z=some (cy z 0 ((p.1.length:Int)- 1)):=λ z=>by show(qg n z 0 (u0 _ (((fV p.1))- 1))).bind _=_;rw[SF (by omega)];rfl
 simp only[zm,f,cond_true,e,k9,r2.1,r2.2,(i2 x.1 x.2).1,(i2 x.1 x.2).2,c,jv];simp only[iq];have g:((p.2.take i).any λ y=>y.1==x.1&&y.2==x.2)=decide (x∈p.2.take i):=by grind
 have d:sx p.1.length (p.2.take i) x=bif !(cy x.1 0 ((p.1.length:Int)- 1))||!(cy x.2 0 ((p.1.length:Int)- 1))then 6 else bif x.1==x.2 then 11 else bif (p.2.take i).any λ y=>y.1==x.1&&y.2==x.2 then 26 else 0:=by unfold sx;rw[fE3,g];simp[bne];cases cy x.1 0 ((p.1.length:Int)- 1)<;>cases cy x.2 0 ((p.1.length:Int)- 1)<;>cases(x.1==x.2)<;>cases decide (x∈p.2.take i)<;>rfl
 rw[d];have a:((!(cy x.1 0 ((p.1.length:Int)- 1)))||!(bif !(!(cy x.1 0 ((p.1.length:Int)- 1)))then cy (bif !(!(cy x.1 0 ((p.1.length:Int)- 1)))then x.2 else 0) 0 ((p.1.length:Int)- 1)else false))=(!(cy x.1 0 ((p.1.length:Int)- 1))||!(cy x.2 0 ((p.1.length:Int)- 1))):=by grind
 rw[a];cases A:(!(cy _ 0 _)||!(cy _ 0 _))with
 |true=>rfl|false=>simp[cond_false];cases v:(x.1==x.2)with|true=>rfl|false=>
   simp[cond_false];refine(Km (n:=n) (body:=yj n) p.2 i (by omega) (λ y=>y.1==x.1&&y.2==x.2) (λ k=>(i,k,p.1,p.2,x.1,x.2,())) (k1 (i,26,())) (again (((i+1:Nat)),p.1,p.2,())) (by unfold vj;omega) (by omega)
    (λ k y h j l m o again=>by grind[yj]) (λ b again=>by grind[yj])).trans ?_;grind
 grind[zm,iq]
theorem v46{n}(a:1000<=n){p}(hp:jg p):xy n p=some (mQ p):=by unfold xy mQ;grind[FK,decide,fV,Ig,h0,h6,air,ix,FF,adi,iq,Hh]
theorem v87{n}(a:1000<=n){p}(hp:jg p):tx n p=some (p,(mQ p).2):=by grind[tx,Ym]
theorem yG(a b:Nat):((a:Int) !=(b:Int))=!decide (a=b):=by grind
theorem LY(a b:Nat):((a:Int)==(b:Int))=decide (a=b):=by grind
theorem kG{α}{s:List α}{i}(h:i<s.length):∃c,aG s (i:Int)=some c/\s.drop i=c::s.drop (i+1)/\s[i]?=some c:= ⟨s[i],by rw[oR,u1 h],by simp_all,by grind⟩
def qV(z c w:Int):=jh [ia (cy c 0 z&&cy w 0 3) 2,ia ((c==0)==(w==0)) 13]
def xr:List Vs->List Int->List Int->Int|v::vs,c::cs,w::ws=>bif qV v.2 c w==0 then xr vs cs ws else qV v.2 c w|_,_,_=>0
def j5(p:Pl)(s:St):=bif decide (s.1.length=p.1.length)&&decide (s.2.length=p.1.length)then xr p.1 s.1 s.2 else 10
theorem Sr(v)(vs)(c w)(cs a):xr (v::vs) (c::cs) (w::a)=bif qV v.2 c w==0 then xr vs cs a else qV v.2 c w:=rfl
theorem SZ{n}(j:1000<=n){p}(hp:jg p)(s:St):px n p s=some (j5 p s):=by have u:=hp.v;unfold px j5;rw[show IY n _=some ((fV p.1):Int)from rfl];simp[k9,jv,yG];cases f:decide (s.1.length=p.1.length)with|false=>rfl|true=>simp[u2,vL,cond_true,L1,a6,yG];cases g:decide (s.2.length=p.1.length)with|false=>rfl|true=>simp[u2,cond_false,cond_true];have q:=of_decide_eq_true f;have t:=of_decide_eq_true g;refine iy _ (λ i=>(p.1,((fV p.1):Int),(i:Int),s.1,s.2,())) (λ i r=>some (xr r (s.1.drop i) (s.2.drop i))) (by unfold vj;omega) ?_ ?_ (by omega);intro i x r l m o a b d again k;have⟨c,e,c2,_⟩:=kG (s:=s.1) (i:=i) (by omega);have⟨w,w1,w2,_⟩:=kG (s:=s.2) (i:=i) (by omega);simp[Co,b,cond_true,a,e,w1,k9,d,Ra,Pt,jv,tP,BO j,k,c2,w2,Sr];grind[qV];intro h again;simp[Co,h,cond_false];rfl
theorem Mc{n}(u:1000<=n){p}(hp:jg p)(s:St):sM n p s=some (j5 p s):=by have v:=hp.v;unfold sM j5;simp[yG];cases f:decide (s.1.length=p.1.length)with|false=>rfl|true=>cases g:decide (s.2.length=p.1.length)with|false=>rfl|true=>
   simp[u2,zs,cond_false,Xs,cond_true];have o:=of_decide_eq_true f;have q:=of_decide_eq_true g;refine iy _ (λ i=>((i:Int),p.1,p.2,s.1,s.2,())) (λ i r=>some (xr r (s.1.drop i) (s.2.drop i))) (by unfold vj;omega) ?_ ?_ (by omega);intro i x r k l m a b d again j;have⟨c,e,c2,_⟩:=kG (s:=s.1) (i:=i) (by omega);have⟨w,w1,w2,_⟩:=kG (s:=s.2) (i:=i) (by omega);simp[DI,b,cond_true,a,e,w1,k9,d,EO,jv,j,c2,w2,Sr];have t:qV x.2 c w=bif !(cy c 0 x.2)||!(cy w 0 3)then 2 else bif !((w==0)==(c==0))then 13 else 0:=by unfold qV;cases cy c 0 x.2<;>cases cy w 0 3<;>cases(c==0)<;>cases(w==0)<;>rfl
   grind;intro h again;simp[DI,h,cond_false];rfl
def qK(z c w:Int):=jh [ia (((c== -1)||cy c 0 z)&&cy w 0 3) 2,ia ((w==0)|| (c !=0)) 13]
def wz:List Vs->List Int->List Int->Int|v::vs,c::cs,w::ws=>bif qK v.2 c w==0 then wz vs cs ws else qK v.2 c w|_,_,_=>0
theorem NV(v)(vs)(c w)(cs a):wz (v::vs) (c::cs) (w::a)=bif qK v.2 c w==0 then wz vs cs a else qK v.2 c w:=rfl
def rZ(p:Pl)(t:Tk):=bif j5 p t.1==0 then(bif decide (t.2.1.length=p.1.length)&&decide (t.2.2.length=p.1.length)then wz p.1 t.2.1 t.2.2 else 10)else j5 p t.1
theorem ZJ{n}(a:1000<=n){p}(hp:jg p)(t:Tk):v7 n p t=some (rZ p t):=by have v:=hp.v;unfold v7 rZ;rw[show px n _ _=px n p t.1 from rfl,SZ a hp,show IY n _=some ((fV p.1):Int)from rfl];simp[k9,jv,tP,BO a,LY];rw[BP];cases h0:(j5 p _==0)with|false=>grind|true=>simp[bne,h0,u2,cond_false,cond_true];cases g:decide (t.2.1.length=p.1.length)with|false=>rfl|true=>simp[cond_true,a6,LY];cases h:decide (t.2.2.length=p.1.length)with|false=>rfl|true=>simp[ia,cond_true,show((0:Int)==0)=true from rfl,u2,cond_false];have q:=of_decide_eq_true g;have u:=of_decide_eq_true h;refine iy _ (λ i=>(p.1,((fV p.1):Int),(i:Int),t.1.1,t.1.2,t.2.1,t.2.2,())) (λ i r=>some (wz r (t.2.1.drop i) (t.2.2.drop i))) (by unfold vj;omega) ?_ ?_ (by omega);intro i x r l m o b d e again k;have⟨c,f,c2,_⟩:=kG (s:=t.2.1) (i:=i) (by omega);have⟨w,w1,w2,_⟩:=kG (s:=t.2.2) (i:=i) (by omega);simp only[Em,d,cond_true,b,f,w1,k9,e,Ra,Pt,jv,tP,BO a,k,c2,w2,NV];grind[qK];intro j again;simp[Em,j,cond_false];rfl
theorem YE{n}(l:1000<=n){p}(hp:jg p)(t:Tk):wy n p t=some (rZ p t):=by have A:=hp.v;unfold wy rZ;rw[show sM n _ _=sM n p t.1 from rfl,Mc l hp,k9];simp[bne];cases h0:(j5 p _==0)with|false=>rfl|true=>simp[u2,cond_false,cond_true];have a:=yG t.2.1.length p.1.length;have b:=yG t.2.2.length p.1.length;simp[bne]at a b;rw[a,b];cases h:decide (t.2.1.length=p.1.length)with|false=>rfl|true=>cases j:decide (t.2.2.length=p.1.length)with|false=>rfl|true=>
    simp[u2,zs,cond_false,Xs,cond_true];have v:=of_decide_eq_true h;have y:=of_decide_eq_true j;refine iy _ (λ i=>((i:Int),p.1,p.2,t.1.1,t.1.2,t.2.1,t.2.2,())) (λ i r=>some (wz r (t.2.1.drop i) (t.2.2.drop i))) (by unfold vj;omega) ?_ ?_ (by omega);intro i x r o q u d e f again m;have⟨c,g,c2,_⟩:=kG (s:=t.2.1) (i:=i) (by omega);have⟨w,w1,w2,_⟩:=kG (s:=t.2.2) (i:=i) (by omega);simp[Ez,e,cond_true,d,g,w1,k9,f,EO,jv,m,c2,w2,NV];have z:qK x.2 c w=bif ((c != -1)&&!(cy c 0 x.2))||!(cy w 0 3)then 2 else bif (w !=0)&& (c==0)then 13 else 0:=by unfold qK;simp[bne];cases(c== -1)<;>cases cy c 0 x.2<;>cases cy w 0 3<;>cases(c==0)<;>cases(w==0)<;>rfl
    grind;intro k again;simp[Ez,k,cond_false];rfl
def a8(p:Pl)(s:St):=bif (mQ p).2==0 then j5 p s else(mQ p).2
def kX(p:Pl)(t:Tk):=bif (mQ p).2==0 then rZ p t else(mQ p).2
theorem Wa{n}(a:1000<=n){p}(hp:jg p)(t:Tk):AT n p t=some (kX p t):=by grind[AT,kX,v46,YE]
theorem S5{n}(a:1000<=n){p}(hp:jg p)(t:Tk):ux n p t=some (kX p t):=by grind[ux,kX,v87,ZJ]
abbrev I6:=Int×Int×Int×Int×Int×Int
def i6(l:List Int):I6:=(l[0]?.getD 0,l[1]?.getD 0,l[2]?.getD 0,l[3]?.getD 0,l[4]?.getD 0,l[5]?.getD 0)
def l6(x:I6):= [x.1,x.2.1,x.2.2.1,x.2.2.2.1,x.2.2.2.2.1,x.2.2.2.2.2]
def nd(s:St):=(i6 s.1,i6 s.2)
theorem g6(l){i:Nat}(a:i<6):aG (l6 (i6 l)) (i:Int)=some (l[i]?.getD 0):=by
 rw[oR];have:i=0\/i=1\/i=2\/i=3\/i=4\/i=5:=by omega
 rcases this with rfl|rfl|rfl|rfl|rfl|rfl<;>rfl
theorem r6{i:Nat}(a:i<6):cQ (i:Int) 6=some ():=by grind[cQ]
def xl:List Int->List Int->List Int->List Int->Bool|a::tcs,tw::tws,c::cs,w::ws=>((a== -1)|| (a==c))&& ((tw==0)|| (tw==w))&&xl tcs tws cs ws|_,_,_,_=>true
def xN(t:Tk)(s:St):=xl t.2.1 t.2.2 s.1 s.2
theorem LK(a b c d)(e f g h):xl (a::e) (b::f) (c::g) (d::h)=(((a== -1)|| (a==c))&& ((b==0)|| (b==d))&&xl e f g h):=rfl
structure uv(p:Pl)(s:St):Prop where
 c:s.1.length=p.1.length
 w:s.2.length=p.1.length
theorem v28{n}(A:1000<=n){p}(hp:jg p){t:Tk}{s}(b:uv p t.2)(a:uv p s):wS n t s=some (xN t s):=by have B:=hp.v;have o:=b.c;have q:=b.w;have u:=a.c;have v:=a.w;refine iy _ (λ i=>((i:Int),t.1.1,t.1.2,t.2.1,t.2.2,s.1,s.2,())) (λ i r=>some (xl (t.2.1.drop i) (t.2.2.drop i) r (s.2.drop i))) (by unfold vj;omega) ?_ ?_ (by omega);intro i x r j k m c d e again h;have⟨C,f,c2,_⟩:=kG (s:=t.2.1) (i:=i) (by omega);have⟨D,d1,d2,_⟩:=kG (s:=t.2.2) (i:=i) (by omega);have⟨w,w1,w2,_⟩:=kG (s:=s.2) (i:=i) (by omega);simp[EX,d,cond_true,c,f,d1,w1,k9,e,jv,h,c2,d2,w2,LK,bne];grind;intro g again;simp[EX,g,cond_false];have z:∀l:List Int,l.length=s.1.length->l.drop s.1.length= []:=λ l y=>zt (by omega);rw[z _ (by omega),z _ (by omega),z _ (by omega)];rfl
abbrev aeu:=Pl×Tk×I6×I6
theorem F1{p s}(h:j5 p s=0):uv p s:=by unfold j5 at h;cases a:decide (s.1.length=p.1.length)with|false=>grind|true=>cases b:decide (s.2.length=p.1.length)with|false=>grind|true=>exact⟨by grind,by grind⟩
theorem RJ{p t}(h:rZ p t=0):uv p t.1/\uv p t.2:=by unfold rZ at h;cases h0:(j5 p t.1==0)with|false=>grind|true=>refine⟨F1 (by grind),?_⟩;rw[h0]at h;cases a:decide (t.2.1.length=p.1.length)with|false=>rw[a]at h;exact absurd (show(10:Int)=0 from h) (by decide)|true=>cases b:decide (t.2.2.length=p.1.length)with|false=>rw[a,b]at h;exact absurd (show(10:Int)=0 from h) (by decide)|true=>exact⟨by grind,by grind⟩
theorem L6{p t}(h:kX p t=0):(mQ p).2=0/\rZ p t=0:=by grind[kX]
theorem bh{p s}(h:a8 p s=0):(mQ p).2=0/\j5 p s=0:=by grind[a8]
theorem aaK{p}(h:(mQ p).2=0):1<=p.1.length/\p.1.length<=6/\p.2.length<=30:=by grind[mQ]
def GC(p:Pl)(t:Tk):aeu:=(p,t,nd t.1)
theorem O6{n}(a:1000<=n){p}(hp:jg p)(t:Tk):vm n p t=some (bif kX p t==0 then(some (GC p t),0)else(none,kX p t)):=by unfold vm;rw[show ux n _ _=ux n p t from rfl,S5 a hp,k9];simp[bne];cases h:(kX p t==0)with|false=>rfl|true=>rfl
theorem v92{n}(I:1000<=n){p}(hp:jg p)(h6:p.1.length<=6){t:Tk}{s}(d:uv p t.2)(b:uv p s)(z:I6×I6):ud n (some (p,t,z)) (nd s)=some (xN t s):=by
 have j:=d.c;have k:=d.w;have m:=b.c;have o:=b.w;refine iy p.1 (λ i=>(some (p,t,z),((fV p.1):Int),(i:Int),(nd s).1.1,(nd s).1.2.1,(nd s).1.2.2.1,(nd s).1.2.2.2.1,(nd s).1.2.2.2.2.1,(nd s).1.2.2.2.2.2,(nd s).2.1,(nd s).2.2.1,(nd s).2.2.2.1,(nd s).2.2.2.2.1,(nd s).2.2.2.2.2.1,(nd s).2.2.2.2.2.2,())) (λ i r=>some (xl (t.2.1.drop i) (t.2.2.drop i) (s.1.drop i) (s.2.drop i))) (by unfold vj;omega) ?_ ?_ (by omega);intro i x r C D E F e f again v;have⟨B,g,c2,_⟩:=kG (s:=t.2.1) (i:=i) (by omega);have⟨K,d1,d2,_⟩:=kG (s:=t.2.2) (i:=i) (by omega);have⟨c,k1,y,A⟩:=kG (s:=s.1) (i:=i) (by omega);have⟨w,w1,w2,w3⟩:=kG (s:=s.2) (i:=i) (by omega);have a:i<6:=by omega
 have gc:aG [(nd s).1.1,(nd s).1.2.1,(nd s).1.2.2.1,(nd s).1.2.2.2.1,(nd s).1.2.2.2.2.1,(nd s).1.2.2.2.2.2] (i:Int)=some c:=by have:=g6 s.1 a;rw[A]at this;trivial
 have h:aG [(nd s).2.1,(nd s).2.2.1,(nd s).2.2.2.1,(nd s).2.2.2.2.1,(nd s).2.2.2.2.2.1,(nd s).2.2.2.2.2.2] (i:Int)=some w:=by have:=g6 s.2 a;rw[w3]at this;trivial
 simp[B4,e,cond_true,g,gc,h,r6 a,k9,f,jv,v,c2,d2,y,w2,LK,bne];cases G:(B== -1)with
 |true=>grind[u2,vL,jv,yR]|false=>grind[u2,vL,jv,e2,yR]
 intro u again;simp[B4,u,cond_false];have q:∀l:List Int,l.length=p.1.length->l.drop p.1.length= []:=λ l H=>zt (by omega);rw[q _ j,q _ k,q _ m,q _ o];rfl
theorem v22(n){p}(hp:jg p):wL n p=some p:=by unfold wL;have:=hp.v;have:=hp.h;grind[zG]
theorem Df(n)(l)(h:l.length<=1000):uV n l=some l:=by grind[uV,zG]
theorem MK(n)(s:St)(h1:s.1.length<=1000)(h2:s.2.length<=1000):th n s=some s:=by grind[th,Df]
theorem v23(n)(t:Tk)(h1:t.1.1.length<=1000)(h2:t.1.2.length<=1000)(h3:t.2.1.length<=1000)(h4:t.2.2.length<=1000):xf n t=some t:=by grind[xf,MK,Df]
theorem v18{n}(j:1000<=n)(p:Pl):∃b,xB n p=some b/\(b=true->jg p):=by unfold xB;generalize f:(((((decide (((fV p.1:Nat):Int)>(4:Int)))&& (decide (((fV p.1:Nat):Int)<=(6:Int))))|| (decide (((fV p.1:Nat):Int)>(8:Int))))|| ((decide (((fV p.2:Nat):Int)>(14:Int)))&& (decide (((fV p.2:Nat):Int)<=(30:Int)))))|| (decide (((fV p.2:Nat):Int)>(32:Int))))=a;cases a with|true=>simp|false=>
  simp only[cond_false];have d:p.1.length<=8:=by grind
  have c:p.2.length<=32:=by grind
  have:=iy (n:=n) (body:=yJ n) (ks:=(λ(_)=>some (true),λ(e,_)=>some (e),())) p.1 (λ i=>((i:Int),p.1,p.2,())) (λ i r=>some (r.all λ v=>decide (v.1.length<=20)&&!(cy v.2 11 50))) (by unfold vj;omega) ?_ ?_ (by omega);refine⟨_,this,λ h=> ⟨d,c,λ v g=>?_⟩⟩;grind;all_goals grind[yJ,EO,jv]
theorem v19(n)(t:Tk):∃b,zS n t=some b/\(b=true->t.1.1.length<=10/\t.1.2.length<=10/\t.2.1.length<=10/\t.2.2.length<=10):=by refine⟨_,rfl,λ h=>?_⟩;grind
def z6:I6:=(0,0,0,0,0,0)
theorem v95{n}(a:1000<=n){p}(hp:jg p)(s:St):Ij n p s=some (p,bif a8 p s==0 then nd s else(z6,z6),a8 p s):=by unfold Ij a8;rw[show tx n _=tx n p from rfl,v87 a hp,k9];simp[bne];cases h:((mQ p).2==0)with
 |true=>simp[cond_true];rw[show px n _ _=px n p s from rfl,SZ a hp,k9];cases b:(j5 p s==0)with
  |true=>
   have e:j5 p s=0:=by grind
   rw[e];rfl|false=>rfl
 |false=>simp[cond_false,vL,cond_true,h];rfl
theorem ahH:(l:List Int)->l.length<=6->l6 (i6 l)=l++x3 (6- l.length) 0| [],_=>rfl| [_],_=>rfl| [_,_],_=>rfl| [_,_,_],_=>rfl| [_,_,_,_],_=>rfl| [_,_,_,_,_],_=>rfl| [_,_,_,_,_,_],_=>rfl|_::_::_::_::_::_::_::_,h=>by trivial
end
end Go.Abs.R
namespace Go.Abs
open Go.Proofs Go.Shelf Go.Sort
section
variable[Dr]
theorem akX{α}{l:List α}{i}(h0:0<=i)(h1:i< (l.length:Int)):aG l i=some (l[i.toNat]'(by omega)):=by grind[aG,u1]
theorem amT{α}(l)(i:Nat)(x:α)(h:i<l.length):tD l (i:Int) x=some (l.set i x):=by grind[tD]
section
variable{D Ks R:Type}{body:D->(D->Option R)->Ks->Option R}{ks:Ks}
theorem ahT{A:Type}{n}(len)(F:Nat->A->D)(G:Nat->A->Option R)(b:Nat->A->Prop)(e:len<=vj) (g:∀i a,i<len->decide ((i:Int)< (len:Int))=true->u0 .i64 ((i:Int)+1)=((i+1:Nat):Int)->b i a->∀again,(∀c,b (i+1) c->again (F (i+1) c)=G (i+1) c)->body (F i a) again ks=G i a) (d:∀a,decide ((len:Int)< (len:Int))=false->b len a->∀again,body (F len a) again ks=G len a) (a) (h0:b 0 a) (f:len<n):cq body n (F 0 a) ks=G 0 a:=by
 have key:∀m i a,i<=len->b i a->len- i<m->cq body m (F i a) ks=G i a:=by
  intro m
  induction m with|zero=>omega|succ m h=>grind[cq,nu,vj]
 grind
end
end
end Go.Abs
namespace Go.Abs.R
open Go.Abs Go.Proofs.Tryz
open Go.Abs.N(IY H2 zQ vk yf BY C5 En Gt tN Hv yp tR xA)
section
local instance:Dr:= ⟨false⟩
theorem alv{n p}(hp:jg p)(x):zQ n x p=some (cy x 0 ((p.1.length:Int)- 1)):=by have:=hp.v;grind[zQ,IY,SF,Ra]
theorem v80{n p}(hp:jg p)(x):zF n p x=some (cy x 0 ((p.1.length:Int)- 1)):=by have:=hp.v;grind[zF,SF,EO]
theorem an3{n}(a:1000<=n){p}(hp:jg p)(m):akG n p m=some (decide (m∈p.2)):=by have:=hp.h;refine iy _ (λ i=>((i:Int),p.1,p.2,m.1,m.2,())) (λ i r=>some (decide (m∈r))) (by unfold vj;omega) ?_ ?_ (by omega);all_goals grind[akl,e1,e2,Prod.ext]
def oV(p:Pl)(m:Int×Int):=cy m.1 0 ((p.1.length:Int)- 1)&&cy m.2 0 ((p.1.length:Int)- 1)
def aY(l:List Int)(a:Int):=l[a.toNat]?.getD 0
def zu(p:Pl)(a:Int):=(p.1[a.toNat]?.map (·.2)).getD 0
def mv(p:Pl)(s:St)(m:Int×Int):Int:=bif !oV p m then 6 else bif !decide (m∈p.2)then 18 else bif aY s.1 m.1==0 then 12 else bif aY s.1 m.2==zu p m.2 then 16 else bif (aY s.2 m.2 !=0)&& (aY s.2 m.2 !=aY s.2 m.1)then 13 else 0
theorem ov{l a}(h0:0<=a)(h1:a<l.length):aG l a=some (aY l a):=by grind[akX,aY]
theorem agA{p a}(h0:0<=a)(h1:a<p.1.length):∃v,aG p.1 a=some v/\v.2=zu p a:=by simp_all[akX,zu]
theorem aal{p m}(h:oV p m=true):(0<=m.1/\m.1<p.1.length)/\0<=m.2/\m.2<p.1.length:=by grind[oV,cy]
theorem v40{n}(f:1000<=n){p}(hp:jg p){s}(d:uv p s)(m):x6 n p s m=some (mv p s m):=by have k1:=d.c;have i:=d.w;unfold x6 mv;rw[v80 hp,k9,v80 hp,jv,k9];cases a:oV p m with|false=>grind[oV]|true=>have⟨⟨c,g⟩,b,e⟩:=aal a;unfold oV at a;rw[y2]at a;have⟨v,v1,v2⟩:=agA (p:=p) b e;simp[a.1,a.2,u2,vL,cond_true,zs,cond_false,an3 f hp,k9];cases h:decide (m∈p.2)with|false=>rfl|true=>simp[u2,cond_false,ov (l:=s.1) c (by omega),ov (l:=s.1) b (by omega),ov (l:=s.2) b (by omega),ov (l:=s.2) c (by omega),v1,v2,k9,jv];grind
def o3(x:I6)(m X:Int):I6:=(bif decide (m=0)then X else x.1,bif decide (m=1)then X else x.2.1,bif decide (m=2)then X else x.2.2.1,bif decide (m=3)then X else x.2.2.2.1,bif decide (m=4)then X else x.2.2.2.2.1,bif decide (m=5)then X else x.2.2.2.2.2)
theorem ant{l}{i:Nat}(h:i<l.length)(h6:l.length<=6)(X):o3 (i6 l) (i:Int) X=i6 (l.set i X):=by
 have:i=0\/i=1\/i=2\/i=3\/i=4\/i=5:=by omega
 rcases this with rfl|rfl|rfl|rfl|rfl|rfl<;>simp[o3,i6,h]
theorem ams{l a}(h0:0<=a)(h:a<l.length)(h6:l.length<=6)(X):o3 (i6 l) a X=i6 (l.set a.toNat X):=by grind[ant]
theorem aaZ{l a}(h0:0<=a)(h:a<6):aG (l6 (i6 l)) a=some (aY l a):=by
 have:=g6 l (i:=a.toNat) (by omega)
 rwa [B2 h0]at this
theorem akU{a}(h0:0<=a)(h:a<6):cQ a 6=some ():=by grind[cQ]
theorem al9:(vs:List Vs)->(cs b:List Int)->xr vs cs b=0->cs.length=vs.length->b.length=vs.length->(i:Nat)->i<vs.length->0<=cs[i]?.getD 0/\cs[i]?.getD 0<=(vs[i]?.map (·.2)).getD 0
 | [],_,_,_,_,_,i,d=>by simp at d|v::vs,c::cs,w::b,h,h1,h2,i,d=>by rw[Sr]at h;cases e:(qV v.2 c w==0)with|false=>rw[e,cond_false]at h;rw[h]at e;cases e|true=>rw[e,cond_true]at h;cases i with|succ i=>exact al9 vs _ _ h (by grind) (by grind) i (by grind)|zero=>
    have a:qV v.2 c w=0:=by grind
    unfold qV at a;cases g:(cy c 0 v.2&&cy w 0 3)with|false=>rw[g]at a;cases a|true=>grind[cy]
theorem zY{p s}(h:j5 p s=0){a:Int}(h0:0<=a)(h1:a<p.1.length):0<=aY s.1 a/\aY s.1 a<=zu p a:=by have b:=F1 h;have k1:=b.c;have c:=b.w;unfold j5 at h;rw[decide_eq_true k1,decide_eq_true c]at h;exact al9 _ _ _ h k1 c _ (by omega)
theorem alC:(l:List Vs)->(i:Nat)->(pre:List Vs)->(ix i pre l).2=0->(k:Nat)->k<l.length->1<=(l[k]?.map (·.2)).getD 0/\(l[k]?.map (·.2)).getD 0<=50
 | [],_,_,_,k,b=>by simp at b|v::l,i,pre,h,k,b=>by unfold ix at h;cases e:(wi pre v==0)with|false=>grind|true=>rw[e,cond_true]at h;cases k with|succ k=>exact alC l _ _ h k (by grind)|zero=>
    have a:wi pre v=0:=by grind
    unfold wi at a;cases g:cy v.2 1 50 with|false=>rw[g]at a;exfalso;revert a;cases rQ v.1<;>cases(pre.any λ x=>x.1==v.1)<;>decide|true=>grind[cy]
theorem alP(k):(l:List (Int×Int))->(i:Nat)->(pre:List (Int×Int))->(iq k i pre l).2=0->∀h∈l,h.1≠h.2
 | [],_,_,_,_,c=>by trivial|v::l,i,pre,h,m,b=>by unfold iq at h;cases e:(sx k pre v==0)with|false=>rw[e,cond_false]at h;rw[show sx k pre v=0 from h]at e;cases e|true=>
   rw[e,cond_true]at h;rcases x0.1 b with rfl|b;have a:sx k pre m=0:=by simpa using e
   unfold sx at a;intro g;rw[show(m.1 !=m.2)=false by simp[g]]at a;revert a;cases(cy m.1 0 (k- 1)&&cy m.2 0 (k- 1))<;>cases decide (m∈pre)<;>decide;exact alP k l _ _ h m b
theorem z8{p}(h:(mQ p).2=0):(∀a:Int,0<=a->a<p.1.length->1<=zu p a/\zu p a<=50)/\∀m∈p.2,m.1≠m.2:=by unfold mQ at h;cases h0:decide (p.1.length=0)with|true=>rw[h0]at h;exact absurd (show(10:Int)=0 from h) (by decide)|false=>cases d:decide (6<p.1.length)with|true=>grind|false=>rw[h0,d]at h;cases b:((ix 0 [] p.1).2==0)with|false=>rw[b]at h;simp[cond_false]at h;simp[h]at b|true=>rw[b]at h;cases c:decide (30<p.2.length)with|true=>rw[c]at h;exact absurd (show(8:Int)=0 from h) (by decide)|false=>rw[c]at h;exact⟨λ a e f=>alC p.1 0 [] (by simpa using b) _ (by omega),alP _ _ 0 _ h⟩
def mq(s:St)(a b q:Int):St:=
 let l:=(s.1.set a.toNat (u0 .i64 (aY s.1 a- q))).set b.toNat (u0 .i64 (aY s.1 b+q));let w:=s.2.set b.toNat (aY s.2 a)
 (l,bif aY l a==0 then w.set a.toNat 0 else w)
def ap(p:Pl)(s:St)(m:Int×Int):=mq s m.1 m.2 (bu (aY s.1 m.1) (u0 .i64 (zu p m.2- aY s.1 m.2)))
theorem alF{p s}(c:uv p s)(a b q):uv p (mq s a b q):=by have d:=c.w;refine⟨by simp[mq,c.c],?_⟩;grind[mq]
theorem aks{l a b}(h0:0<=a)(h1:0<=b)(h:a≠b)(X):aY (l.set a.toNat X) b=aY l b:=by grind[aY]
theorem aic{l a}(h0:0<=a)(h1:a<l.length)(X:Int):tD l a X=some (l.set a.toNat X):=by grind[amT]
theorem v42{n p s}(c:uv p s)(h6:p.1.length<=6){m}(e:oV p m=true)(g:m.1≠m.2):K9 n p s m=some (ap p s m):=by have k1:=c.c;have h:=c.w;have⟨⟨b,f⟩,a,d⟩:=aal e;have⟨v,v1,v2⟩:=agA (p:=p) a d;unfold K9 ap;rw[(MK n s (by omega) (by omega))];simp[k9,ov (l:=s.1) b (by omega),ov (l:=s.1) a (by omega),v1,v2];generalize bu (aY s.1 m.1) (u0 .i64 (zu p m.2- aY s.1 m.2))=q;unfold mq;simp[k9,ov (l:=s.2) b (by omega),ov (l:=s.2) a (by omega),aic (l:=s.1) b (by omega),ov (l:=s.1.set _ _) a (by simp;omega),aic (l:=s.1.set _ _) a (by simp;omega),aic (l:=s.2) a (by omega),ov (l:=(s.1.set _ _).set _ _) b (by simp;omega)];grind[ov,aic]
theorem anE{p s}(c:uv p s)(h6:p.1.length<=6){a b:Int}(d:0<=a)(e:a<p.1.length)(f:0<=b)(g:b<p.1.length)(h:a≠b)(q){R:Type}(K:I6×I6->Option R):((aG (l6 (o3 (i6 s.1) a (u0 .i64 (aY s.1 a- q)))) b).bind λ x=>(aG (l6 (o3 (o3 (i6 s.1) a (u0 .i64 (aY s.1 a- q))) b (u0 .i64 (x+q)))) a).bind λ y=>bif y==0 then K (o3 (o3 (i6 s.1) a (u0 .i64 (aY s.1 a- q))) b (u0 .i64 (x+q)),o3 (o3 (i6 s.2) b (aY s.2 a)) a 0) else K (o3 (o3 (i6 s.1) a (u0 .i64 (aY s.1 a- q))) b (u0 .i64 (x+q)),o3 (i6 s.2) b (aY s.2 a)))=K (nd (mq s a b q)):=by have k1:=c.c;have i:=c.w;grind[aks,mq,nd,ams,aaZ]
theorem als{n}(k:1000<=n){p}(hp:jg p){s}(B:a8 p s=0)(m):En n p (nd s) m=some (bif mv p s m==0 then nd (ap p s m)else(z6,z6),mv p s m):=by have⟨o,i⟩:=bh B;have f:=F1 i;have x:=(aaK o).2.1;have K:=hp.h;have⟨E,D⟩:=z8 o;unfold En;rw[show(λ F=>zQ n _ _) _=zQ n _ _ from rfl,show(λ F=>zQ n _ _) _=zQ n _ _ from rfl,alv hp,alv hp,k9,jv,k9,tP,k9,afi p.2 m (by omega) (by unfold vj;omega),k9,tP,k9,BO k,BP,k9];cases h:oV p m with
 |false=>
  have e:mv p s m=6:=by unfold mv;grind
  unfold oV at h;have:(bif cy m.1 0 ((p.1.length:Int)- 1)then cy m.2 0 ((p.1.length:Int)- 1)else false)=false:=by grind
  rw[e,this,Bool.and_false];rfl|true=>have⟨⟨b,j⟩,a,c⟩:=aal h;have d:=h;unfold oV at d;rw[y2]at d;rw[d.1,d.2];cases z:decide (m∈p.2)with
  |false=>
   have e:mv p s m=18:=by grind[mv]
   rw[e];rfl|true=>
   have⟨v,v1,v2⟩:=agA (p:=p) a c;have⟨G,c2⟩:=zY i b j;have⟨d1,d2⟩:=zY i a c;have⟨N,O⟩:=E m.2 a c;have r:aG [(nd s).1.1,(nd s).1.2.1,(nd s).1.2.2.1,(nd s).1.2.2.2.1,(nd s).1.2.2.2.2.1,(nd s).1.2.2.2.2.2] m.1=some (aY s.1 m.1):=aaZ (l:=s.1) b (by omega);have t:aG [(nd s).1.1,(nd s).1.2.1,(nd s).1.2.2.1,(nd s).1.2.2.2.1,(nd s).1.2.2.2.2.1,(nd s).1.2.2.2.2.2] m.2=some (aY s.1 m.2):=aaZ (l:=s.1) a (by omega);have u:aG [(nd s).2.1,(nd s).2.2.1,(nd s).2.2.2.1,(nd s).2.2.2.2.1,(nd s).2.2.2.2.2.1,(nd s).2.2.2.2.2.2] m.1=some (aY s.2 m.1):=aaZ (l:=s.2) b (by omega);have w:aG [(nd s).2.1,(nd s).2.2.1,(nd s).2.2.2.1,(nd s).2.2.2.2.1,(nd s).2.2.2.2.2.1,(nd s).2.2.2.2.2.2] m.2=some (aY s.2 m.2):=aaZ (l:=s.2) a (by omega);have w1:u0 .i64 (zu p m.2- aY s.1 m.2)=zu p m.2- aY s.1 m.2:=nu (by omega) (by omega);simp only[ia,cond_true,akU b (show m.1<6 by omega),akU a (show m.2<6 by omega),r,t,u,w,v1,v2,w1,k9,tP,jv,QD k,fE3];have e:mv p s m=bif aY s.1 m.1==0 then 12 else bif aY s.1 m.2==zu p m.2 then 16 else bif (aY s.2 m.2 !=0)&& (aY s.2 m.2 !=aY s.2 m.1)then 13 else 0:=by grind[mv]
   rw[e];cases H:(aY s.1 _==0)with
   |true=>
    have g:aY s.1 m.1=0:=by grind
    rw[g];rfl
   |false=>
    have g:¬aY s.1 m.1=0:=by grind
    rw[(decide_eq_true (by omega))];simp only[cond_false,cond_true,bne_self_eq_false];cases I:(aY _ _==zu p _)with
    |true=>
     have q:aY s.1 m.2=zu p m.2:=by grind
     rw[(decide_eq_false (by omega))];rfl
    |false=>
     have q:¬aY s.1 m.2=zu p m.2:=by grind
     rw[(decide_eq_true (by omega))];simp only[cond_false,cond_true,bne_self_eq_false];have C:((aY s.2 m.2==0)|| ((bif !(aY s.2 m.2==0)then aY s.2 m.2 else 0)==aY s.2 m.1))=!((aY s.2 m.2 !=0)&& (aY s.2 m.2 !=aY s.2 m.1)):=by
      grind
     rw[C];cases J:((aY _ _ !=0)&& (aY _ _ !=aY _ _))with
     |true=>rfl
     |false=>
      simp[vL,cond_true,cond_false,bne_self_eq_false,beq_self_eq_true];have:=anE f x b j a c (D m (of_decide_eq_true z)) (bu (aY s.1 m.1) (zu p m.2- aY s.1 m.2)) λ y=>some (y,(0:Int));refine Eq.trans this ?_;unfold ap;rw[w1]
def x8(p:Pl)(s:St)(i j:Nat):=bif mv p s ((i:Int),(j:Int))==0 then[((i:Int),(j:Int))]else[]
def K0(p:Pl)(s:St)(i:Nat):=(yl 0 p.1.length).flatMap (x8 p s i)
def u4(p:Pl)(s:St):=(yl 0 p.1.length).flatMap (K0 p s)
theorem aiu{α β:Type}(f:α->List β)(c)(h:∀a,(f a).length<=c):(l:List α)->(l.flatMap f).length<=c*l.length
 | []=>by simp|a::l=>by have d:=aiu f c h l;grind[P9,List.length_cons,Nat.mul_succ]
theorem anF(p)(s)(i j):(x8 p s i j).length<=1:=by grind[x8,mv]
theorem al2(p)(s)(i):(K0 p s i).length<=p.1.length:=by have:=aiu (x8 p s i) 1 (anF p s i) (yl 0 p.1.length);rw[List.length_range',Nat.one_mul]at this;trivial
theorem abh{i k}(h:i<k):yl i (k- i)=i::yl (i+1) (k- (i+1)):=by rw[show k- i=(k- (i+1))+1 by omega,List.range'_succ]
theorem am5{n}(g:1000<=n){p}(hp:jg p){s}(f:uv p s)(h6:p.1.length<=6)(i)(K)(b:List (Int×Int))(h:b.length<=6*i)(k:i<=6):cq (K7 n) n ((i:Int),(0:Int),p.1,p.2,s.1,s.2,b,()) (K,())=K ((i:Int),p.1,p.2,s.1,s.2,b++K0 p s i,()):=by
 have:=ahT (n:=n) (body:=K7 n) (ks:=(K,())) p.1.length (λ j b=>((i:Int),(j:Int),p.1,p.2,s.1,s.2,b,())) (λ j b=>K ((i:Int),p.1,p.2,s.1,s.2,b++ (yl j (p.1.length- j)).flatMap (x8 p s i),())) (λ j b=>b.length<=6*i+j) (by unfold vj;omega) (λ j a h1 c d e again l=>?_) (λ a h1 e again=>?_) b (by omega) (by omega);trivial;simp[K7,c,cond_true,d];rw[show x6 n _ _ _=x6 n p s _ from rfl,v40 g hp f,k9,abh h1,y5];grind[x8,mv,zG,SA];grind[K7,h1]
theorem v39{n}(h:1000<=n){p}(hp:jg p){s}(g:uv p s)(h6:p.1.length<=6):za n p s=some (u4 p s):=by
 unfold za;have:=ahT (n:=n) (body:=abr n) (ks:=(λ x=>match x with| (k,_)=>some k,())) p.1.length (λ i b=>((i:Int),p.1,p.2,s.1,s.2,b,())) (λ i b=>some (b++ (yl i (p.1.length- i)).flatMap (K0 p s))) (λ i b=>b.length<=6*i) (by unfold vj;omega) (λ i a c e f d again j=>?_) (λ a c d again=>?_) [] (by simp) (by omega);trivial;simp only[abr,e,cond_true];rw[am5 h hp g h6 i _ a d (by omega)];have:=al2 p s i;simp only[f];rw[j _ (by simp;omega),abh c,y5,SA];simp only[abr,c,cond_false];simp
abbrev MvN:=(Int×Int)×(I6×I6)
def Oc(p:Pl)(s:St)(m:Int×Int):MvN:=(m,nd (ap p s m))
theorem anP{n}(g:1000<=n){p}(hp:jg p){s}(h:a8 p s=0)(i:Nat)(K)(l:i<6):cq (xA n) n (p,nd s,(i:Int),(p.1.length:Int),(i:Int),(p.1.length:Int),(0:Int),()) (K,λ _=>some [],())=(K (p,nd s,(p.1.length:Int),(i:Int),())).bind λ r=>some ((K0 p s i).map (Oc p s)++r):=by
 have m:=hp.v;have:=ahT (n:=n) (body:=xA n) (ks:=(K,λ _=>some [],())) p.1.length (λ j(_:Unit)=>(p,nd s,(i:Int),(p.1.length:Int),(i:Int),(p.1.length:Int),(j:Int),())) (λ j _=>(K (p,nd s,(p.1.length:Int),(i:Int),())).bind λ r=>some (((yl j (p.1.length- j)).flatMap (x8 p s i)).map (Oc p s)++r)) (λ _ _=>True) (by unfold vj;omega) (λ j a b c d f again k=>?_) (λ a b f again=>?_) () trivial (by omega);trivial;simp only[xA,c,cond_true,d];rw[als g hp h,k9,abh b,y5,k () trivial];unfold x8;cases e:(mv p s _==0)with
 |true=>cases K (p,nd s,(p.1.length:Int),(i:Int),())<;>rfl|false=>rfl
 simp_all[xA,b,cond_false,ahB,nd]
theorem anO{n}(f:1000<=n){p}(hp:jg p){s}(b:a8 p s=0):Gt n p (nd s)=some ((u4 p s).map (Oc p s)):=by have g:=(aaK (bh b).1).2.1;have:=ahT (n:=n) (body:=tR n) (ks:=(λ _=>some [],λ _=>some [],())) p.1.length (λ i(_:Unit)=>(p,nd s,(p.1.length:Int),(i:Int),())) (λ i _=>some (((yl i (p.1.length- i)).flatMap (K0 p s)).map (Oc p s))) (λ _ _=>True) (by unfold vj;omega) (λ i a h1 c d e again j=>?_) (λ a h1 e again=>?_) () trivial (by omega);trivial;simp[tR,c,cond_true];rw[anP f hp b i _ (by omega)];simp_all[d,trivial,k9,abh,h1,y5,z1];grind[tR,h1]
theorem amE(z c w):qV z c w=0↔(0<=c/\c<=z/\0<=w/\w<=3/\(c=0↔w=0)):=by unfold qV;by_cases a:0<=c/\c<=z/\0<=w/\w<=3;rw[show(cy c 0 z&&cy w 0 3)=true by simp[cy];omega];by_cases b:(c=0↔w=0);rw[show((c==0)==(w==0))=true by grind];exact⟨by omega,λ _=>rfl⟩;rw[show((c==0)==(w==0))=false by grind];exact⟨λ h=>absurd h (by decide),by omega⟩;rw[show(cy c 0 z&&cy w 0 3)=false by grind[cy]];exact⟨λ h=>absurd h (by cases((c==0)==(w==0))<;>decide),by omega⟩
theorem ai9:(vs:List Vs)->(cs a:List Int)->cs.length=vs.length->a.length=vs.length->(xr vs cs a=0↔∀i,i<vs.length->qV ((vs[i]?.map (·.2)).getD 0) (cs[i]?.getD 0) (a[i]?.getD 0)=0)| [],_,_,_,_=> ⟨λ _ i b=>by trivial,λ _=>by rfl⟩|v::vs,c::cs,w::a,h1,h2=>by rw[Sr];cases e:(qV _ c w==0)with|true=>rw[cond_true,ai9 vs cs a (by grind) (by grind)];constructor;grind;intro h i b;exact h (i+1) (by grind)|false=>rw[cond_false];constructor;grind;intro h;exact h 0 (by simp)
theorem alg(p)(s):j5 p s=0↔uv p s/\∀a:Int,0<=a->a<p.1.length->qV (zu p a) (aY s.1 a) (aY s.2 a)=0:=by constructor;intro h;have b:=F1 h;refine⟨b,λ a h0 c=>?_⟩;unfold j5 at h;rw[decide_eq_true b.c,decide_eq_true b.w]at h;exact(ai9 _ _ _ b.c b.w).1 h _ (by omega);intro⟨b,h⟩;unfold j5;rw[decide_eq_true b.c,decide_eq_true b.w];exact(ai9 _ _ _ b.c b.w).2 λ i d=>h i (by omega) (by omega)
theorem amd{l:List Int}{a:Int}(h0:0<=a)(h:a<l.length)(X):aY (l.set a.toNat X) a=X:=by grind[aY]
theorem akm{p s}(n:a8 p s=0){m}(h:mv p s m=0):oV p m=true/\m.1≠m.2/\0<aY s.1 m.1/\aY s.1 m.2<zu p m.2/\(aY s.2 m.2=0\/aY s.2 m.2=aY s.2 m.1):=by have⟨o,g⟩:=bh n;unfold mv at h;cases a:oV p m with|false=>rw[a]at h;cases h|true=>have⟨⟨i,j⟩,k,l⟩:=aal a;have⟨q,c2⟩:=zY g i j;have⟨d1,d2⟩:=zY g k l;cases d:decide (m∈p.2)with|false=>rw[a,d]at h;cases h|true=>rw[a,d]at h;cases b:(aY s.1 m.1==0)with|true=>rw[b]at h;cases h|false=>rw[b,cond_false]at h;cases c:(aY s.1 m.2==zu p m.2)with|true=>rw[c]at h;cases h|false=>rw[c,cond_false]at h;simp at b c;refine⟨rfl,(z8 o).2 m (of_decide_eq_true d),by omega,by omega,?_⟩;by_cases e:aY s.2 m.2=0;exact .inl e;by_cases f:aY s.2 m.2=aY s.2 m.1;exact .inr f;rw[show((aY s.2 m.2 !=0)&& (aY s.2 m.2 !=aY s.2 m.1))=true by simp[e,f]]at h;cases h
structure aiY(p:Pl)(s t:St)(a b q:Int):Prop where
 o:0<=a
 j:a<p.1.length
 e:0<=b
 i:b<p.1.length
 f:a≠b
 c:1<=q
 r:q<=aY s.1 a
 m:q<=zu p b- aY s.1 b
 w:aY s.2 b=0\/aY s.2 b=aY s.2 a
 l:uv p t
 g:aY t.1 a=aY s.1 a- q
 h:aY t.1 b=aY s.1 b+q
 n:aY t.2 a=bif aY s.1 a==q then 0 else aY s.2 a
 k:aY t.2 b=aY s.2 a
 d:∀x,0<=x->x≠a->x≠b->aY t.1 x=aY s.1 x/\aY t.2 x=aY s.2 x
theorem anY{p s}(k:a8 p s=0){a b q:Int}(c:0<=a)(d:a<p.1.length)(f:0<=b)(g:b<p.1.length)(ne:a≠b)(l:1<=q)(m:q<=aY s.1 a)(n:q<=zu p b- aY s.1 b) (w:aY s.2 b=0\/aY s.2 b=aY s.2 a):aiY p s (mq s a b q) a b q:=by
 have⟨j,p2⟩:=bh k;have h:=F1 p2;have k1:=h.c;have r:=h.w;have⟨o,c2⟩:=zY p2 c d;have⟨d1,d2⟩:=zY p2 f g;have⟨v,x⟩:=(z8 j).1 b f g;have⟨t,u⟩:=(z8 j).1 a c d;have w2:u0 .i64 (aY s.1 a- q)=aY s.1 a- q:=nu (by omega) (by omega);have w3:u0 .i64 (aY s.1 b+q)=aY s.1 b+q:=nu (by omega) (by omega);have i:=alF h a b q;have e:mq s a b q=((s.1.set a.toNat (aY s.1 a- q)).set b.toNat (aY s.1 b+q),bif aY s.1 a==q then(s.2.set b.toNat (aY s.2 a)).set a.toNat 0 else s.2.set b.toNat (aY s.2 a)):=by grind[mq,aks,amd]
 rw[e]at i⊢;refine⟨c,d,f,g,ne,l,m,n,w,i,?_,?_,?_,?_,?_⟩;all_goals grind[amd,aY,aks,trans,h0]
theorem aoo{p s}(c:a8 p s=0){m}(h:mv p s m=0):∃q,aiY p s (ap p s m) m.1 m.2 q:=by have⟨j,k⟩:=bh c;have⟨g,f,m1,m2,i⟩:=akm c h;have⟨⟨d,e⟩,a,b⟩:=aal g;have⟨d1,d2⟩:=zY k a b;have⟨l,n⟩:=(z8 j).1 m.2 a b;refine⟨_,anY c d e a b f ?_ ?_ ?_ i⟩<;>rw[nu (by omega) (by omega)]<;>unfold bu<;>split<;>omega
theorem anI{p s t a b q}(c:a8 p s=0)(M:aiY p s t a b q):a8 p t=0:=by have⟨o,d⟩:=bh c;have⟨l,k⟩:=(alg p s).1 d;have⟨e,f,g,h,ne,r,u,v,n,m,e1,e2,i,j,e5⟩:=M;grind[a8,alg,h0,h1,amE,e1,e2,e5]
theorem x7{p s}(a:a8 p s=0){m}(h:mv p s m=0):a8 p (ap p s m)=0:=by grind[aoo,anI]
def rn(p:Pl):Nat->St->List (Int×Int)->St×Int×Int|_,s,[]=>(s,0,0)|i,s,m::r=>bif mv p s m==0 then rn p (i+1) (ap p s m) r else(([],[]),(i:Int),mv p s m)
def n5(p:Pl)(s:St)(l:List (Int×Int)):St×Int×Int:=bif decide (500<l.length)then(([],[]),0,8)else rn p 0 s l
theorem abw(p)(i)(s)(m)(r):rn p i s (m::r)=bif mv p s m==0 then rn p (i+1) (ap p s m) r else(([],[]),(i:Int),mv p s m):=rfl
theorem v51{n}(m:1000<=n){p}(hp:jg p){s}(c:a8 p s=0)(l:List (Int×Int)):s51 n p s l=some (n5 p s l):=by have w:=(aaK (bh c).1).2.1;unfold s51 n5;rw[show decide (((fV l))>(500:Int))=decide _ from Ig _ 500];cases k:decide (500<l.length)with|true=>rfl|false=>
  have y:=of_decide_eq_false k;refine abv (n:=n) l (λ i s=>(l,(i:Int),p.1,p.2,s.1,s.2,())) (λ i s r=>some (rn p i s r)) (λ _ s=>a8 p s=0) (by unfold vj;omega) ?_ ?_ s c (by omega);intro i s x r o q t d f g a again B;have b:=F1 (bh a).2;simp only[ag1,f,cond_true,d,k9,g];rw[show x6 n _ _ x=x6 n p s x from rfl,v40 m hp b,k9,abw];simp[bne];cases e:(mv p s x==0)with
  |true=>
   have j:mv p s x=0:=by grind
   have⟨A,z,_⟩:=akm a j;grind[v42,x7]|false=>rfl
  intro s h a again;have b:=F1 (bh a).2;have u:=b.c;have v:=b.w;simp[ag1,h,cond_false];rw[(MK n s (by omega) (by omega))];rfl
theorem v50(n)(l:List (Int×Int))(h:l.length<=1000):s50 n l=some l:=by grind[s50,zG]
theorem aqf{α:Type}{f g}:(l:List α)->(∀x∈l,f x=g x)->l.all f=l.all g| [],_=>rfl|x::r,h=>by grind
theorem aok{p s m}(h:mv p s m=0):oV p m=true:=by grind[mv]
theorem x9{p s m}:m∈u4 p s↔mv p s m=0:=by unfold u4 K0 x8;simp[List.mem_flatMap,List.mem_range'_1];constructor;grind;intro h;have⟨⟨a,b⟩,c,d⟩:=aal (aok h);refine⟨m.1.toNat,by omega,m.2.toNat,by omega,?_⟩;grind
abbrev ND:=I6×I6
instance aoU:DecidableEq ND:=instDecidableEqProd
theorem ali{a b}(h:i6 a=i6 b)(c:a.length=b.length)(h6:a.length<=6):a=b:=by grind[ahH,List.append_inj]
theorem al4{p}(h6:p.1.length<=6){a b}(c:uv p a)(d:uv p b)(h:nd a=nd b):a=b:=have:=c.c;have:=c.w;have:=d.c;have:=d.w;Prod.ext (ali (congrArg Prod.fst h) (by omega) (by omega)) (ali (congrArg Prod.snd h) (by omega) (by omega))
theorem akR{p}(h6:p.1.length<=6){a}(b:uv p a){k:List St}(c:∀e∈k,uv p e):decide (nd a∈k.map nd)=decide (a∈k):=by grind[al4]
theorem amP(a b:ND):Ty.f dW a b=true↔a=b:=by grind[Ty.f]
def MI(m:List (ND×Bool))(k:List ND):=m.length<=k.length/\(∀z∈m,z.2=true/\z.1∈k)/\∀x∈k,(x,true)∈m
theorem aqq:MI [] []:= ⟨N6 _,by simp,by simp⟩
theorem ahO{m k}(h:MI m k)(z:ND):(j4 (Ty.f dW) m z).getD false=decide (z∈k):=by
 have⟨_,a,b⟩:=h;have key:∀m,(∀z∈m,z.2=true)->(j4 (Ty.f dW) m z).getD false=decide (z∈m.map (·.1)):=by intro m;induction m with|nil=>intro _;rfl|cons x r c=>grind[j4,N4,Ty.f,amP,h0,R1]
 grind
theorem aoG(e:ND):∀m:List (ND×Bool),(lz (Ty.f dW) m e true).length<=m.length+1/\(e,true)∈lz (Ty.f dW) m e true/\(∀x∈lz (Ty.f dW) m e true,x∈m\/x=(e,true))/\∀x∈m,x.2=true->x∈lz (Ty.f dW) m e true
 | []=>by simp[lz]|x::r=>by have⟨a,b,c,d⟩:=aoG e r;grind[lz,Ty.f,amP,N4,R1,id]
theorem aqw{m k}(h:MI m k)(e):MI (lz (Ty.f dW) m e true) (k++ [e]):=by have⟨h0,f,g⟩:=h;have⟨a,b,c,d⟩:=aoG e m;refine⟨by grind,λ z j=>?_,λ x i=>?_⟩;all_goals grind
def gu(p:Pl):List St->List St->Int|_,[]=>0|k,s::r=>bif j5 p s==0 then(bif decide (s∈k)then 26 else gu p (k++ [s]) r)else j5 p s
def gk(p:Pl)(t:Tk)(l:List St):=decide (t.1∈l)&&l.all λ s=>!xN t s&& (u4 p s).all λ m=>decide (ap p s m∈l)
def QT(p:Pl)(t:Tk)(l:List St):=bif gu p [] l==0 then(bif gk p t l then 0 else 20)else gu p [] l
theorem anr{α:Type}{g}:∀{l:List α}{i:Nat}{x:α},l[i]?=some x->l.all g=(g x&& (l.eraseIdx i).all g)
 |y::l,0,x,h=>by grind|y::l,i+1,x,h=>by have a:=anr (g:=g) (l:=l) (i:=i) (x:=x) h;grind
theorem aoH(n)(t:Option aeu)(u:List MvN)(c:List (ND×Bool))(b)(it:List (ND×Bool))(K done):∀r:List MvN,la (xM n) (K,()) done r (t,u,c,b,it,())=bif r.all (λ y=>(j4 (Ty.f dW) c y.2).getD false)then done (t,u,c,b,it,())else K (false,())
 | []=>rfl|x::r=>by rw[la];simp[xM,aa1];rw[aoH n t u c b _ K _ r];grind
theorem al3{n}(y:5000<=n){p}(hp:jg p)(f:(mQ p).2=0){t}(j:uv p t.2)(l:List St)(a:∀s∈l,j5 p s=0)(m)(d:MI m (l.map nd))(G:ND->Bool) (c:∀s∈l,G (nd s)=(!xN t s&& (u4 p s).all λ m=>decide (ap p s m∈l))):∀q(it:List (ND×Bool)),it.length<q->(∀z∈it,z.1∈l.map nd)->cq (JR n) q (some (GC p t),m,false,it,()) (λ _=>some true,λ(E,_)=>some E,())=some (it.all λ z=>G z.1)
 |0,it,h,_=>by omega|q+1,it,h,o=>by
  rw[cq];simp[JR];refine aor (λ e=>by grind) λ i x k=>?_;have⟨s,g,es⟩:=vR.1 (o x (vo k));have b:=(aaK f).2.1;have A:a8 p s=0:=by grind[a8]
  have u:ud n (some (GC p t)) x.1=some (xN t s):=by rw[<-es];exact v92 (by omega) hp b j (F1 (a s g)) _
  have r:tN n (GC p t).1 x.1=some ((u4 p s).map (Oc p s)):=by grind[tN,GC,nd,Gt,bind,anO]
  have w:G x.1=_:=es▸c s g;rw[anr k,w];simp[u,k9];cases xN t s with|true=>rfl|false=>simp[cond_false,vL,a6,r,k9];rw[aoH,List.all_map,show((u4 p s).all _)=(u4 p s).all λ q=>decide (ap p s q∈l)from aqf _ λ q B=>by show(j4 (Ty.f dW) m (nd _)).getD _=_;rw[ahO d,akR b (F1 (bh (x7 A (x9.1 B))).2) λ e v=>F1 (a e v)]];cases(u4 p s).all _ with|false=>rfl|true=>simp[cond_true,a6];exact al3 y hp f j l a m d G c q _ (by grind) λ z D=>o z (List.mem_of_mem_eraseIdx D)
theorem aps{n}(j:5000<=n){p}(hp:jg p){t}(hT:kX p t=0)(l)(x:l.length<=4000)(b:∀s∈l,j5 p s=0)(m)(a:MI m (l.map nd)):G5 n m (some (GC p t))=some (gk p t l):=by have⟨g,k⟩:=L6 hT;have⟨r,v⟩:=RJ k;have d:=(aaK g).2.1;unfold G5;rw[k9,show(GC p t).2.2=nd _ from rfl,ahO a,akR d r λ e i=>F1 (b e i)];unfold gk;cases decide (t.1∈l)with|false=>rfl|true=>
  simp[u2,cond_false,a6];let G:ND->Bool:=λ z=>l.all λ s=>!decide (nd s=z)|| (!xN t s&& (u4 p s).all λ m=>decide (ap p s m∈l));have f:∀s∈l,G (nd s)=(!xN t s&& (u4 p s).all λ m=>decide (ap p s m∈l)):=λ s c=>by cases w:(!xN t s&& (u4 p s).all _)with|false=>grind|true=>refine y3.2 λ u o=>?_;by_cases e:nd u=nd s;have:=al4 d (F1 (b u o)) (F1 (b s c)) e;grind;grind
  have y:m.length<=4000:=by have:=a.1;grind
  rw[al3 j hp g v l b m a G f n m (by omega) λ z q=>(a.2.1 z q).2];congr 1;rw[Bool.eq_iff_iff,y3,y3];constructor;intro h s c;rw[<-f s c];exact h (nd s,true) (a.2.2 _ (by grind));grind
theorem apD(a b:Nat):((a:Int).tmod (b:Int))=((a%b:Nat):Int):=rfl
theorem amZ(a b:Nat)(h:b≠0):NL (a:Int) (b:Int)=some ((a%b:Nat):Int):=by grind[NL,apD]
theorem alS(n):∀(q a b:Nat),b<q->cq (Ov n) q ((b:Int),(a:Int),()) (λ(t,_)=>some t,())=some ((B1 a b:Nat):Int)
 |0,a,b,h=>by omega|q+1,a,b,h=>by rw[cq];simp[Ov];cases b with|zero=>simp|succ b=>
   have c:(((b+1:Nat):Int) !=0)=true:=by rfl
   have d:a%(b+1)<b+1:=Nat.mod_lt _ (by omega);rw[c,cond_true,amZ a _ (by omega),k9,alS n q _ _ (by omega),ah4 a _,Nat.gcd_rec _ a,ah4]
theorem aov{n}(d:1000<=n)(a b:Nat)(c:b<=50):aeO n a b=some ((B1 a b:Nat):Int):=alS n n a b (by omega)
def gc:List Vs->List Int->Nat->Nat|v::vs,c::cs,g=>gc vs cs (B1 (B1 g v.2.toNat) c.toNat)|_,_,g=>g
theorem akF:∀vs cs g,gc vs cs g∣g/\∀(i:Nat) v c,vs[i]?=some v->cs[i]?=some c->gc vs cs g∣v.2.toNat/\gc vs cs g∣c.toNat
 | [],_,g=> ⟨ahM _,by simp⟩|_::_,[],g=> ⟨ahM _,by simp⟩|v::vs,c::cs,g=>by have⟨a,f⟩:=akF vs cs (B1 (B1 g v.2.toNat) c.toNat);have d1:=Tp (B1 g v.2.toNat) c.toNat;refine⟨zl a (zl d1 (Tp _ _)),λ i u d e b=>?_⟩;cases i with|zero=>cases e;cases b;exact⟨zl a (zl d1 (S3 _ _)),zl a (S3 (B1 g v.2.toNat) c.toNat)⟩|succ i=>exact f i u d e b
structure apC(vs:List Vs)(cs:List Int):Prop where
 a:cs.length=vs.length
 b:∀(i:Nat) v c,vs[i]?=some v->cs[i]?=some c->1<=v.2/\v.2<=50/\0<=c/\c<=50
theorem ako{p s}(f:a8 p s=0):apC p.1 s.1:=by have⟨d,b⟩:=bh f;refine⟨(F1 b).c,λ i v c g m=>?_⟩;have n:=(u5.1 g).1;have⟨h,j⟩:=(z8 d).1 (i:Int) (by omega) (by omega);have⟨k,l⟩:=zY b (a:=(i:Int)) (by omega) (by omega);grind[zu,aY,F0]
theorem anW{n}(a:1000<=n){p}(hp:jg p){t}(b:a8 p t.1=0):JZ n (some (GC p t))=some ((gc p.1 t.1.1 0:Nat):Int):=by
 have S:=ako b;have B:=(aaK (bh b).1).2.1;refine abv (n:=n) _ (λ i(g:Nat)=>(some (GC p t),p.1,(p.1.length:Int),(i:Int),(g:Int),())) (λ i g r=>some ((gc r (t.1.1.drop i) g):Int)) (λ _ _=>True) (by unfold vj;omega) ?_ ?_ 0 trivial (by omega);intro i g x r q d u e f j _ again o;have⟨c,A,c2,c3⟩:=kG (s:=t.1.1) (i:=i) (by rw[S.a];omega);have⟨v,w,y,z⟩:=S.b i x c d c3;have k:(x.2:Int)=(x.2.toNat:Int):=by omega
 have l:c=(c.toNat:Int):=by omega
 have m:aG [(GC p t).2.2.1.1,(GC p t).2.2.1.2.1,(GC p t).2.2.1.2.2.1,(GC p t).2.2.1.2.2.2.1,(GC p t).2.2.1.2.2.2.2.1,(GC p t).2.2.1.2.2.2.2.2] (i:Int)=some c:=(g6 t.1.1 (by omega)).trans (by grind);simp only[acX,f,cond_true,e,k9];rw[k,aov a g _ (by omega),k9,m,k9,l,aov a _ _ (by omega),k9,j,o _ trivial,c2];rfl;intro g h _ again;simp[acX,h,cond_false];rfl
def mZ(b c:Int):=(c != -1)&& (c.tmod b !=0)
theorem apv{n}(g:1000<=n)(l)(f:l.length<=900)(b)(d:b≠0):alf n l (λ y=>FQ n y b)=some (l.any (mZ b)):=by
 have e:∀c,FQ n c b=some (mZ b c):=λ c=>by grind[FQ,NL,jv,mZ]
 have:=iy (n:=n) (body:=ack n) (ks:=(λ(_)=>some ((-1:Int)),λ(a,_)=>some (a),())) l (λ i=>(l,(λ y=>FQ n y b),((fV l:Nat):Int),(i:Int),())) (λ i r=>some (match r.findIdx? (mZ b) with|some k=>((i+k:Nat):Int)|none=> -1)) (by unfold vj;omega) ?_ ?_ (by omega);show(aaY n l _).bind _=_;rw[show aaY n l _=_ from this,k9]
 congr 1;grind;all_goals grind[h1,h2,h5,h6,ack,mZ]
def R0(p:Pl)(t:Tk)(b:Int):=(((gc p.1 t.1.1 0:Nat):Int).tmod b==0)&&t.2.1.any (mZ b)
def JD(p:Pl)(t:Tk)(b:Int):Int:=bif cy b 2 50 then(bif R0 p t b then 0 else 20)else 2
def cE(p:Pl)(t:Tk)(e:Int):=bif kX p t==0 then e else kX p t
theorem afk{p t}(hT:kX p t=0):a8 p t.1=0:=by have⟨a,b⟩:=L6 hT;grind[a8,rZ,j5]
theorem v72{n}(a:1000<=n){p}(hp:jg p)(t:Tk)(d:t.2.1.length<=900)(b):s72 n p t b=some (cE p t (JD p t b)):=by unfold s72 cE;rw[show vm n _ _=vm n p t from rfl,O6 a hp,k9,Ra,k9,tP,k9,BO a,BP,k9];cases h:(kX p t==0)with|false=>grind|true=>
  have hT:kX p t=0:=by grind
  simp only[cond_true,bne_self_eq_false,cond_false];unfold JD;cases e:cy b 2 _ with|false=>rfl|true=>
   have c:b≠0:=by grind[cy]
   rw[show(ia true 2)=0 from rfl];rw[apv a _ d b c,k9,anW a hp (afk hT),k9,show NL ((gc p.1 t.1.1 0:Nat)) b=some _ from if_neg c,k9,tP,k9];rfl
theorem v73{n}(a:1000<=n){p}(hp:jg p)(t:Tk):s73 n p t=some (bif kX p t==0 then(((gc p.1 t.1.1 0:Nat):Int),0)else(0,kX p t)):=by grind[s73,vm,O6,kX,bne,bne_self_eq_false,anW,afk]
def AI(e:Int)(m:Nat):=bif e==0 then((m:Int),0)else(0,e)
theorem v70{n}(o:5000<=n){p}(hp:jg p)(t:Tk)(l:List St)(k:l.length<=4000):s70 n p t l=some (AI (cE p t (QT p t l)) l.length):=by unfold s70 cE AI;rw[show vm n _ _=vm n p t from rfl,O6 (by omega) hp,k9,(decide_eq_true (by omega)),tP,k9,BO (by omega),BP,k9];cases h:(kX p t==0)with|false=>grind|true=>
  have hT:kX p t=0:=by grind
  simp[cond_true,bne_self_eq_false,cond_false];refine abv (n:=n) l (λ i m=>(l,some (GC p t),l,(fV l:Int),(i:Int),m,())) (λ i m r=>some (bif (bif gu p (l.take i) r==0 then(bif gk p t l then 0 else 20)else gu p (l.take i) r)==0 then((fV l:Int),0)else(0,bif gu p (l.take i) r==0 then(bif gk p t l then 0 else 20)else gu p (l.take i) r))) (λ i m=>MI m ((l.take i).map nd)/\∀s∈l.take i,j5 p s=0) (by unfold vj;omega) ?_ ?_ _ ⟨by simpa using aqq,by simp⟩ (by omega);intro i m x r w y z d f A c again C;have⟨a,b⟩:=c;have g:px n (GC p t).1 (x.1,x.2)=some (j5 p x):=SZ (by omega) hp x;simp[ac7,f,cond_true,d,k9,g,gu];cases e:(j5 p x==0)with
  |false=>grind|true=>
   have u:j5 p x=0:=by grind
   rw[show tj n _=some (nd x)from rfl,k9,ahO a,akR ((aaK (L6 hT).1).2.1) (F1 u) λ s q=>F1 (b s q)];grind[decide,BD,aqw,nd,vE]
  intro m h c again;have⟨a,b⟩:=c;rw[List.take_length]at a b;simp[ac7,h,cond_false,gu];have B:aaV n (some (GC p t)) (λ v=>G5 n m v)=some (bif gk p t l then 0 else 20):=by unfold aaV;dsimp only;rw[aps o hp hT l k b m a,k9,tP];rfl
  grind
def z0(p:Pl):St:=(x3 p.1.length 0,x3 p.1.length 0)
def QP(p:Pl)(t:Tk)(l:List (Int×Int)):=bif (n5 p t.1 l).2.2==0 then(bif xN t (n5 p t.1 l).1 then 0 else 20)else(n5 p t.1 l).2.2
def mE(p:Pl)(t:Tk)(l:List (Int×Int)):=bif kX p t==0 then QP p t l else kX p t
def ym(s:St):=decide (s.1.length<=10)&&decide (s.2.length<=10)
theorem v71{n}(k:5000<=n)(l:List St)(j:l.length<=4000)(h:∀s∈l,ym s=true):HY n l=some l:=by refine Eq.trans (abv (n:=n) l (λ i o=>(l,(i:Int),o,())) (λ i o r=>some (o++r)) (λ i o=>o.length<=i) (by unfold vj;omega) ?_ ?_ _ (by simp) (by omega)) rfl;intro i o x r b a c d e f g again p;have m:=h x (vo a);grind[ym,Tl,MK,zG];grind[Tl]
theorem alk{p s}(z:a8 p s=0){m}(x:mv p s m=0){b}(o:∀c∈s.1,b∣c)(A:∀a:Int,0<=a->a<p.1.length->b∣zu p a):∀c∈(ap p s m).1,b∣c:=by
 have⟨k,l⟩:=bh z;have k1:=(F1 l).c;have⟨⟨i,j⟩,d,f⟩:=aal (aok x);have⟨B,c2⟩:=zY l i j;have⟨d1,d2⟩:=zY l d f;have⟨H,I⟩:=(z8 k).1 m.2 d f;have⟨F,G⟩:=(z8 k).1 m.1 i j;have n:∀a:Int,0<=a->a<p.1.length->aY s.1 a∈s.1:=λ a h0 k=>by grind[aY,u1,zr]
 have y:∃q,q=bu (aY s.1 m.1) (u0 .i64 (zu p m.2- aY s.1 m.2))/\b∣q/\0<=q/\q<=aY s.1 m.1/\q<=zu p m.2- aY s.1 m.2:=by rw[nu (by omega) (by omega)];refine⟨_,rfl,?_⟩;unfold bu;split;exact⟨ajn (A m.2 d f) (o _ (n m.2 d f)),by omega,by omega,by omega⟩;grind
 have⟨q,e,w,C,D,E⟩:=y;intro c g;unfold ap at g;rw[<-e]at g;rcases K3 g with h|h;rcases K3 h with h|h;grind;rw[h,nu (by omega) (by omega)];exact ajn (o _ (n m.1 i j)) w;grind[nu,Int.dvd_add]
theorem ah2:∀a b c d,xl a b c d=true->a.length=c.length->b.length=c.length->d.length=c.length->∀x∈a,x= -1\/x∈c| [],_,_,_,_,_,_,_,x,e=>by trivial|a::l1,b::l2,c::l3,d::l4,h,e1,e2,e3,x,e=>by rw[LK]at h;simp[y2,Bool.or_eq_true,beq_iff_eq]at h;rcases x0.1 e with rfl|e;grind;exact(ah2 _ _ _ _ h.2 (by grind) (by grind) (by grind) x e).imp id (by grind)|_::_,_,[],_,_,e1,_,_,_,_=>by trivial|_::_,[],_::_,_,_,_,e2,_,_,_=>by trivial|_::_,_::_,_::_,[],_,_,_,e3,_,_=>by trivial
abbrev ZN:=dW
abbrev Rm:=List (ND×Int×ND×Int×Int)
abbrev FD:=ND×Int×ND×Int×Int
abbrev mg(r:Rm)(z:ND):=j4 (Ty.f ZN) r z
abbrev mp(r:Rm)(z:ND)(v:Int×ND×Int×Int):Rm:=lz (Ty.f ZN) r z v
theorem aku(a b:ND):Ty.f ZN a b=decide (a=b):=by grind[Ty.f]
theorem r8(e z)(v):∀r,mg (mp r e v) z=if z=e then some v else mg r z| []=>by grind[lz,j4,aku]|x::r=>by have a:=r8 e z v r;grind[lz,j4,aku]
theorem acw(e)(v):∀r,mg r e=none->mp r e v=r++ [(e,v)]| [],_=>rfl|x::r,h=>by have a:=acw e v r;grind[lz,j4]
theorem Nx{e}:∀{r:Rm},mg r e=none↔e∉r.map (·.1)| []=>by simp[j4]|x::r=>by have a:=Nx (e:=e) (r:=r);grind[j4,aku]
theorem ama(e)(v)(r)(h:mg r e=none):(mp r e v).length=r.length+1:=by grind[acw]
def wH(a b:ND):=eR (ry a) (ry b)<0
theorem anm{a b:ND}(h:eR (ry a) (ry b)<=0)(c:a≠b):wH a b:=by rcases Int.lt_or_eq_of_le h with h|h;exact h;exact absurd (agC (x:=a) (y:=b) (LC rfl h)) c
def n4:List FD->Rm->List ND->Option (Rm×List ND)| [],r,l=>some (r,l)|f::fs,r,l=>bif (mg r f.1).isSome then n4 fs r l else bif decide (4000< (mp r f.1 f.2).length)then none else n4 fs (mp r f.1 f.2) (l++ [f.1])
theorem amR{n}(p:Pl)(L:List (List ND))(x:List FD)(r:Rm)(d:x.length<n)(m:x.length<=1000000)(k0 k1):cq (Te n) n ((fV x:Int),0,p.1,p.2,r,L,([]:List ND),x,()) (k0,k1,())=(match n4 x r [] with|some (r',l')=>k0 (p.1,p.2,r',L,l',())|none=>k1 (none,false,())):=by
 refine abv (n:=n) x (λ i A=>((fV x:Int),(i:Int),p.1,p.2,A.1,L,A.2,x,())) (λ i A y=>match n4 y A.1 A.2 with|some (r',l')=>k0 (p.1,p.2,r',L,l',())|none=>k1 _) (λ i A=>A.2.length<=i) (by unfold vj;omega) ?_ ?_ (r,[]) (by simp) d;intro i A f y e g j a b c l again o;simp only[Te,b,cond_true,a,k9,n4,c];cases h:(mg _ _).isSome with
 |true=>grind|false=>simp[cond_false];rw[show(decide _)=decide (4000< (mp A.1 f.1 f.2).length) from by grind];cases k:decide (4000< (mp _ _ _).length) with|true=>rfl|false=>simp[cond_false];rw[zG (by grind),k9];simp_all
 grind[Te,n4]
def u9(r:Rm):=(r.map (·.1)).Nodup
theorem u9.a{r}(h:u9 r){e v}(a:mg r e=none):u9 (mp r e v):=by grind[u9,acw,List.nodup_append,vE,Nx]
structure Ins(fs:List FD)(r:Rm)(l:List ND)(r':Rm)(l':List ND):Prop where
 b:r'.length<=4000/\r.length+l'.length=r'.length+l.length
 a:∀z v,mg r z=some v->mg r' z=some v
 e:∀z∈l',z∈l\/mg r z=none/\∃v,(z,v)∈fs/\mg r' z=some v
 g:∀f∈fs,mg r' f.1≠none
 c:∀z v,mg r' z=some v->mg r z=some v\/z∈l'
 h:∀z∈l,z∈l'
 d:u9 r'
theorem ae8:∀fs r l{r' l'},r.length<=4000->u9 r->n4 fs r l=some (r',l')->Ins fs r l r' l'
 | [],r,l,r',l',k,d,h=>by cases h;exact⟨⟨k,rfl⟩,λ _ _ h=>h,λ _ h=>.inl h,by simp,λ _ _ h=>.inl h,λ _ h=>h,d⟩|f::fs,r,l,r',l',k,d,h=>by
  unfold n4 at h;cases i:(mg r f.1).isSome with|true=>
   rw[i]at h;have I:=ae8 fs r l k d h;have⟨v,q⟩:=Jx.1 i;exact⟨I.b,I.a,λ z b=>(I.e z b).imp id (by grind),λ g c=>by rcases x0.1 c with rfl|c;rw[I.a _ _ q];simp;exact I.g g c,I.c,I.h,I.d⟩|false=>
   rw[i,cond_false]at h;have j:mg r f.1=none:=by simp_all
   cases o:decide (4000< (mp r f.1 f.2).length) with|true=>grind|false=>rw[o,cond_false]at h;have s:=ama f.1 f.2 r j;have I:=ae8 fs _ _ (by grind) (d.a j) h;have m:mg r' f.1=some f.2:=I.a _ _ (by rw[r8];simp);refine⟨⟨I.b.1,by have:=I.b.2;grind⟩,λ z v b=>I.a z v (by grind[r8]),λ z b=>?_,λ g c=>?_,λ z v b=>?_,λ z b=>I.h z (by simp[b]),I.d⟩;rcases I.e z b with a|⟨a,v,n,p⟩;rcases y6.1 a with a|a;exact .inl a;obtain rfl:=vE.1 a;exact .inr ⟨j,f.2,.head _,m⟩;rw[r8]at a;split at a;cases a;exact .inr ⟨a,v,.tail _ n,p⟩;rcases x0.1 c with rfl|c;rw[m];simp;exact I.g g c;rcases I.c z v b with a|a;rw[r8]at a;split at a;rename_i e;subst e;exact .inr (I.h _ (by simp));exact .inl a;exact .inr a
theorem akf:∀fs r l,u9 r->n4 fs r l=none->∃K:List ND,K.Nodup/\4000<K.length/\∀z∈K,mg r z≠none\/∃v,(z,v)∈fs
 | [],r,l,g,h=>by cases h|f::fs,r,l,g,h=>by unfold n4 at h;cases k:(mg r f.1).isSome with
  |true=>rw[k]at h;have⟨K,a,b,c⟩:=akf fs r l g h;grind|false=>
   rw[k,cond_false]at h;have j:mg r f.1=none:=by simp_all
   cases m:decide (4000< (mp r f.1 f.2).length) with|true=>refine⟨(mp r f.1 f.2).map (λ x:FD=>x.1),(show u9 (mp r f.1 f.2) from g.a j),by simpa using m,λ z d=>?_⟩;rw[acw _ _ _ j,z1]at d;rcases y6.1 d with d|d;exact .inl λ e=>Nx.1 e d;simp[abj,agM,vE]at d;subst d;exact .inr ⟨f.2,.head _⟩|false=>rw[m,cond_false]at h;have⟨K,a,b,c⟩:=akf fs _ _ (g.a j) h;refine⟨K,a,b,λ z d=>?_⟩;rcases c z d with i|⟨v,n⟩;rw[r8]at i;split at i;rename_i e;subst e;exact .inr ⟨f.2,.head _⟩;exact .inl i;exact .inr ⟨v,.tail _ n⟩
theorem akQ:∀fs r l{r' l'},fs.Pairwise (λ a b=>eR (ry a.1) (ry b.1)<=0)->l.Pairwise wH->(∀z∈l,mg r z≠none/\∀f∈fs,eR (ry z) (ry f.1)<=0)->n4 fs r l=some (r',l')->l'.Pairwise wH
 | [],r,l,r',l',_,d,_,h=>by cases h;exact d|f::fs,r,l,r',l',hs,d,hz,h=>by
  have⟨s,n⟩:=C8.1 hs;unfold n4 at h;cases j:(mg r f.1).isSome with
  |true=>rw[j]at h;exact akQ fs r l n d (by grind) h|false=>
   rw[j,cond_false]at h;have p:mg r f.1=none:=by simp_all
   cases k:decide (4000< (mp r f.1 f.2).length) with|true=>rw[k]at h;cases h|false=>rw[k,cond_false]at h;refine akQ fs _ _ n ?_ (λ z q=>?_) h;rw[N5];refine⟨d,by simp,λ a m b o=>?_⟩;rw[vE.1 o];exact anm ((hz a m).2 f (.head _)) λ e=>(hz a m).1 (e▸p);rcases y6.1 q with c|c;exact⟨by rw[r8];split<;>simp[(hz z c).1],λ g i=>(hz z c).2 g (.tail _ i)⟩;rw[vE.1 c];exact⟨by rw[r8];simp,λ g i=>s g i⟩
abbrev fnd(p:Pl)(k:Int)(x:St)(m:Int×Int):FD:=(nd (ap p x m),k,nd x,m.1,m.2)
theorem ssM{p}(hp:jg p){x}(a:a8 p x=0)(k):N.SS 1000001 p k (nd x)=(u4 p x).map (fnd p k x):=by unfold N.SS;rw[show tN _ p _=(Gt _ p _).bind some from rfl,anO (by omega) hp a];simp;intros;rfl
abbrev K2(p:Pl)(k:Int)(l:List ND):List FD:=Rs.yV (l.flatMap (N.SS 1000001 p k))
theorem amL{n p}(h:(mQ p).2=0)(l:List ND)(k)(h0:l≠[])(d:l.length<=4000):OZ n p l k=some (K2 p k l)/\(K2 p k l).length<=144000:=by have c:=aaK h;have b:=(z8 h).2;constructor;exact if_pos (by grind);rw[<-(Rs.OE _).length_eq];have:=aiu (N.SS 1000001 p k) 36 (λ a=>N.NA (by omega) (by omega) (by omega) b k a) l;omega
theorem aiQ{p k l f}:f∈K2 p k l↔∃z∈l,f∈N.SS 1000001 p k z:=by grind[Rs.OE]
theorem anZ(p)(k)(l):(K2 p k l).Pairwise (λ a b=>eR (ry a.1) (ry b.1)<=0):=(Rs.SG _).imp λ {a b} h=>by have:eR (ry a.1++ry a.2.2.1) (ry b.1++ry b.2.2.1)<=0:=h;rw[JJ (l:=ry a.1) (l':=ry b.1) _ _ rfl]at this;grind
def Rc(p:Pl)(s:St):Nat->St->Prop|0,x=>x=s|i+1,x=>∃y m,Rc p s i y/\mv p y m=0/\ap p y m=x
structure nZ(p:Pl)(s:St)(r:Rm)(L:List (List ND))(last:List ND):Prop where
 a:∀i c z,L[i]?=some c->z∈c->∃x,Rc p s i x/\a8 p x=0/\nd x=z/\∃v,mg r z=some v/\v.1=(i:Int)/\(0<i->∃y m e,L[i- 1]?=some e/\nd y∈e/\a8 p y=0/\mv p y m=0/\ap p y m=x/\v.2=(nd y,m.1,m.2))
 d:∀z v,mg r z=some v->∃(i:Nat)(c:List ND),L[i]?=some c/\z∈c
 h:∀i c x m,L[i]?=some c->nd x∈c->a8 p x=0->mv p x m=0->i+1<L.length\/last= []->∃v,mg r (nd (ap p x m))=some v/\v.1<=(i:Int)+1
 j:last≠[]->∃l,L=l++ [last]
 b:L.length<=r.length/\r.length<=4000/\last.length<=r.length
 k:∃v,mg r (nd s)=some v/\v.1=0
 g:∀c∈L,c.length<=4000/\c≠[]/\c.Pairwise wH
 f:u9 r
theorem nZ.n{p}(hp:jg p){s r r' L last l'}(I:nZ p s r L last)(h0:last≠[])(h:n4 (K2 p L.length last) r []=some (r',l')):nZ p s r' (bif l'.isEmpty then L else L++ [l']) l':=by
 have J:=ae8 _ _ _ I.b.2.1 I.f h;have S:=akQ _ _ _ (anZ p L.length last) ai3 (by simp) h;obtain⟨d,rfl⟩:=I.j h0;have A:(d++ [last])[d.length]?=some last:=by simp
 have new:∀z∈l',∃y m,Rc p s d.length y/\a8 p y=0/\mv p y m=0/\z=nd (ap p y m)/\nd y∈last/\∃v,mg r' z=some v/\v.1=((d.length+1:Nat):Int)/\v.2=(nd y,m.1,m.2):=λ z o=>by
  rcases J.e z o with e|⟨e,v,f,u⟩
  trivial;have⟨w,M,h5⟩:=aiQ.1 f;obtain⟨x,g,j,rfl,_⟩:=I.a _ _ _ A M
  grind[ssM,h5,x9]
 have old:∀i c,(d++ [last])[i]?=some c->(bif l'.isEmpty then d++ [last] else(d++ [last])++ [l'])[i]?=some c:=λ i c k=>by
  cases l'.isEmpty
  rw[cond_false,Lk (u5.1 k).1];omega
  trivial
 have C:∀i c,(bif l'.isEmpty then d++ [last] else(d++ [last])++ [l'])[i]?=some c->(d++ [last])[i]?=some c\/i=d.length+1/\c=l'/\l'≠[]:=λ i c k=>by
  grind
 have T:∀z v,mg r' z=some v->v.1<=((d.length+1:Nat):Int):=λ z v n=>by
  rcases J.c z v n with e|e
  have⟨i,c,f,u⟩:=I.d z v e;have⟨_,_,_,_,v2,h5,O,_⟩:=I.a _ _ _ f u
  grind
  grind
 refine⟨λ i c z k o=>?_,λ z v n=>?_,λ i c x m k B K H G=>?_,λ G=>?_,?_,?_,?_,J.d⟩
 rcases C i c k with e|⟨rfl,rfl,e⟩;have⟨x,g,j,l,v,q,t,D⟩:=I.a _ _ _ e o;refine⟨x,g,j,l,v,J.a _ _ q,t,λ h0=>?_⟩
 grind
 obtain⟨y,m,g,j,l,rfl,D,v,q,t,N⟩:=new z o;exact⟨_,⟨y,m,g,l,rfl⟩,x7 j l,rfl,v,q,t,by grind⟩;rcases J.c z v n with e|e;have⟨i,c,f,u⟩:=I.d z v e;grind;refine⟨d.length+1,_,?_,e⟩;grind;rcases C i c k with e|⟨rfl,rfl,e⟩;rcases A1 (i+1) (d++ [last]).length with f|f;have⟨v,g,j⟩:=I.h i c x m e B K H (.inl f);exact⟨v,J.a _ _ g,j⟩;have F:i=d.length:=by grind
 subst F;rw[A]at e;cases e;have E:fnd p ((d++ [last]).length:Int) x m∈K2 p ((d++ [last]).length:Int) last:=aiQ.2 ⟨_,B,by grind[ssM,x9]⟩;have⟨v,n⟩:=y8.1 (J.g _ E);grind
 grind
 grind
 have a:=J.b;have b:=I.b;grind[y7];have⟨v,a,b⟩:=I.k;exact⟨v,J.a _ _ a,b⟩;have a:=J.b;intro c P;have:c∈d++ [last]\/c=l'/\l'≠[]:=by
  grind
 obtain h|⟨rfl,R⟩:=this;exact I.g c h
 grind
def Big(p:Pl)(s:St):=∃K:List ND,K.Nodup/\4000<K.length/\∀z∈K,∃j x,Rc p s j x/\a8 p x=0/\nd x=z
theorem nZ.o{p}(hp:jg p){s r L last}(I:nZ p s r L last)(h0:last≠[])(h:n4 (K2 p L.length last) r []=none):Big p s:=by have⟨K,a,b,c⟩:=akf _ _ _ I.f h;refine⟨K,a,b,λ z u=>?_⟩;rcases c z u with g|⟨v,g⟩;have⟨v,q⟩:=y8.1 g;have⟨i,c,n,o⟩:=I.d z v q;have⟨x,k,f,y,_⟩:=I.a _ _ _ n o;grind;obtain⟨j,rfl⟩:=I.j h0;have⟨w,t,l⟩:=aiQ.1 g;obtain⟨x,k,f,rfl,_⟩:=I.a j.length _ _ (by simp) t;rw[ssM hp f]at l;have⟨m,d,e⟩:=vR.1 l;cases e;have d:=x9.1 d;exact⟨j.length+1,_,⟨x,m,k,d,rfl⟩,x7 f d,rfl⟩
theorem alb{n}(g:200000<=n){p}(hp:jg p)(d:(mQ p).2=0){s}(k0 k1):∀m r L last,nZ p s r L last->2*(4001-r.length)+(bif last.isEmpty then 0 else 1)<m->(Big p s/\cq (Ta n) m (last,p.1,p.2,r,L,()) (k0,k1,())=k1 (none,false,()))\/∃r' c,nZ p s r' c []/\cq (Ta n) m (last,p.1,p.2,r,L,()) (k0,k1,())=k0 (r',c,())
 |0,r,L,last,I,h=>by omega|m+1,r,L,last,I,h=>by rw[cq];cases e:last.isEmpty with
  |true=>
   obtain rfl:last= []:=by grind
   exact .inr ⟨r,L,I,rfl⟩|false=>
   have b:last≠[]:=by grind
   have f:=I.b;have⟨i,l⟩:=amL (n:=n) d last (L.length:Int) b (by omega);simp only[Ta];rw[show(decide ((fV last:Int)>0))=true from by grind[y7]];rw[i,k9,amR p L _ r (by omega) (by omega)];cases a:n4 _ r _ with|none=>exact .inl ⟨I.o hp b a,rfl⟩|some y=>
    have⟨r',l'⟩:=y;have J:=I.n hp b a;have K:=(ae8 _ _ _ f.2.1 I.f a).b;have k:=alb g hp d k0 k1 m r' _ l' J (by grind[y7]);grind[y7,zG]
theorem anu{n}(q:200000<=n){p}(hp:jg p){s}(hs:a8 p s=0):(Big p s/\Qs n p (nd s)=some (none,false))\/∃r L,nZ p s r L []/\Qs n p (nd s)=some (some (r,L),true):=by
 unfold Qs;rw[show aG ([[nd s]]) 0=some _ from rfl];have I:nZ p s (mp [] (nd s) (0,((0,0,0,0,0,0),0,0,0,0,0,0),0,0)) [[nd s]] [nd s]:={
  a:=λ i c z l t=>by match i,l with
   |0,l=>cases l;obtain rfl:=vE.1 t;exact⟨s,rfl,hs,rfl,_,by rw[r8,if_pos rfl],rfl,by omega⟩|i+1,l=>trivial
  d:=λ z v o=>by rw[r8]at o;split at o;rename_i e;subst e;exact⟨0,_,rfl,by simp⟩;trivial
  h:=λ i c x m l _ _ _ h=>by grind
  j:=λ _=> ⟨[],rfl⟩
  b:=by rw[ama _ _ _ rfl];simp
  k:= ⟨_,by rw[r8,if_pos rfl],rfl⟩
  g:=by simp
  f:=by unfold u9;rw[acw _ _ _ rfl];simp};rcases alb q hp (bh hs).1 (λ(u,w,_)=>some ((some (u,w)),true)) (λ(y,A,_)=>some (y,A)) n _ _ _ I (by grind) with h|⟨r,L,h1,h2⟩;all_goals grind
theorem nZ.e{p s}(n:a8 p s=0){r L}(I:nZ p s r L []):∀{j:Nat}{x:St},Rc p s j x->a8 p x=0/\∃i c,L[i]?=some c/\nd x∈c/\i<=j| 0,x,h=>by cases h;have⟨v,a,b⟩:=I.k;have⟨i,c,f,d⟩:=I.d _ _ a;have⟨_,_,_,_,w,g,k,_⟩:=I.a _ _ _ f d;grind|j+1,x,⟨y,m,f,d,e⟩=>by subst e;have⟨g,i,c,k,l,q⟩:=I.e n f;refine⟨x7 g d,?_⟩;have⟨v,a,b⟩:=I.h i c y m k l g d (.inr rfl);have⟨t,c2,k1,o⟩:=I.d _ _ a;have⟨_,_,_,_,w,u,z,_⟩:=I.a _ _ _ k1 o;grind
theorem ajp{α:Type}[DecidableEq α]:∀{K A:List α},K.Nodup->(∀z∈K,z∈A)->K.length<=A.length
 | [],_,_,_=>by simp|x::K,A,h,hs=>by have⟨c,a⟩:=TK.1 h;have e:=ajp (K:=K) (A:=A.erase x) a λ z b=>(List.mem_erase_of_ne (by grind)).2 (hs z (.tail _ b));grind
theorem akC{α:Type}{R}(g:∀a b,R a b->R b a->False):∀{l m:List α},l.Pairwise R->m.Pairwise R->(∀x,x∈l↔x∈m)->l=m
 | [],[],_,_,_=>rfl| [],y::m,_,_,h=>absurd ((h y).2 (.head _)) (by simp)|x::l,[],_,_,h=>absurd ((h x).1 (.head _)) (by simp)|x::l,y::m,h1,h2,h=>by
  have⟨j,c⟩:=C8.1 h1;have⟨k,d⟩:=C8.1 h2;have e:x=y:=by rcases x0.1 ((h x).1 (.head _)) with e|e;exact e;rcases x0.1 ((h y).2 (.head _)) with f|f;all_goals grind
  subst e;rw[akC g c d λ z=> ⟨λ i=>?_,λ i=>?_⟩];all_goals grind
theorem alW{n}(l)(h:l.length<=1000):Gu n l=some l:=by grind[Gu,zG]
theorem aly{l m}(h:l.length=m)(h6:m<=6):(l6 (i6 l)).take m=l:=by grind[ahH,List.take_left]
theorem aog{n p s}(c:uv p s)(h6:p.1.length<=6):yw n (nd s) (p.1.length:Int)=some s:=by have a:=c.c;have b:=c.w;unfold yw;rw[show kZ _ 6=some _ from if_pos (by omega)];simp[k9,F0];rw[show[(nd s).1.1,(nd s).1.2.1,(nd s).1.2.2.1,(nd s).1.2.2.2.1,(nd s).1.2.2.2.2.1,(nd s).1.2.2.2.2.2]=l6 (i6 _)from rfl,show[(nd s).2.1,(nd s).2.2.1,(nd s).2.2.2.1,(nd s).2.2.2.2.1,(nd s).2.2.2.2.2.1,(nd s).2.2.2.2.2.2]=l6 (i6 _)from rfl,aly a h6,aly b h6,alW _ (by omega),alW _ (by omega)];rfl
theorem anX{n}(q:5000<=n){p}(h6:p.1.length<=6)(c:List St)(l:c.length<=4000)(m:∀x∈c,uv p x)(L:List (List ND))(t i)(out:List (List St))(k0):cq (ace n) n (L,t,i,c.map nd,(fV (c.map nd):Int),0,p.1,p.2,out,[],()) (k0,())=k0 (L,t,i,p.1,p.2,out,c,()):=by
 rw[x2];refine abv (n:=n) c (λ k(o:List St)=>(L,t,i,c.map nd,(c.length:Int),(k:Int),p.1,p.2,out,o,())) (λ k o r=>k0 (L,t,i,p.1,p.2,out,o++r,())) (λ k o=>o=c.take k) (by unfold vj;omega) ?_ ?_ _ rfl (by omega);intro k o x r d f g h a j b again s;subst b;have e:aG (c.map nd) (k:Int)=some (nd x):=by grind[oR]
 simp[ace,a,cond_true,e,k9];grind[IY,aog,vo,zG,BD];grind[ace]
theorem anz{n}(m:5000<=n){p}(h6:p.1.length<=6)(M:List (List St))(j:M.length<=4000)(l:∀c∈M,c.length<=4000/\∀x∈c,uv p x)(k0):cq (K8 n) n (M.map (·.map nd),(fV (M.map (·.map nd)):Int),0,p.1,p.2,[],()) (k0,())=k0 (M,()):=by
 rw[x2];refine abv (n:=n) M (λ k(o:List (List St))=>(M.map (·.map nd),(M.length:Int),(k:Int),p.1,p.2,o,())) (λ k o r=>k0 (o++r,())) (λ k o=>o=M.take k) (by unfold vj;omega) ?_ ?_ _ rfl (by omega);intro k o x r b d f g h i a again q;subst a;have e:aG (M.map (·.map nd)) (k:Int)=some (x.map nd):=by grind[oR]
 grind[vo,K8,anX,zG,BD];grind[K8]
theorem amB{l:List Int}(p:l.Pairwise (·<=·)):(yt l).Pairwise (·<·)/\∀x,x∈yt l↔x∈l:=by
 have h:∀j,j<l.length->∃x,l[j]?=some x/\l.toArray[j]! =x:=λ j f=> ⟨l[j],u1 f,by grind⟩;have mono:∀i j,i<=j->j<l.length->l.toArray[i]!<=l.toArray[j]!:=λ i j n f=>by grind[Nat.lt_or_eq_of_le,Ls,u5]
 have key:∀m,m<=l.length->(y9 l.toArray m).Pairwise (·<·)/\(∀x∈y9 l.toArray m,∃j,j<m/\l.toArray[j]! =x)/\∀j,j<m->l.toArray[j]!∈y9 l.toArray m:=by
  intro m
  induction m with|zero=>simp_all[y9]|succ m k=>intro o;have⟨a,b,c⟩:=k (by omega);rw[Go.Lib.compactUpTo_succ];cases e:L2 l.toArray m with
   |true=>
    rw[if_pos rfl];have e2:m=0\/l.toArray[m]!≠l.toArray[m- 1]!:=by grind[L2]
    refine⟨N5.2 ⟨a,by simp,λ x d y q=>?_⟩,λ x d=>?_,λ j f=>?_⟩
    all_goals grind[vE,h1,h2,e2,A1,List.mem_append_left]
   |false=>
    grind[e2,L2,h1,h2,A1]
 have⟨a,b,c⟩:=key l.length (N6 _);refine⟨a,λ x=> ⟨λ d=>?_,λ d=>?_⟩⟩;obtain⟨j,h1,rfl⟩:=b x d;grind;obtain⟨j,h1,rfl⟩:=List.mem_iff_getElem.1 d;have⟨y,h2,g⟩:=h j h1;rw[u1 h1]at h2;cases h2;rw[<-g];exact c j h1
theorem amv{n o T}(hT:T.Pairwise (·<·))(j:o≠[])(i:∀x,x∈o↔x∈T)(k:o.length<=5000):((z7 n o).bind λ l=>(zZ n l).bind λ e=>some (e,(0:Int)))=some (T,0):=by have hp:=PH o (λ x y=>decide (x<=y));have⟨f,c2⟩:=amB ((L3 (le:=λ x y:Int=>decide (x<=y)) (λ a b c g h2=>by grind) (λ a b=>by grind) o).imp (λ h=>by grind));unfold z7 zZ;rw[show o.isEmpty=false by grind,cond_false,zG (by omega)];simp only[k9];rw[zG (by rw[hp.length_eq];omega),k9,k9];grind[akC,h2,trans]
theorem alp{α:Type}:∀{l:List α}{i:Nat}{z:α},l[i]?=some z->(z::l.eraseIdx i).Perm l| [],_,_,h=>by trivial|x::l,0,z,h=>by simp_all|x::l,i+1,z,h=>((List.Perm.swap x z _).trans ((alp (l:=l) (i:=i) (by trivial)).cons x))
abbrev vl(v:Int)(z:FD):=aY (l6 z.1.1) v
theorem alw{n}(v)(h0:0<=v)(h6:v<6){R}(k0:List Int×Unit->Option (List Int×Int)):∀m out(it:Rm),it.length<m->out.length+it.length<=5000->(∀o:List Int,o.Perm (out++it.map (vl v))->k0 (o,())=some R)->cq (aao n) m (v,out,it,()) (k0,())=some R
 |0,out,it,h,_,_=>by omega|m+1,out,it,h,f,a=>by rw[cq];simp[aao];refine aor (λ e=>a out (by grind)) λ i z b=>?_;have g:aG (l6 z.1.1) v=some (vl v z):=ov h0 (by trivial);rw[akU h0 h6,k9];refine(congrArg (λ q=>Option.bind q _) g).trans ?_;rw[k9,zG (by grind),k9];refine alw v h0 h6 k0 m _ _ (by grind) (by grind) λ o c=>a o (c.trans ?_);have q:=(alp b).map (vl v);grind
theorem v69{n}(d:200000<=n){p}(hp:jg p){s}(e:a8 p s=0):K4 n p s=(Qs n p (nd s)).bind λ a=>bif !a.2 then some (([]:List (List St)),8)else a.1.bind λ b=>cq (K8 n) n (b.2,(fV b.2:Int),0,p.1,p.2,([]:List (List St)),()) (λ(c,_)=>some (c,0),()):=by grind[K4,v95]
theorem v77{n}(e:200000<=n){p}(hp:jg p)(s:St)(v):Gw n p s v=bif jh [a8 p s,ia (cy v 0 ((p.1.length:Int)- 1)) 6] !=0 then some ([],jh [a8 p s,ia (cy v 0 ((p.1.length:Int)- 1)) 6])else(Qs n p (bif a8 p s==0 then nd s else(z6,z6))).bind λ a=>bif !a.2 then some (([]:List Int),8)else a.1.bind λ d=>cq (aao n) n (v,([]:List Int),d.1,()) (λ(c,_)=>(z7 n c).bind λ l=>(zZ n l).bind λ b=>some (b,0),()):=by unfold Gw;rw[v95 (by omega) hp];simp[k9];rw[SF (by have:=hp.v;omega),Ra,k9,tP,k9,BO (by omega),k9]
theorem akY{p x}(b:uv p x)(h6:p.1.length<=6){v:Int}(h0:0<=v)(h1:v<p.1.length):aY (l6 (nd x).1) v=aY x.1 v:=by have a:=b.c;show aY (l6 (i6 _)) v=_;grind[ahH,aY,Lk]
theorem aqt{n}(j:5000<=n)(f:ND->Option Bool)(g:ND->Bool)(c:List ND)(d:c.length<=4000)(a:∀z∈c,f z=some (g z)):∃r,Pg n c f=some r/\(r<0/\(∀z∈c,g z=false)\/0<=r/\∃z,aG c r=some z/\z∈c/\g z=true):=by
 have key:∀m i,i<=c.length->c.length-i<m->∃r,cq (N8 n) m (c,f,(c.length:Int),(i:Int),()) (λ(_)=>some (-1:Int),λ(b,_)=>some b,())=some r/\(r<0/\(∀z∈c.drop i,g z=false)\/0<=r/\∃z,aG c r=some z/\z∈c/\g z=true):=by
  intro m
  induction m with|zero=>omega|succ m k=>intro i e h;rw[cq];simp[N8];rcases A1 i c.length with q|q;rw[decide_eq_true (by omega),cond_true,show aG c _=some c[i] by grind[oR,u1],k9,a _ (by grind),k9];grind[oR,u1,zr,u0,nu,h1,h2,id,Lt];simp_all[decide_eq_false,cond_false,zt]
 have⟨r,h1,h2⟩:=key n 0 (by omega) (by omega);exact⟨r,h1,h2⟩
theorem amM{p b}(i:∀a,0<=a->a<p.1.length->b∣zu p a){s}(g:a8 p s=0)(f:∀c∈s.1,b∣c):∀{j:Nat}{x:St},Rc p s j x->a8 p x=0/\∀c∈x.1,b∣c|0,x,h=>by cases h;trivial|j+1,x,⟨y,m,d,k,e⟩=>by subst e;have⟨a,c⟩:=amM i g f d;grind[x7,alk]
theorem anv{n}(d:5000<=n)(t:Option aeu)(r:Option (Rm×List (List ND)))(g:ND->Bool)(L:List (List ND))(l:L.length<=4000)(a:∀c∈L,c.length<=4000/\∀z∈c,ud n t z=some (g z))(k0)(k1):∀m i,i<=L.length->L.length-i<m->(∀c∈L.drop i,∀z∈c,g z=false)/\cq (T6 n) m (t,r,L,(L.length:Int),(i:Int),0,0,0,0,0,0,0,0,0,0,0,0,()) (k0,k1,())=k0 (0,0,0,0,0,0,0,0,0,0,0,0,())\/(∃c∈L,∃z∈c,g z=true/\cq (T6 n) m (t,r,L,(L.length:Int),(i:Int),0,0,0,0,0,0,0,0,0,0,0,0,()) (k0,k1,())=k1 (r,0,z.1.1,z.1.2.1,z.1.2.2.1,z.1.2.2.2.1,z.1.2.2.2.2.1,z.1.2.2.2.2.2,z.2.1,z.2.2.1,z.2.2.2.1,z.2.2.2.2.1,z.2.2.2.2.2.1,z.2.2.2.2.2.2,()))
 |0,i,_,h=>by omega|m+1,i,v,h=>by rw[cq];simp only[T6];rcases A1 i L.length with q|q;have b:=zr q;rw[decide_eq_true (by omega),cond_true,show aG L _=some L[i] by grind[oR,u1],k9];have⟨x,e,f⟩:=aqt d (λ o=>ud n t o) g L[i] (a _ b).1 (a _ b).2;rw[e,k9];obtain⟨j,k⟩|⟨j,z,k,p,s⟩:=f;rw[decide_eq_false (by omega),cond_false,show u0 _ _=((i+1:Nat)) by grind[nu]];refine (anv d t r g L l a k0 k1 m (i+1) q (by omega)).imp (λ h=> ⟨λ c u=>?_,h.2⟩) id;grind[Lt];grind;grind
theorem aqv{n}(f:5000<=n){p}(hp:jg p){t}(hT:kX p t=0){r:Rm}{L:List (List ND)}(a:Qs n p (nd t.1)=some (some (r,L),true))(g:ND->Bool)(b:L.length<=4000)(d:∀c∈L,c.length<=4000/\∀z∈c,ud n (some (GC p t)) z=some (g z)):
 ∃e:Int×Int,OD n p t=some e/\(e.2=12/\(∀c∈L,∀z∈c,g z=false)\/e.2=0/\∃c∈L,∃z∈c,g z=true):=by
 unfold OD;rw[O6 (by omega) hp,hT];unfold Qu;simp[k9];rw[show Qs n (GC p t).1 (GC p t).2.2=_ from a];rcases anv f (some (GC p t)) (some (r,L)) g L b d (λ(A,B,C,D,E,F,G,H,I,J,K,M,_)=>some ((none:Option (Rm×List (List ND))),((0,0,0,0,0,0),0,0,0,0,0,0),12)) (λ(h,y,i,j,k,l,m,o,q,s,u,v,w,x,_)=>some (h,((i,j,k,l,m,o),q,s,u,v,w,x),y)) n 0 (by omega) (by omega)with⟨h1,h2⟩|⟨c,h1,z,h2,h3,h4⟩
 all_goals grind
theorem apN{n}(b:5000<=n){p}(hp:jg p){t}(hT:kX p t=0)(a:Qs n p (nd t.1)=some (none,false)):OD n p t=some (0,8):=by grind[OD,O6,bne_self_eq_false,Qu,Qs,GC]
abbrev gD(p:Pl)(t:Tk):=gc p.1 t.1.1 0
theorem ap2{p t}(b:a8 p t.1=0):(∀c∈t.1.1,((gD p t:Nat):Int)∣c)/\(∀a:Int,0<=a->a<p.1.length->((gD p t:Nat):Int)∣zu p a)/\1<=gD p t:=by
 have S:=ako b;have⟨_,s⟩:=akF p.1 t.1.1 0;have q:∀{x:Int},0<=x->gc p.1 t.1.1 0∣x.toNat->((gD p t:Nat):Int)∣x:=λ {x} h0 v=>by grind[gc,N3,B2]
 have l:∀c∈t.1.1,((gD p t:Nat):Int)∣c:=λ c k=>by
  have⟨i,f⟩:=A2 k;have u:=(u5.1 f).1;have d:p.1[i]?=some (p.1[i]'(by rw[<-S.a];omega)):=u1 _;have⟨_,_,e,_⟩:=S.b i _ _ d f;grind
 have g:∀a:Int,0<=a->a<p.1.length->((gD p t:Nat):Int)∣zu p a:=λ a h0 j=>by
  have n:a.toNat<p.1.length:=by omega
  have o:a.toNat<t.1.1.length:=by rw[S.a];omega
  have⟨e,_,_,_⟩:=S.b _ _ _ (u1 n) (u1 o);grind[zu]
 refine⟨l,g,?_⟩;have j:=(aaK (bh b).1).1;have r:=(z8 (bh b).1).1 0 (by omega) (by omega);have e:=g 0 (by omega) (by omega);rcases Nat.eq_zero_or_pos (gD p t) with h|h;simp_all;omega
theorem api{n}(q:5000<=n){G:Nat}(o:1<=G)(e i)(p:Pl)(t:Tk)(all:List St)(T:List Int)(hT:T.length<=4500)(h:∀x∈T,0<=x/\(G:Int)∣x)(k0 k1):cq (GY n) n (e,(G:Int),i,T,0,p.1,p.2,t.1.1,t.1.2,t.2.1,t.2.2,all,()) (k0,k1,())=k0 (e,(G:Int),i,p.1,p.2,t.1.1,t.1.2,t.2.1,t.2.2,all,()):=by
 refine iy (n:=n) T (λ m=>(e,(G:Int),i,T,(m:Int),p.1,p.2,t.1.1,t.1.2,t.2.1,t.2.2,all,())) (λ m r=>k0 _) (by unfold vj;omega) ?_ ?_ (by omega);intro m x r f c g j k l again u;have⟨d,a⟩:=h x (vo c);have s:NL x (G:Int)=some 0:=by have b:x=(x.toNat:Int):=(B2 d).symm;rw[b,amZ _ _ (by omega)];rw[b]at a;have:=Nat.mod_eq_zero_of_dvd (N3.1 a);grind
 grind[GY,bne_self_eq_false];grind[GY]
theorem apI{n}(l:5000<=n){p}(hp:jg p){t:Tk}(s:t.1.1.length<=10)(u:t.1.2.length<=10){G:Nat}(k:1<=G)(e)(all:List St)(h77:∀i,i<p.1.length->∃T,Gw n p t.1 (i:Int)=some (T,0)/\T.length<=4500/\∀x∈T,0<=x/\(G:Int)∣x)(k0 k1):cq (Cv n) n (e,(G:Int),0,p.1,p.2,t.1.1,t.1.2,t.2.1,t.2.2,all,()) (k0,k1,())=k0 (e,(G:Int),p.1,p.2,t.1.1,t.1.2,t.2.1,t.2.2,all,()):=by have o:=hp.v;refine iy (n:=n) p.1 (λ m=>(e,(G:Int),(m:Int),p.1,p.2,t.1.1,t.1.2,t.2.1,t.2.2,all,())) (λ m r=>k0 _) (by unfold vj;omega) ?_ ?_ (by omega);intro m x r a b c d f g again q;have⟨T,h1,h2,j⟩:=h77 m a;have h:wL n (p.1,p.2)=some p:=v22 n hp;grind[Lh,th,MK,Cv,h1,bne_self_eq_false,api,h2];grind[Cv]
theorem apd{n}(m:5000<=n)(e g)(p:Pl)(t:Tk)(M:List (List St))(v:M.length<=4000)(w:M.flatten.length<=4000)(q:∀c∈M,c.length<=4000/\∀x∈c,ym x=true)(k0 k1):cq (FU n) n (e,M,g,0,p.1,p.2,t.1.1,t.1.2,t.2.1,t.2.2,[],()) (k0,k1,())=k0 (e,g,p.1,p.2,t.1.1,t.1.2,t.2.1,t.2.2,M.flatten,()):=by
 refine (abv (n:=n) M (λ i(o:List St)=>(e,M,g,(i:Int),p.1,p.2,t.1.1,t.1.2,t.2.1,t.2.2,o,())) (λ i o r=>k0 (e,g,p.1,p.2,t.1.1,t.1.2,t.2.1,t.2.2,o++r.flatten,())) (λ i o=>o.length+(M.drop i).flatten.length<=4000) (by unfold vj;omega) ?_ ?_ _ (by grind) (by omega)).trans rfl;intro i o c r u b a d f h l again s;have⟨j,k⟩:=q c (vo b);have y:M.drop (i+1)=r:=by have:=congrArg (List.drop 1) a;grind[List.drop_drop]
 simp only[FU,f,cond_true,d,k9,v71 m c j k];rw[zG (by omega),k9,decide_eq_false (by grind),cond_false,h,s (o++c) (by grind)];simp;grind[FU]
theorem an5{p}:∀{l k:List St},l.Nodup->(∀s∈l,j5 p s=0/\s∉k)->gu p k l=0| [],k,_,_=>rfl|s::r,k,hd,h=>by have⟨d1,d2⟩:=TK.1 hd;have⟨a,b⟩:=h s (.head _);unfold gu;rw[a,decide_eq_false b];exact an5 d2 λ x d=> ⟨by grind,λ c=>by grind⟩
theorem unL{p}:∀{L:List (List ND)},(∀c∈L,∀z∈c,∃x,a8 p x=0/\nd x=z)->∃M:List (List St),L=M.map (·.map nd)/\∀c∈M,∀x∈c,a8 p x=0
 | [],_=> ⟨[],rfl,by simp⟩|c::L,h=>by
  have⟨M,j,k⟩:=unL (L:=L) λ c f=>h c (.tail _ f);have key:∀{c:List ND},(∀z∈c,∃x,a8 p x=0/\nd x=z)->∃d:List St,c=d.map nd/\∀x∈d,a8 p x=0:=by
   intro c
   induction c with|nil=>simp|cons z c i=>intro h;obtain⟨x,a,rfl⟩:=h z (.head _);have⟨d,b,e⟩:=i λ z g=>h z (.tail _ g);refine⟨x::d,by grind,λ y l=>?_⟩;grind
  have⟨d,b,e⟩:=key (h c (.head _));refine⟨d::M,by grind,λ c f=>?_⟩;grind
theorem nZ.q{p s r L}(I:nZ p s r L []):L.flatten.Nodup/\L.flatten.length<=r.length:=by
 have B:∀z,¬wH z z:=λ z h=>by grind[wH,NQ]
 have g:L.flatten.Nodup:=by refine List.pairwise_flatten.2 ⟨λ c b=>(I.g c b).2.2.imp (by grind),?_⟩;rw[Ls];intro i j d k u x m y n e;subst e;have⟨_,_,_,_,v,a,o,_⟩:=I.a i _ _ (u1 d) m;have⟨_,_,_,_,w,q,t,_⟩:=I.a j _ _ (u1 k) n;grind
 refine⟨g,?_⟩;have:=ajp (A:=r.map (·.1)) g λ z f=>by have⟨c,b,f⟩:=y4.1 f;have⟨i,d⟩:=A2 b;have⟨_,_,_,_,v,a,_⟩:=I.a i c z d f;exact Classical.byContradiction λ l=>by rw[Nx.2 l]at a;cases a
 rwa[x2]at this
theorem aqs{n}(H:200000<=n){p}(hp:jg p){s}(u:a8 p s=0){r L}(I:nZ p s r L [])(C:Qs n p (nd s)=some (some (r,L),true)){G}(E:∀{j:Nat}{x:St},Rc p s j x->∀c∈x.1,((G:Nat):Int)∣c)(i)(Q:i<p.1.length):∃T,Gw n p s (i:Int)=some (T,0)/\T.length<=4500/\∀x∈T,0<=x/\(G:Int)∣x:=by
 have h6:=(aaK (bh u).1).2.1;have M:cy (i:Int) 0 ((p.1.length:Int)- 1)=true:=by grind[cy]
 let d:=r.map (vl (i:Int));let T:=yt (d.mergeSort λ x y=>decide (x<=y));have⟨l,c2⟩:=amB ((L3 (le:=λ x y:Int=>decide (x<=y)) (λ a b c m q=>by grind) (λ a b=>by grind) d).imp (λ h=>by grind));have t:∀x,x∈T↔x∈d:=λ x=>(c2 x).trans (PH d (λ x y=>decide (x<=y))).mem_iff;have R:=I.b;refine⟨T,?_,?_,λ x g=>?_⟩;rw[v77 H hp,u,M,show jh _=0 from rfl];simp[bne_self_eq_false,cond_false,beq_self_eq_true,cond_true];rw[C];refine alw (i:Int) (by omega) (by omega) _ n [] r (by omega) (by grind) λ o f=>?_;rw[List.nil_append]at f;refine amv l ?_ (by grind) (by rw[f.length_eq,x2];omega);have⟨w,a,_⟩:=I.k;intro B;subst B;have:=f.length_eq;rw[x2]at this;have:r= []:=List.length_eq_zero_iff.1 this.symm;subst this;cases a;have:T.length<=d.length:=ajp (A:=d) (l.imp λ h e=>by omega) (λ x g=>(t x).1 g);grind;obtain⟨z,O,rfl⟩:=vR.1 ((t x).1 g);have⟨w,N⟩:=y8.1 (λ h=>Nx.1 h (vR.2 ⟨z,O,rfl⟩));have⟨j,c,m,q⟩:=I.d _ _ N;have⟨y,v,k,P,_⟩:=I.a _ _ _ m q;have D:=(F1 (bh k).2);have e:vl (i:Int) z=aY y.1 (i:Int):=by grind[akY,h6]
 rw[e];refine⟨(zY (bh k).2 (by omega) (by omega)).1,E v _ ?_⟩;have S:i<y.1.length:=by rw[D.c];omega
 grind[aY,F0,u1,zr]
theorem aqo(k:Nat)(p:Pl)(t:Tk):s15 (k+200000) p t=some true:=by
 generalize aP:k+200000=n;have Q:200000<=n:=by omega
 have ai:FJ n=some true:=by grind[acS]
 unfold s15;have⟨b,aw,aB⟩:=v18 (n:=n) (by omega) p;have⟨F,ax,aI⟩:=v19 n t;rw[ai,k9,aw,ax];cases b with
 |false=>rfl
 |true=>
  cases F with
  |false=>rfl
  |true=>
   have hp:=aB rfl;have⟨aL,aM,aR,aS⟩:=aI rfl
   simp[u2,L1,vL,bI,cond_true];rw[Wa (by omega) hp,k9]
   by_cases hT:kX p t=0
   ·rw[hT];simp[bne_self_eq_false,cond_false]
    have o:=afk hT;have⟨aG,aJ⟩:=L6 hT;have⟨aQ,af⟩:=RJ aJ;have V:=(aaK aG).2.1
    rw[v22 n hp,v23 n t (by omega) (by omega) (by omega) (by omega),MK n t.1 (by omega) (by omega)];simp[k9]
    rw[v69 Q hp o,v73 (by omega) hp,hT];simp only[k9,beq_self_eq_true,cond_true]
    rcases anu Q hp o with⟨l,E⟩|⟨r,L,l,E⟩
    ·grind[apN]
    ·have⟨ap,aq,ar⟩:=ap2 o
     have aN:=l.b
     have W:∀c∈L,c.length<=4000:=λ c d=>(l.g c d).1
     have ad:∀c∈L,∀z∈c,∃j x,Rc p t.1 j x/\a8 p x=0/\nd x=z:=λ c d z g=>by
      have⟨i,O⟩:=A2 d;have⟨x,q,s,S,_⟩:=l.a i c z O g;grind
     have⟨M,eM,X⟩:=unL (p:=p) (L:=L) λ c d z g=>by
      grind
     have av:∀c∈L,c.length<=4000/\∀z∈c,ud n (some (GC p t)) z=some ((ud n (some (GC p t)) z).getD false):=λ c d=> ⟨W c d,λ z g=>by
      grind[ud,GC,nd,xN,v92,F1,bh]⟩
     have⟨e,al,T⟩:=aqv (by omega) hp hT E (λ z=>(ud n (some (GC p t)) z).getD false) (by omega) av
     have ab:∀{x:St},a8 p x=0->(ud n (some (GC p t)) (nd x)).getD false=xN t x:=λ {x} f=>by
      grind[ud,GC,nd,xN,v92,F1,bh]
     have aO:M.length=L.length:=by grind
     have A:∀c∈M,c.length<=4000/\∀x∈c,uv p x:=λ c d=> ⟨by have:=W (c.map nd) (by grind);rwa[x2]at this,λ x f=>(F1 (bh (X c d x f)).2)⟩
     have K:L.flatten=M.flatten.map nd:=by rw[eM,List.map_flatten]
     have⟨U,ao⟩:=l.q
     have N:M.flatten.length<=4000:=by rw[K,x2]at ao;omega
     have C:∀x∈M.flatten,a8 p x=0:=λ x f=>by
      have⟨c,d,f⟩:=y4.1 f;exact X c d x f
     have ag:∀{x y:St},a8 p x=0->a8 p y=0->nd x=nd y->x=y:=λ f D e=>al4 V (F1 (bh f).2) (F1 (bh D).2) e
     have P:∀{j:Nat}{x:St},Rc p t.1 j x->x∈M.flatten:=λ {j x} h=>by
      have⟨aj,i,c,ak,F,_⟩:=l.e o h
      have g:nd x∈L.flatten:=y4.2 ⟨c,vo ak,F⟩
      rw[K]at g;have⟨y,D,aA⟩:=vR.1 g;rw[<-ag (C y D) aj aA];exact D
     have aH:∀x∈M.flatten,∃j,Rc p t.1 j x:=λ x f=>by
      have⟨c,d,R⟩:=y4.1 f
      have⟨j,y,q,s,S⟩:=ad (c.map nd) (by rw[eM];exact vR.2 ⟨c,d,rfl⟩) (nd x) (vR.2 ⟨x,R,rfl⟩)
      rw[<-ag s (C x f) S];exact⟨j,q⟩
     have aF:M.flatten.Nodup:=by
      rw[K]at U;exact (List.pairwise_map.1 U).imp λ h e=>h (congrArg nd e)
     have aa:∀{j:Nat}{x:St},Rc p t.1 j x->∀c∈x.1,((gD p t:Nat):Int)∣c:=λ {j x} h=>(amM aq o ap h).2
     have ae:∀c∈M,c.length<=4000/\∀x∈c,ym x=true:=λ c d=> ⟨(A c d).1,λ x f=>by
      have a:=((A c d).2 x f).c;have b:=((A c d).2 x f).w;unfold ym;rw[decide_eq_true (by omega),decide_eq_true (by omega)];rfl⟩
     have Z:gu p [] M.flatten=0:=an5 aF λ x f=> ⟨(bh (C x f)).2,by simp⟩
     have au:(e.2 !=0&&e.2 !=12)=false:=by
      rcases T with⟨h,_⟩|⟨h,_⟩<;>rw[h]<;>rfl
     rw[al,E];simp only[k9,u2,cond_false];rw[eM,anz (by omega) V M (by omega) A]
     simp only[bne_self_eq_false,cond_false,k9]
     rw[au,zs,L1,show decide (((gD p t:Nat):Int)<1)=false from decide_eq_false (by omega),cond_false,apd (by omega) e.2 _ p t M (by omega) N ae,apI (by omega) hp aL aM ar e.2 M.flatten (λ i O=>aqs Q hp o l E aa i O)]
     have am:wL n (p.1,p.2)=some p:=v22 n hp
     have ah:xf n ((t.1.1,t.1.2),t.2.1,t.2.2)=some t:=v23 n t (by omega) (by omega) (by omega) (by omega)
     have an:HY n M.flatten=some M.flatten:=v71 (by omega) _ N λ x f=>by
      have⟨c,d,f⟩:=y4.1 f;exact (ae c d).2 x f
     simp[am,ah,an,k9];rw[v70 (by omega) hp t _ N,v72 (by omega) hp t (by omega)];simp[k9]
     have Y:∀u:Int,cE p t u=u:=λ u=>by unfold cE;rw[hT];rfl
     rw[Y,Y]
     rcases T with⟨H,I⟩|⟨H,c,d,z,g,I⟩
     have J:QT p t M.flatten=0:=by
      have:gk p t M.flatten=true:=by
       unfold gk;rw[decide_eq_true (P (j:=0) (x:=t.1) rfl),a6,y3];intro x f;have⟨c,d,R⟩:=y4.1 f;have aD:xN t x=false:=by rw[<-ab (C x f)];exact I (c.map nd) (by rw[eM];exact vR.2 ⟨c,d,rfl⟩) (nd x) (vR.2 ⟨x,R,rfl⟩)
       rw[aD,vL,a6,y3];intro m aE;have⟨j,aC⟩:=aH x f;exact decide_eq_true (P (j:=j+1) ⟨x,m,aC,x9.1 aE,rfl⟩)
      unfold QT;rw[Z,this];rfl
     rw[J,H];simp[AI];obtain⟨j,x,q,s,rfl⟩:=ad c d z g;have ac:xN t x=true:=by rw[<-ab s];exact I
     have J:QT p t M.flatten=20:=by
      have:gk p t M.flatten=false:=by
       cases G:gk p t M.flatten with
       |false=>rfl
       |true=>
        unfold gk at G;rw[y2,y3]at G;have:=G.2 x (P q);rw[ac]at this;cases this
      unfold QT;rw[Z,this];rfl
     have ay:JD p t ((gD p t:Nat):Int)≠0:=λ h0=>by
      unfold JD at h0;cases w:cy ((gD p t:Nat):Int) 2 50 with
      |false=>rw[w]at h0;cases h0
      |true=>
       rw[w,cond_true]at h0;cases w2:R0 p t ((gD p t:Nat):Int) with
       |false=>rw[w2]at h0;cases h0
       |true=>
        simp only[R0,y2,List.any_eq_true,beq_iff_eq]at w2;have⟨_,c,d,B⟩:=w2;unfold mZ at B;simp only[y2,bne_iff_ne,ne_eq]at B;have v:=F1 (bh s).2;rcases ah2 _ _ _ _ ac (by rw[af.c,v.c]) (by rw[af.w,v.c]) (by rw[v.w,v.c]) c d with h|h;exact B.1 h;exact B.2 (Int.tmod_eq_zero_of_dvd (aa q c h))
     have az:(JD p t ((gc p.1 t.1.1 0:Nat):Int) !=0)=true:=by simpa using ay
     rw[J,H];simp only[az];rfl
   ·have:(kX p t !=0)=true:=by simpa using hT
    rw[this];rfl
end
end Go.Abs.R
namespace Go.Rs
open Go.ChangeShapes Go.Conc Go.Proofs
theorem acj:ownKnob Tryz.prog.godebug=none:=by kernel_rfl
theorem RY:laidOutB Tryz.prog=true:=by kernel_rfl
theorem Gv:TP.globals.size=3:=by kernel_rfl
theorem VJ(g)(h:g<3):(((begin TP (λ _ _=>0) default).world.heap[g]?).bind Obj.row?).isSome=true:=by match g,h with|0,_=>exact(by kernel_rfl:(((begin TP (λ _ _=>0) default).world.heap[0]?).bind Obj.row?).isSome=true)|1,_=>exact(by kernel_rfl:(((begin TP (λ _ _=>0) default).world.heap[1]?).bind Obj.row?).isSome=true)|2,_=>exact(by kernel_rfl:(((begin TP (λ _ _=>0) default).world.heap[2]?).bind Obj.row?).isSome=true)
theorem V2(w)(c:w.ShapedOpen TP):TP.globals.size<=w.heap.size/\vx w:=by
 have key:∀g,g<3->∃cs t,w.heap[g]?=some (.cells cs t):=λ g a=>have⟨⟨z,t⟩,d⟩:=Jx.1 (VJ g a);have⟨cs,b,_⟩:=c.1 g z t (by rw[Gv];exact a) d;⟨cs,t,b⟩
 refine⟨?_,λ g a=>?_⟩;have⟨cs,t,h⟩:=key 2 (by omega);have:=(zj.1 h).1;rw[Gv];omega;have a:Nat.blt g TP.globals.size=true:=a;have⟨cs,t,h⟩:=key g (by simpa using a);exact S8 h
end Go.Rs
namespace Go
theorem Rs.ajf(d){p s c}(kinds)(e)(a)(b g) (l:c.holds p s) (w:c.wfByText s=true) (v:c.laidByTextAt d p kinds e) (u:c.start= .entering) (r:c.noBlocks=false/\c.again=false) (o:p.checked.prog.mainIs=some (a.1,a.2.toList)) (q:(!a.1&&a.2.isEmpty&&!b)=false) (n:∀f fn,p.checked.prog.funcNamed c.func=some f->p.checked.prog.funcs[f]?=some fn->b=p.checked.prog.looks []/\∀(j:Nat)t,fn.params[j]?=some t->p.checked.prog.wantsStandIn t=false) (m:g=c.goesBy p.checked.prog):Claim7.holds p (.plain s) {stood:={row:=c,standIns:= [],harness:=a,looks:=b},kinds:= [],alts:= [],goes:=g,laidByText:=true,laidKinds:=kinds,laidTests:=e,laidLooks:=d}:=by
 have i:To {stood:={row:=c,standIns:= [],harness:=a,looks:=b},kinds:= []}=false:=by simpa[To]using q
 refine⟨?_,(λ D k=>by cases k),v,(λ h=>by cases h),m⟩;exact Claim7.tied_new_at d kinds e (Claim7.new_of_sixth l a b u r o i n) w
end Go
