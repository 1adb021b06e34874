/- Part of a proof that the statement holds. No conditions. -/
import Derived.Lib.RowBridge
import Derived.Shelf.Slices.CompactI
import Derived.Shelf.Sort.Plain
import Derived.SevenTiedAt
import Derived.Test.YtbppbacfffndaaaGreatDoorE5
set_option linter.all false
set_option maxRecDepth 100000
open List renaming length->kX,mem_of_getElem?->u0,getElem?_eq_some_iff->u1,mem_singleton->u2,mem_map->vo,getElem?_eq_getElem->vL,range'->wz,mem_flatMap->w6,mem_append->xM,mem_cons->xR,length_pos_iff->x0,flatMap_cons->x2,pairwise_cons->ym,mem_append_left->y0,length_nil->y2,replicate->y6,getElem?_map->y9,length_map->zl,pairwise_map->zt,map_append->AI,getElem?_append_left->Bu,exists_mem_of_ne_nil->BP,map_cons->B1,pairwise_append->D1,getElem?_of_mem->D3,length_range'->FQ,append_assoc->F0,mem_range'_1->Gw,nodup_append->GC,filter_cons->HY,append_inj->Jx,map_nil->QT,take->To
open Go.IntKind renaming wrap->qK
open Option renaming bind_some->rZ,ne_none_iff_exists'->y3,map_some->z1,isSome_iff_exists->A2
open UInt8 renaming toNat->vi
open Go renaming maxLen->vj
open Bool renaming not_true->vE,not_false->x3,or_self->Dd,and_eq_true->G5,false_and->JR,and_self->Lk,false_or->Ls,true_and->ag
open Go.Value renaming int->vR
open Go.Sort renaming putCells->x1,ahead->A1,onCells->FU,putRow->S5
open Array renaming getElem?_eq_getElem->yl,getElem?_eq_some_iff->y5,getElem?_mapIdx->Cv
open Go.Lib renaming compact->yt,compactUpTo->y4,keeps->B2
open Nat renaming add_zero->za,lt_or_ge->zj,le_trans->Sh,sub_self->SA,mul_one->S2,le_refl->S3
open List.Pairwise renaming nil->zh,imp_of_mem->S1
open Go.Proofs.Tryz renaming func129->zr,func130->zs,func152->LS,func172->L1,func176->L2,func208->L3,func212->L6,func232->NT,func169->NV,func173->N1,func177->N2,func209->N3,func213->N4,func170->N5,func174->N6,func178->Oc,func210->Ov,func151->O6,func171->PH,func175->PK,func179->P8,func211->P9,f156->Tl
open Int renaming toNat->C8,le_of_lt->SL
open Go.Shelf renaming Ren->GY
open Go.Claim7 renaming isSixth->I0
open Go.World renaming frozen?->JD,cell?->QP
open Go.Proofs.Lays2 renaming n20->JZ
open Go.Proofs.Lays renaming n189->LK
open Go.Proofs.Any renaming slices_Compact_int->RJ,slices_Compact_int_empty->R0,slices_Sort_int->R1
open Go.Rs renaming FM->ad
namespace Go.Abs
open Go.Proofs Go.Shelf Go.Sort
section
local instance:Dr:= ⟨false⟩
def am1:GY:= ⟨λ|189=>129|125=>152|257=>151|128=>178|129=>179|294=>169|295=>170|296=>171|297=>172|298=>173|299=>174|216=>175|300=>176|301=>177|328=>208|329=>209|330=>210|331=>211|332=>212|215=>213|343=>232|n=>n,λ|28=>26|3=>3|46=>237|0=>0|51=>250|53=>247|4=>4|183=>260|182=>259|131=>265|5=>5|9=>9|218=>291|222=>294|228=>311|229=>72|n=>n,λ|n=>n⟩
theorem am0(X:Go.Rs.FS):LK X.Q am1:={
 mixed:=X.b
 f125:=X.k LS
 f128:=X.k Oc
 f129:=X.k P8
 f189:=X.k zr
 f215:=X.k N4
 f216:=X.k PK
 f257:=X.k O6
 f294:=X.k NV
 f295:=X.k N5
 f296:=X.k PH
 f297:=X.k L1
 f298:=X.k N1
 f299:=X.k N6
 f300:=X.k L2
 f301:=X.k N2
 f328:=X.k L3
 f329:=X.k N3
 f330:=X.k Ov
 f331:=X.k P9
 f332:=X.k L6
 f343:=X.k NT
 t0:=by kernel_rfl
 a0:=λ w=>by kernel_rfl
 z0:=λ w=>by kernel_rfl
 v0:=λ w=>by kernel_rfl
 t3:=by kernel_rfl
 a3:=λ w=>by kernel_rfl
 z3:=λ w=>by kernel_rfl
 v3:=λ w=>by kernel_rfl
 t4:=by kernel_rfl
 a4:=λ w=>by kernel_rfl
 z4:=λ w=>by kernel_rfl
 v4:=λ w=>by kernel_rfl
 t5:=by kernel_rfl
 a5:=λ w=>by kernel_rfl
 z5:=λ w=>by kernel_rfl
 v5:=λ w=>by kernel_rfl
 t9:=by kernel_rfl
 a9:=λ w=>by kernel_rfl
 z9:=λ w=>by kernel_rfl
 v9:=λ w=>by kernel_rfl
 t28:=by kernel_rfl
 a28:=λ w=>by kernel_rfl
 z28:=λ w=>by kernel_rfl
 v28:=λ w=>by kernel_rfl
 t46:=by kernel_rfl
 a46:=λ w=>by kernel_rfl
 z46:=λ w=>by kernel_rfl
 v46:=λ w=>by kernel_rfl
 t51:=by kernel_rfl
 a51:=λ w=>by kernel_rfl
 z51:=λ w=>by kernel_rfl
 v51:=λ w=>by kernel_rfl
 t53:=by kernel_rfl
 a53:=λ w=>by kernel_rfl
 z53:=λ w=>by kernel_rfl
 v53:=λ w=>by kernel_rfl
 t131:=by kernel_rfl
 a131:=λ w=>by kernel_rfl
 z131:=λ w=>by kernel_rfl
 v131:=λ w=>by kernel_rfl
 t182:=by kernel_rfl
 a182:=λ w=>by kernel_rfl
 z182:=λ w=>by kernel_rfl
 v182:=λ w=>by kernel_rfl
 t183:=by kernel_rfl
 a183:=λ w=>by kernel_rfl
 z183:=λ w=>by kernel_rfl
 v183:=λ w=>by kernel_rfl
 t218:=by kernel_rfl
 a218:=λ w=>by kernel_rfl
 z218:=λ w=>by kernel_rfl
 v218:=λ w=>by kernel_rfl
 t222:=by kernel_rfl
 a222:=λ w=>by kernel_rfl
 z222:=λ w=>by kernel_rfl
 v222:=λ w=>by kernel_rfl
 t228:=by kernel_rfl
 a228:=λ w=>by kernel_rfl
 z228:=λ w=>by kernel_rfl
 v228:=λ w=>by kernel_rfl
 t229:=by kernel_rfl
 a229:=λ w=>by kernel_rfl
 z229:=λ w=>by kernel_rfl
 v229:=λ w=>by kernel_rfl}
def an2:GY:= ⟨λ|20=>130|n=>n,λ|22=>26|3=>3|4=>4|0=>0|n=>n,λ|n=>n⟩
theorem akZ(X:Go.Rs.FS):JZ X.Q an2:={
 mixed:=X.b
 f20:=X.k zs
 t0:=by kernel_rfl
 a0:=λ w=>by kernel_rfl
 z0:=λ w=>by kernel_rfl
 v0:=λ w=>by kernel_rfl
 t3:=by kernel_rfl
 a3:=λ w=>by kernel_rfl
 z3:=λ w=>by kernel_rfl
 v3:=λ w=>by kernel_rfl
 t4:=by kernel_rfl
 a4:=λ w=>by kernel_rfl
 z4:=λ w=>by kernel_rfl
 v4:=λ w=>by kernel_rfl
 t22:=by kernel_rfl
 a22:=λ w=>by kernel_rfl
 z22:=λ w=>by kernel_rfl
 v22:=λ w=>by kernel_rfl
 i3:=by kernel_rfl}
def z7(n:Nat)(l:List Int):=bif l.isEmpty then none else(jk (kX l)).bind λ _=>some (l.mergeSort λ x y=>decide (x<=y))
def alM(n:Nat):u7:= ⟨.ay .i64,[],λ l _=>z7 n l,false⟩
theorem anc {w } {ok } {v } {l l' : List Int} (C : o7 ad.Q w ok (.ay .i64) v l) (M : z7 0 l = some l') :Calls ad.Q 129 #[v] w fun e w' => ∃ r, e = .returned r /\ aeE v w w' /\ r = .tuple #[] /\ o7 ad.Q w' (ft ok w) (.ay .i64) v l' := by
  have f : l ≠ [] /\ kX l <= iZ /\ l' = l.mergeSort fun x y => decide (x <= y) := by grind[z7,List.isEmpty_cons,jk,Option.some.injEq]
  obtain ⟨f, L, rfl⟩ := f
  obtain⟨_, h⟩ | ⟨b, off, cap, cs, T, rfl, c, q, s, D, t⟩:=C
  · trivial
  · have H : off + l.length <= cs.size := by
      grind[Ty.a]
    have E : ∀ j  a , cs[off + j]? = some (.int .i64 l[j]) := by
      intro j a
      have p : aS cs.toList (off + j * 1) 1 = [.int .i64 (l[j]'a)] := t j _ (vL a)
      rw[S2] at p
      have c : (aS cs.toList (off + j) 1)[0]? = some (.int .i64 (l[j]'a)) := by grind
      have ⟨_, q⟩ := Ct c
      grind
    have u : Holds (vR .i64) w b off l.toArray := by
      intro j a
      grind[QP,JD]
    have g : b < w.heap.size := (y5.1 c).1
    have B : l.length < 4611686018427387904 := by grind[iZ]
    refine (R1 (am0 _) b _ _ l w u g B).mono ?_
    rintro e w' ⟨rfl, n, os, rfl⟩
    generalize J : (l.mergeSort fun x y => decide (x <= y)) = m
    have K : m.length = l.length := by grind[List.length_mergeSort]
    have F : (grow (S5 (vR .i64) (A1 w n) b off m.toArray) os).heap = (w.heap.modify b (FU (x1 (vR .i64) off m.toArray))) ++ os := rfl
    have N : (w.heap.modify b (FU (x1 (vR .i64) off m.toArray))).size = w.heap.size := by simp
    have o : ∀ k, k < w.heap.size -> (grow (S5 (vR .i64) (A1 w n) b off m.toArray) os).heap[k]? = if b = k then (w.heap[k]?).map (FU (x1 (vR .i64) off m.toArray)) else w.heap[k]? := by
      grind
    refine ⟨_, rfl, ⟨rfl, rfl, ⟨rfl, fun d => (by cases d)⟩, ?_, fun k A f => ?_⟩, rfl, .inr ⟨b, off, cap, x1 (vR .i64) off m.toArray cs, T, by grind, ?_, by omega, s, ?_, fun i x z => ?_⟩⟩
    · simp
    · rw[o k A, if_neg fun e => f (by rw[e]; rfl)]
    · rw[o b g, if_pos rfl, c]; rfl
    · grind[x1]
    · have G : i < m.length := (u1.1 z).1
      have I : off + i < cs.size := by omega
      have hp : (x1 (vR .i64) off m.toArray cs)[off + i]? = some (.int .i64 x) := by
        grind[x1,yl,Option.some.injEq,u1]
      show aS _ (off + i * 1) 1 = [.int _ x]
      grind[x1,Nt,yl]
theorem anU(n):aaO ad.Q 129 (alM n):=by refine⟨⟨_,ad.a zr (by kernel_rfl) (by decide),by kernel_rfl,by kernel_rfl⟩,?_⟩;intro w ok v vs l y l' f h _ g;have:vs= []:=h;subst this;refine(anc f g).mono ?_;rintro e w'⟨r,a,b,c,d⟩;exact⟨r,a,b,.inr ⟨rfl,c,d⟩⟩
def zZ(n:Nat)(l:List Int):=(jk (kX l)).bind λ _=>some (yt l)
def alT(n:Nat):u7:= ⟨.ay .i64,[],λ l _=>zZ n l,true⟩
theorem amX {w } {ok } {v } {l l' : List Int} (z : o7 ad.Q w ok (.ay .i64) v l) (N : zZ 0 l = some l') :Calls ad.Q 130 #[v] w fun e w' => ∃ r, e = .returned r /\ aeE v w w' /\ o7 ad.Q w' (ft ok w) (.ay .i64) r l' /\ ∀ b, dB r b -> dB v b := by
  have h : kX l <= iZ /\ l' = yt l := by grind[zZ,jk,Option.some.injEq]
  obtain ⟨M, rfl⟩ := h
  obtain⟨rfl, rfl⟩ | ⟨b, off, cap, cs, T, rfl, c, g, p, A, s⟩:=z
  · refine (R0 (akZ _) _ 0 w).mono ?_;rintro e w' ⟨rfl, rfl⟩;exact ⟨_, rfl, ⟨rfl, rfl, ⟨rfl, by omega⟩, S3 _, fun _ _ _ => rfl⟩, .inl ⟨rfl, rfl⟩, fun b f => f⟩
  · have H : off + l.length <= cs.size := by
      grind[Ty.a]
    have B : ∀ j  a , cs[off + j]? = some (.int .i64 l[j]) := by
      intro j a
      have o : aS cs.toList (off + j * 1) 1 = [.int .i64 (l[j]'a)] := s j _ (vL a)
      rw[S2] at o
      have c : (aS cs.toList (off + j) 1)[0]? = some (.int .i64 (l[j]'a)) := by grind
      have ⟨_, g⟩ := Ct c
      grind
    have t : Holds (vR .i64) w b off l.toArray := by
      intro j a
      grind[QP,JD]
    have f : b < w.heap.size := (y5.1 c).1
    have G : l.length < 4611686018427387904 := by grind[iZ]
    refine (RJ (akZ _) b _ _ l w t (by omega) g).mono ?_
    rintro e w' ⟨rfl, q, rfl⟩
    have u := Lib.compact_length_le l
    generalize J : yt l ++ y6 (l.length - (yt l).length) 0 = m
    have L : m.length = l.length := by grind
    have C : (S5 (vR .i64) (A1 w q) b off m.toArray).heap = (w.heap.modify b (FU (x1 (vR .i64) off m.toArray))) := rfl
    have n : ∀ k, (S5 (vR .i64) (A1 w q) b off m.toArray).heap[k]? = if b = k then (w.heap[k]?).map (FU (x1 (vR .i64) off m.toArray)) else w.heap[k]? := by
      grind
    refine ⟨_, rfl, ⟨rfl, rfl, ⟨rfl, fun d => (by cases d)⟩, ?_, fun k F h => ?_⟩, .inr ⟨b, off, cap, x1 (vR .i64) off m.toArray cs, T, rfl, ?_, Sh u g, p, ?_, fun i x y => ?_⟩, fun b f => f⟩
    · simp
    · rw[n k, if_neg fun e => h (by rw[e]; rfl)]
    · rw[n b, if_pos rfl, c]; rfl
    · grind[x1]
    · have D : i < (yt l).length := (u1.1 y).1
      have E : i < m.length := by omega
      have I : off + i < cs.size := by omega
      have K : m[i]? = some x := by grind
      have hp : (x1 (vR .i64) off m.toArray cs)[off + i]? = some (.int .i64 x) := by
        grind[x1,yl,Option.some.injEq,u1]
      show aS _ (off + i * 1) 1 = [.int _ x]
      grind[x1,Nt,yl]
theorem aot(n):aaO ad.Q 130 (alT n):=by refine⟨⟨_,ad.a zs (by kernel_rfl) (by decide),by kernel_rfl,by kernel_rfl⟩,?_⟩;intro w ok v vs l y l' f h _ g;have:vs= []:=h;subst this;refine(amX f g).mono ?_;rintro e w'⟨r,a,b,c,d⟩;exact⟨r,a,b,.inl ⟨rfl,c,d⟩⟩
end
end Go.Abs
namespace Go.Abs.R
open Go.Abs Go.Proofs.Tryz
open Go.Abs.N(IY H2 zQ vk yf BY C5 En Gt tN Hv yp tR xA)
section
open Go.Abs.N(IY H2 zQ vk yf BY C5 En Gt tN Hv yp tR xA)
local instance:Dr:= ⟨false⟩
noncomputable section
abbrev o4(D A R:Type):=D->(D->Option R)->(A->Option R)×Unit->Option R
abbrev b7(D A B R:Type):=D->(D->Option R)->(A->Option R)×(B->Option R)×Unit->Option R
abbrev amo(D Y A R:Type):=D->Y->(D->Option R)->(A->Option R)×Unit->Option R
abbrev J3(T:Type):=Int×Int×Int×T
abbrev J5(T:Type):=Int×Int×Int×Int×Int×T
abbrev u6(T:Type):=Int×Int×Int×Int×Int×Int×Int×Int×Int×Int×Int×Int×T
abbrev Eo(E:aq):=al ad.Q E
variable(n:Nat)
abbrev Z0:Ty:=.ay .i64
abbrev Z1:=J5 Int
abbrev Z2:=Z1×J5 Int
abbrev Z3:Ty:=.aF Z0 Z0
abbrev Z4:=List Int
abbrev Z5:Ty:=.aH Z0
abbrev Z6:Ty:=.aF Z0 Z3
abbrev Z7:Ty:=.aF Z0 Z6
abbrev Z8:Ty:=.aF Z0 Z7
abbrev Z9:Ty:=.aF Z0 Z8
abbrev dy:=Int×Int
abbrev gH:Ty:=.aF .aJ Z0
abbrev BW:=List UInt8
abbrev eB:Ty:=.aF Z5 Z5
abbrev fh:Ty:=.aH Z3
abbrev dK:Ty:=.aF Z9 Z9
abbrev gv:Ty:=.aH gH
abbrev qG:=BW×Int
abbrev cN:Ty:=.aF gv fh
abbrev aZ:=List dy
abbrev bZ:=Z4×Z4
abbrev cn:=List qG
abbrev gS:=List bZ
abbrev nk:=Int×Z2×Int×Int
abbrev QG:=List gS
abbrev Yl:Ty:=.aH eB
abbrev uy:Ty:=.aF eB eB
abbrev kj:=List Z2
abbrev qZ:=Z2×nk
abbrev EM:=List kj
abbrev qm:Ty:=.aF dK Z3
abbrev uf:Ty:=.aF Z0 qm
abbrev EC:Ty:=.aH dK
abbrev um:=List qZ
abbrev pR:=bZ×Z4×Z4
abbrev EF:=cn×aZ
abbrev Lb:=EF×pR×Z1×J5 Int
abbrev JO:=um×EM
abbrev xh:=Option JO
abbrev qL:Ty:=.aH EC
abbrev fH:Ty:=.aH Yl
abbrev QQ:Ty:=.cO dK uf
abbrev qE:Ty:=.aF QQ qL
abbrev Ah:=QG×Bool
abbrev qJ:=Z4×Bool
abbrev Cu:=xh×Bool
abbrev tZ:Ty:=.aF uy dK
abbrev AU:Ty:=.aF cN tZ
abbrev zp:=List BW
abbrev LJ:=bZ×Int×Int
abbrev Fp:=xh×Z2×Int
abbrev Jz:=Z2×Int×Int
abbrev Iq:=List BW
abbrev Fc:=QG×Int
abbrev Z56:=Int×Int×Int
abbrev K1:Ty:=.ec qE
abbrev Z58:=Option Lb
abbrev Z59:=pR×Int
abbrev TH:Ty:=.ec AU
abbrev Z61:=Z2×Int×Z2×Int×Int
abbrev Z62:=aZ×Int
abbrev Z63:Ty:=.dP dK .aO
abbrev Z64:Ty:=.dP gH .aO
abbrev Z65:Ty:=.aF dK uf
abbrev Z66:=Z4×Int
abbrev Z67:Ty:=.dX Z3 dK
abbrev Z68:Ty:=.aH .aJ
abbrev X0(k:Nat):Nat×mS:=(k,.cp cN [.aj gv,.aj fh])
abbrev X1(k:Nat):Nat×mS:=(k,.cp eB [.aj Z5,.aj Z5])
abbrev X2(k:Nat):Nat×mS:=(k,.cp dK (y6 12 (.aj Z0)))
abbrev X3(k:Nat):Nat×mS:=(k,.cp .aJ [.aj .aJ])
abbrev X4(k:Nat):Nat×mS:=(k,.cp uy [.aj Z5,.aj Z5,.aj Z5,.aj Z5])
abbrev X5(k:Nat):Nat×mS:=(k,.cp uy [.j6,.j6,.j6,.j6])
abbrev Xb(k a:Nat):Nat×ki:=(k,.v (.cu a 0))
abbrev Xp(k:Nat)(t:Ty):Nat×ki:=(k,.v (.pp t))
def OZ(n:Nat)(b:eU)(a:List bS)(num:Int):=Rs.CG b a num
def MS:fc:= ⟨wM,[],[.aH bq],λ x _=>OZ n x.1 x.2.1 x.2.2,true⟩
theorem aaP:jf ad.Q 147 (MS n):=Rs.Ww
def KJ(n:Nat)(s:BW):Option dy:=none
def M6:fc:= ⟨[.aJ],[],[.ay .i32,.ay .i64],λ x y=>KJ n x,false⟩
theorem aeb(n):jf ad.Q 157 (M6 n):=by refine⟨⟨_,Rs.iC func157 (by kernel_rfl) (by decide),by kernel_rfl,by kernel_rfl⟩,?_⟩;intro w ok vs cs x y r b c a;cases a
def gT:List (Nat×eZ):= [(3,⟨Z0,0,false⟩),(4,⟨.aO,0,false⟩),(5,⟨(.ay .u8),0,false⟩),(9,⟨.aJ,0,false⟩),(21,⟨(.ay .i32),0,false⟩),(22,⟨gv,0,false⟩),(23,⟨fh,0,false⟩),(25,⟨cN,2,false⟩),(26,⟨Z5,0,false⟩),(28,⟨eB,2,false⟩),(30,⟨uy,3,false⟩),(35,⟨Z0,0,false⟩),(46,⟨(.aH Z6),0,false⟩),(56,⟨Z3,2,false⟩),(59,⟨fh,0,false⟩),(98,⟨fH,0,false⟩),(112,⟨Yl,0,false⟩),(134,⟨Z6,3,false⟩),(136,⟨gH,2,false⟩),(138,⟨cN,1,false⟩),(143,⟨TH,1,false⟩),(147,⟨Z9,6,true⟩),(149,⟨dK,2,false⟩),(151,⟨AU,3,false⟩),(152,⟨Z63,0,false⟩),(163,⟨Z67,0,false⟩),(168,⟨Z3,2,true⟩),(173,⟨K1,1,false⟩),(177,⟨uf,3,false⟩),(178,⟨QQ,0,false⟩),(179,⟨qL,0,false⟩),(181,⟨qE,2,false⟩),(182,⟨Z68,0,false⟩),(191,⟨EC,0,false⟩),(205,⟨Z5,0,false⟩),(207,⟨(.aH (.ay .u8)),0,false⟩),(209,⟨Z64,0,false⟩),(228,⟨(.aH Z65),0,false⟩),(231,⟨Z65,2,false⟩)]
def gQ:= [(56,Z3),(168,Z3)]
theorem q56:zP ad.Q 56 Z3:=JF (d:=40) (by decide) (by kernel_rfl) rfl (by kernel_rfl)
theorem XI:zP ad.Q 168 Z3:=JF (d:=40) (by decide) (by kernel_rfl) rfl (by kernel_rfl)
theorem amS{P E}(h:al P E){G Q}(g:al P ⟨G,[],Q,[],[],[],[]⟩):al P ⟨G,E.C,Q,E.I,[],[],[]⟩:={g with h:=h.h,j:=h.j}
def e0(n:Nat):aq:= ⟨gT,(N.qH n).C,gQ,(N.qH n).I,[],[],[]⟩
theorem h0:Eo (e0 n):=amS (N.xm ad n) (GI (GI (IN (by kernel_rfl)) XI) q56)
def zC(n:Nat):Option EF:=some (([([97],8),([98],5),([99],3)]:List qG),([(0,1),(0,2),(1,0),(1,2),(2,0),(2,1)]:List dy))
def e1:=(e0 n).a 84 ⟨[],[],[cN],λ x y=>zC n,false⟩
theorem h1:Eo (e1 n):=dw ad (h0 n) func84
def DU(n:Nat):Option bZ:=some (([8,0,0]:List Int),([1,0,0]:List Int))
def e2:=(e1 n).a 85 ⟨[],[],[eB],λ x y=>DU n,false⟩
theorem h2:Eo (e2 n):=dw ad (h1 n) func85
def yM(n:Nat):b7 (BW×Z4×Int×Int×Unit) (BW×Unit) (Bool×Unit) Bool:=λ(s,b,c,a,_) again (k0,k1,_)=>bif decide (a<c)then(aG b a).bind λ e=>bif (!(((decide (e>=97))&& (decide (e<=122)))|| ((decide (e>=65))&& (decide (e<=90)))))&& ((a==0)|| ((e !=45)&& ((decide (e<48))|| (decide (e>57)))))then k1 (false,())else again (s,b,c,(qK .i64 (a+1)),())else k0 (s,())
def B9(s:BW):=cq (yM n) n (s,(kv s),((kX (kv s):Nat):Int),0,()) (λ(a,_)=>some ((a != [])&& (decide ((kX a:Int)<=12))),λ(b,_)=>some b,())
def e5:=(e2 n).a 106 ⟨[.aJ],[],[.aO],λ x y=>B9 n x,false⟩
theorem h5:Eo (e5 n):=gD ad (h2 n) func106 (O:= [_]) ⟨gh n (h2 n) (eN 54 [aT 0 .aJ,aT 7 (.aH (.ay .u8)),aT 8 Z0,aT 9 Z0] []) [fq 0 54 [aT 0 .aJ] [],fw 54 [aT 2 .aO] []] (yM n),trivial⟩
def Jr(n:Nat)(v:BW×Int)(a:BW):=some (v.1==a)
def e6:=(e5 n).a 137 ⟨[gH],[.aJ],[.aO],λ x y=>Jr n x y,false⟩
theorem h6:Eo (e6 n):=dw ad (h5 n) func137
def xO(n:Nat):b7 (cn×(qG->Option Bool)×Int×Int×Unit) Unit (Int×Unit) Int:=λ(s,f,b,a,_) again (k0,k1,_)=>bif decide (a<b)then(aG s a).bind λ e=>(f e).bind λ x=>bif x then k1 (a,())else again (s,f,b,(qK .i64 (a+1)),())else k0 ()
def IH(s:List qG)(f:qG->Option Bool):=cq (xO n) n (s,f,(kX s:Int),0,()) (λ(_)=>some (-1),λ(a,_)=>some a,())
def e7:=(e6 n).a 136 ⟨[gv,Z64],[],[Z0],λ x y=>IH n x.1 x.2,false⟩
theorem h7:Eo (e7 n):=gD ad (h6 n) func136 (O:= [_]) ⟨gh n (h6 n) (eN 19 [aT 0 gv,aT 1 Z64,aT 7 Z0,aT 8 Z0] []) [fq 0 19 [] [],fw 19 [aT 4 Z0] []] (xO n),trivial⟩
def vV(l:List qG)(name:BW):=(IH n l (λ a=>Jr n a name)).bind λ x=>some x
def e8:=(e7 n).a 107 ⟨[gv,.aJ],[],[Z0],λ x y=>vV n x.1 x.2,false⟩
theorem h8:Eo (e8 n):=dw ad (h7 n) func107
def EJ(a:Int):=(H2 n a 1 50).bind λ x=>some x
def Lr:=(e8 n).a 101 ⟨[Z0],[],[.aO],λ x y=>EJ n x,false⟩
theorem h10:Eo (Lr n):=dw ad (h8 n) func101
def vO(b:Int)(a:cn×aZ):=(H2 n b 0 (qK .i64 ((kX a.1:Int)- 1))).bind λ x=>some x
def OO:=(Lr n).a 108 ⟨[Z0],[cN],[.aO],λ x y=>vO n x y,false⟩
theorem Sp:Eo (OO n):=dw ad (h10 n) func108
def Au:b7 (cn×Int×Int×cn×aZ×Unit) (cn×aZ×Unit) (Int×Int×Unit) dy:=λ(c,d,a,p,b,_) again (k0,k1,_)=>bif decide (a<d)then(aG c a).bind λ e=>(B9 n e.1).bind λ x=>(vk n x 4).bind λ g=>(iB p 0 a).bind λ h=>(vV n h e.1).bind λ i=>(vk n (decide (i<0)) 5).bind λ j=>(EJ n e.2).bind λ k=>(vk n k 2).bind λ l=>(C5 n ([g,j,l]:List Int)).bind λ f=>bif f !=0 then k1 (a,f,())else again (c,d,(qK .i64 (a+1)),p,b,())else k0 (p,b,())
def Ag:b7 (EF×(Int->Option Bool)×aZ×Int×Int×Unit) Unit (Int×Int×Unit) dy:=λ(p,c,d,f,a,_) again (k0,k1,_)=>bif decide (a<f)then(aG d a).bind λ e=>(cQ 0 2).bind λ u=>(aG [e.1,e.2] 0).bind λ x=>(c x).bind λ b=>(bI b (cQ 1 2) ()).bind λ s=>(bI b (aG [e.1,e.2] 1) 0).bind λ i=>(bI b (c i) false).bind λ j=>(vk n (b&&j) 6).bind λ k=>(cQ 0 2).bind λ t=>(aG [e.1,e.2] 0).bind λ l=>(cQ 1 2).bind λ v=>(aG [e.1,e.2] 1).bind λ m=>(vk n (l !=m) 11).bind λ o=>(iB p.2 0 a).bind λ q=>(BY n q e).bind λ r=>(vk n (!r) 26).bind λ h=>(C5 n ([k,o,h]:List Int)).bind λ g=>bif g !=0 then k1 (a,g,())else again (p,c,d,f,(qK .i64 (a+1)),())else k0 ()
def xg(p:cn×aZ):Option dy:=(vk n (decide ((kX p.1:Int)>0)) 10).bind λ x=>(vk n (decide ((kX p.1:Int)<=6)) 8).bind λ h=>(C5 n ([x,h]:List Int)).bind λ c=>bif c !=0 then some (0,c)else cq (Au n) n (p.1,(kX p.1:Int),0,p.1,p.2,()) (λ(b,a,_)=>bif decide ((kX a:Int)>30)then some (0,8)else cq (Ag n) n ((b,a),(λ i=>vO n i (b,a)),a,(kX a:Int),0,()) (λ(_)=>some (0,0),λ(d,f,_)=>some (d,f),()),λ(e,g,_)=>some (e,g),())
def QX:=(OO n).a 43 ⟨[cN],[],[Z0,Z0],λ x y=>xg n x,false⟩
theorem h14:Eo (QX n):=gD ad (Sp n) func43 (O:= [_,_]) ⟨gh n (Sp n) (eN 104 [Xb 1 104,aT 28 gv,aT 29 Z0,aT 30 Z0] [X0 104]) [fq 0 104 [Xb 1 104] [X0 104],fw 104 [aT 2 Z0,aT 3 Z0] []] (Au n),gh n (Sp n) (eN 104 [Xp 1 cN,aT 8 (.dP Z0 .aO),aT 65 fh,aT 66 Z0,aT 67 Z0] []) [fq 2 104 [] [],fw 104 [aT 2 Z0,aT 3 Z0] []] (Ag n),trivial⟩
def tx(p:cn×aZ):Option (EF×Int):=(xg n p).bind λ x=>some (p,x.2)
def Rf:=(QX n).a 87 ⟨[cN],[],[cN,Z0],λ x y=>tx n x,false⟩
theorem Vw:Eo (Rf n):=dw ad (h14 n) func87
def Dy(a:Int):=(H2 n a 0 3).bind λ x=>some x
def NZ:=(Rf n).a 132 ⟨[Z0],[],[.aO],λ x y=>Dy n x,false⟩
theorem NP:Eo (NZ n):=dw ad (Vw n) func132
def Co:b7 (cn×Int×Int×Z4×Z4×Unit) Unit (Int×Unit) Int:=λ(f,g,a,s,d,_) again (k0,k1,_)=>bif decide (a<g)then(aG f a).bind λ e=>(aG s a).bind λ b=>(aG d a).bind λ c=>(H2 n b 0 e.2).bind λ x=>(bI x (Dy n c) false).bind λ i=>(vk n (x&&i) 2).bind λ j=>(vk n ((b==0)==(c==0)) 13).bind λ k=>(C5 n ([j,k]:List Int)).bind λ h=>bif h !=0 then k1 (h,())else again (f,g,(qK .i64 (a+1)),s,d,())else k0 ()
def px(p:cn×aZ)(s:Z4×Z4):=(IY n p).bind λ x=>(bI (!((kX s.1:Int) !=x)) (IY n p) 0).bind λ b=>bif ((kX s.1:Int) !=x)|| ((kX s.2:Int) !=b)then some 10 else cq (Co n) n (p.1,(kX p.1:Int),0,s.1,s.2,()) (λ(_)=>some 0,λ(a,_)=>some a,())
def JC:=(NZ n).a 91 ⟨[cN,eB],[],[Z0],λ x y=>px n x.1 x.2,false⟩
theorem NC:Eo (JC n):=gD ad (NP n) func91 (O:= [_]) ⟨gh n (NP n) (eN 64 [Xb 3 64,aT 26 gv,aT 27 Z0,aT 28 Z0] [X1 64]) [fq 0 64 [] [],fw 64 [aT 4 Z0] []] (Co n),trivial⟩
def tj(n:Nat)(s:Z4×Z4):Option Z2:=(kZ 6 6).bind λ u=>(kZ 6 6).bind λ a=>some (((bif decide (0<6)then(s.1[0]?).getD 0 else 0),(bif decide (1<6)then(s.1[1]?).getD 0 else 0),(bif decide (2<6)then(s.1[2]?).getD 0 else 0),(bif decide (3<6)then(s.1[3]?).getD 0 else 0),(bif decide (4<6)then(s.1[4]?).getD 0 else 0),(bif decide (5<6)then(s.1[5]?).getD 0 else 0)),(bif decide (0<6)then(s.2[0]?).getD 0 else 0),(bif decide (1<6)then(s.2[1]?).getD 0 else 0),(bif decide (2<6)then(s.2[2]?).getD 0 else 0),(bif decide (3<6)then(s.2[3]?).getD 0 else 0),(bif decide (4<6)then(s.2[4]?).getD 0 else 0),(bif decide (5<6)then(s.2[5]?).getD 0 else 0))
def Oo:=(JC n).n [5,10]
theorem agq:al ad.Q (Oo n):=IV (NC n) _
def HC:fc:= ⟨[eB],[],[dK],λ x y=>tj n x,false⟩
theorem aax(x)(y):oI (Oo n) f93 [eB] [] [dK] false [] x y=(HC n).g x y:=by kernel_rfl
theorem XG:jf ad.Q 93 (HC n):=xz (agq n) ad.b (ad.a func93 (by kernel_rfl) (by decide)) (by kernel_rfl) (by kernel_rfl) (O:= []) trivial (aax n)
def KA:=(JC n).a 93 (HC n)
theorem h19:Eo (KA n):=mN (NC n) (XG n)
def Ij(p:cn×aZ)(s:Z4×Z4):Option (EF×Z2×Int):=(tx n p).bind λ x=>bif x.2==0 then(px n x.1 s).bind λ a=>bif a !=0 then some (x.1,((0,0,0,0,0,0),0,0,0,0,0,0),a)else(tj n s).bind λ b=>some (x.1,b,0)else bif x.2 !=0 then some (x.1,((0,0,0,0,0,0),0,0,0,0,0,0),x.2)else(tj n s).bind λ c=>some (x.1,c,0)
def OA:=(KA n).a 95 ⟨[cN,eB],[],[cN,dK,Z0],λ x y=>Ij n x.1 x.2,false⟩
theorem VP:Eo (OA n):=dw ad (h19 n) func95
def IF:=(OA n).a 133 (PJ n)
theorem PM:Eo (IF n):=mN (VP n) (ac3 n)
def yw(a:Z1×J5 Int)(b:Int):Option bZ:=(kZ b 6).bind λ u=>(Gu n (To (C8 b) [a.1.1,a.1.2.1,a.1.2.2.1,a.1.2.2.2.1,a.1.2.2.2.2.1,a.1.2.2.2.2.2])).bind λ x=>(kZ b 6).bind λ d=>(Gu n (To (C8 b) [a.2.1,a.2.2.1,a.2.2.2.1,a.2.2.2.2.1,a.2.2.2.2.2.1,a.2.2.2.2.2.2])).bind λ c=>some (x,c)
def R2:=(IF n).n [1000002]
theorem aiK:al ad.Q (R2 n):=IV (PM n) _
def JH:fc:= ⟨[dK,Z0],[],[eB],λ x y=>yw n x.1 x.2,false⟩
theorem YX(x)(y):oI (R2 n) f102 [dK,Z0] [] [eB] false [] x y=(JH n).g x y:=by kernel_rfl
theorem aiN:jf ad.Q 102 (JH n):=xz (aiK n) ad.b (ad.a func102 (by kernel_rfl) (by decide)) (by kernel_rfl) (by kernel_rfl) (O:= []) trivial (YX n)
def Mp:=(IF n).a 102 (JH n)
theorem h24:Eo (Mp n):=mN (PM n) (aiN n)
def Na(p:cn×aZ)(s:Z4×Z4)(m:Int×Int):Option (bZ×Int):=(Ij n p s).bind λ x=>bif x.2.2==0 then(En n x.1 x.2.1 m).bind λ a=>bif a.2 !=0 then some ((([]:List Int),([]:List Int)),a.2)else(IY n x.1).bind λ b=>(yw n a.1 b).bind λ c=>some (c,0)else bif x.2.2 !=0 then some ((([]:List Int),([]:List Int)),x.2.2)else(IY n x.1).bind λ d=>(yw n x.2.1 d).bind λ e=>some (e,0)
def Lh:=(Mp n).a 35 ⟨[cN,eB,Z3],[],[eB,Z0],λ x y=>Na n x.1 x.2.1 x.2.2,false⟩
theorem h25:Eo (Lh n):=dw ad (h24 n) func35
def LQ:Option pR:=(DU n).bind λ x=>some (x,([4,4,0]:List Int),([0,0,0]:List Int))
def MH:=(Lh n).a 86 ⟨[],[],[uy],λ x y=>LQ n,false⟩
theorem Mw:Eo (MH n):=dw ad (h25 n) func86
def Em:b7 (cn×Int×Int×Z4×Z4×Z4×Z4×Unit) Unit (Int×Unit) Int:=λ(d,f,b,t,j,g,h,_) again (k0,k1,_)=>bif decide (b<f)then(aG d b).bind λ e=>(aG g b).bind λ a=>(aG h b).bind λ c=>(bI (!(a==(-1))) (H2 n a 0 e.2) false).bind λ x=>(bI ((a==(-1))||x) (Dy n c) false).bind λ k=>(vk n (((a==(-1))||x)&&k) 2).bind λ l=>(vk n ((c==0)|| (a !=0)) 13).bind λ m=>(C5 n ([l,m]:List Int)).bind λ i=>bif i !=0 then k1 (i,())else again (d,f,(qK .i64 (b+1)),t,j,g,h,())else k0 ()
def v7(p:cn×aZ)(t:bZ×Z4×Z4):=(px n p t.1).bind λ x=>(IY n p).bind λ a=>(bI ((kX t.2.1:Int)==a) (IY n p) 0).bind λ d=>(vk n (((kX t.2.1:Int)==a)&& ((kX t.2.2:Int)==d)) 10).bind λ e=>(C5 n ([x,e]:List Int)).bind λ b=>bif b !=0 then some b else cq (Em n) n (p.1,(kX p.1:Int),0,t.1.1,t.1.2,t.2.1,t.2.2,()) (λ(_)=>some 0,λ(c,_)=>some c,())
def QI:=(MH n).a 88 ⟨[cN,uy],[],[Z0],λ x y=>v7 n x.1 x.2,false⟩
theorem UR:Eo (QI n):=gD ad (Mw n) func88 (O:= [_]) ⟨gh n (Mw n) (eN 80 [Xb 3 80,aT 37 gv,aT 38 Z0,aT 39 Z0] [X4 80]) [fq 0 80 [] [],fw 80 [aT 4 Z0] []] (Em n),trivial⟩
def ux(p:cn×aZ)(t:bZ×Z4×Z4):=(tx n p).bind λ x=>bif x.2 !=0 then some x.2 else(v7 n x.1 t).bind λ a=>some a
def Rq:=(QI n).a 21 ⟨[cN,uy],[],[Z0],λ x y=>ux n x.1 x.2,false⟩
theorem Uo:Eo (Rq n):=dw ad (UR n) func21
def vm(p:cn×aZ)(t:bZ×Z4×Z4):Option (Z58×Int):=(ux n p t).bind λ x=>bif x !=0 then some ((none:Option Lb),x)else(tj n t.1).bind λ a=>some ((some (p,t,a)),0)
def LP:=(Rq n).a 90 ⟨[cN,uy],[],[TH,Z0],λ x y=>vm n x.1 x.2,false⟩
theorem h29:Eo (LP n):=dw ad (Uo n) func90
def Q9:=(LP n).a 147 (MS n)
theorem FF:Eo (Q9 n):=mN (h29 n) (aaP n)
def Te(n:Nat):b7 (Int×Int×cn×aZ×um×EM×kj×(List Z61)×Unit) (cn×aZ×um×EM×kj×Unit) (xh×Bool×Unit) Cu:=λ(g,a,p,d,r,f,b,c,_) again (k0,k1,_)=>bif decide (a<g)then(aG c a).bind λ e=>(aG c a).bind λ x=>bif Option.isSome (j4 (Ty.f dK) r x.1)then again (g,(qK .i64 (a+1)),p,d,r,f,b,c,())else bif decide (((kX (lz (Ty.f dK) r x.1 x.2):Nat):Int)>4000)then k1 ((none:Option JO),false,())else(jk (kX b+kX ([x.1]:List Z2))).bind λ u=>again (g,(qK .i64 (a+1)),p,d,(lz (Ty.f dK) r x.1 x.2),f,(b++ ([x.1]:List Z2)),c,())else k0 (p,d,r,f,b,())
def Ta:b7 (kj×cn×aZ×um×EM×Unit) (um×EM×Unit) (xh×Bool×Unit) Cu:=λ(last,p,d,r,b,_) again (k0,k1,_)=>bif decide ((kX last:Int)>0)then(OZ n (p,d) last (kX b:Int)).bind λ x=>cq (Te n) n ((kX x:Int),0,p,d,r,b,([]:List Z2),x,()) (λ(e,f,g,c,a,_)=>bif decide ((kX a:Int)>0)then(jk (kX c+kX ([a]:List kj))).bind λ j=>again (a,e,f,g,(c++ ([a]:List kj)),())else again (a,e,f,g,c,()),λ(h,i,_)=>k1 (h,i,()),())else k0 (r,b,())
def Qs(p:cn×aZ)(start:Z1×J5 Int):=(aG ([([start]:List Z2)]:List kj) 0).bind λ e=>(aG ([([start]:List Z2)]:List kj) 0).bind λ x=>cq (Ta n) n (x,p.1,p.2,(lz (Ty.f dK) ([]:List qZ) start (0,((0,0,0,0,0,0),0,0,0,0,0,0),0,0)),([([start]:List Z2)]:List kj),()) (λ(a,b,_)=>some ((some (a,b)),true),λ(c,d,_)=>some (c,d),())
def Kp:=(Q9 n).a 124 ⟨[cN,dK],[],[K1,.aO],λ x y=>Qs n x.1 x.2,false⟩
theorem Lq:Eo (Kp n):=gD ad (FF n) func124 (O:= [_]) ⟨B8 n (FF n) (eN 90 [Xb 2 90,Xb 6 91,aT 7 EC] [X0 90,(91,.cp qE [.iR 92,.iR 93]),(92,.tU dK uf),(93,.jH EC)]) [fq 0 90 [Xb 6 90] [(90,.cp qE [.iR 91,.iR 92]),(91,.tU dK uf),(92,.jH EC)],fw 90 [aT 4 K1,aT 5 .aO] []] (Ta n) (O:= [_]) ⟨gh n (FF n) (eN 90 [Xb 2 90,Xb 6 91,(8,.v (.iR 94)),(38,.v (.iR 95)),aT 39 Z0,aT 40 Z0] [X0 90,(91,.cp qE [.iR 92,.iR 93]),(92,.tU dK uf),(93,.jH EC),(94,.jH dK),(95,.jH Z65)]) [fq 2 90 [Xb 2 90,Xb 6 91,(8,.v (.iR 94))] [X0 90,(91,.cp qE [.iR 92,.iR 93]),(92,.tU dK uf),(93,.jH EC),(94,.jH dK)],fw 90 [aT 4 K1,aT 5 .aO] []] (Te n),trivial⟩,trivial⟩
def B4(n:Nat):b7 (Z58×u6 (Int×Int×Unit)) Unit (Bool×Unit) Bool:=λ(t,f,a,g,h,k,l,m,o,p,q,r,s,i,j,_) again (k0,k1,_)=>bif decide (a<f)then t.bind λ x=>(aG x.2.1.2.1 a).bind λ e=>(bI (e !=(-1)) t (([],[]),(([],[]),[],[]),(0,0,0,0,0,0),0,0,0,0,0,0)).bind λ w=>(bI (e !=(-1)) (aG w.2.1.2.1 a) 0).bind λ b=>(bI (e !=(-1)) (cQ a 6) ()).bind λ u=>(bI (e !=(-1)) (aG [g,h,k,l,m,o] a) 0).bind λ c=>(bI (!((e !=(-1))&& (b !=c))) t (([],[]),(([],[]),[],[]),(0,0,0,0,0,0),0,0,0,0,0,0)).bind λ y=>(bI (!((e !=(-1))&& (b !=c))) (aG y.2.1.2.2 a) 0).bind λ d=>(bI ((!((e !=(-1))&& (b !=c)))&& (d !=0)) t (([],[]),(([],[]),[],[]),(0,0,0,0,0,0),0,0,0,0,0,0)).bind λ z=>(bI ((!((e !=(-1))&& (b !=c)))&& (d !=0)) (aG z.2.1.2.2 a) 0).bind λ v=>(bI ((!((e !=(-1))&& (b !=c)))&& (d !=0)) (cQ a 6) ()).bind λ B=>(bI ((!((e !=(-1))&& (b !=c)))&& (d !=0)) (aG [p,q,r,s,i,j] a) 0).bind λ A=>bif ((e !=(-1))&& (b !=c))|| ((d !=0)&& (v !=A))then k1 (false,())else again (t,f,(qK .i64 (a+1)),g,h,k,l,m,o,p,q,r,s,i,j,())else k0 ()
def ud(t:Option Lb)(a:Z1×J5 Int):=t.bind λ x=>cq (B4 n) n (t,(kX x.1.1:Int),0,a.1.1,a.1.2.1,a.1.2.2.1,a.1.2.2.2.1,a.1.2.2.2.2.1,a.1.2.2.2.2.2,a.2.1,a.2.2.1,a.2.2.2.1,a.2.2.2.2.1,a.2.2.2.2.2.1,a.2.2.2.2.2.2,()) (λ(_)=>some true,λ(b,_)=>some b,())
def SO:=(Kp n).a 92 ⟨[TH,dK],[],[.aO],λ x y=>ud n x.1 x.2,false⟩
theorem L0:Eo (SO n):=gD ad (Lq n) func92 (O:= [_]) ⟨gh n (Lq n) (eN 67 [aT 0 TH,Xb 3 67,aT 12 Z0,aT 13 Z0] [X2 67]) [fq 0 67 [] [],fw 67 [aT 4 .aO] []] (B4 n),trivial⟩
def N8(n:Nat):b7 (kj×(Z2->Option Bool)×Int×Int×Unit) Unit (Int×Unit) Int:=λ(s,f,b,a,_) again (k0,k1,_)=>bif decide (a<b)then(aG s a).bind λ e=>(f e).bind λ x=>bif x then k1 (a,())else again (s,f,b,(qK .i64 (a+1)),())else k0 ()
def Pg(s:List Z2)(f:Z2->Option Bool):=cq (N8 n) n (s,f,(kX s:Int),0,()) (λ(_)=>some (-1),λ(a,_)=>some a,())
def Ti:=(SO n).a 141 ⟨[EC,Z63],[],[Z0],λ x y=>Pg n x.1 x.2,false⟩
theorem M7:Eo (Ti n):=gD ad (L0 n) func141 (O:= [_]) ⟨gh n (L0 n) (eN 19 [aT 0 EC,aT 1 Z63,aT 7 Z0,aT 8 Z0] []) [fq 0 19 [] [],fw 19 [aT 4 Z0] []] (N8 n),trivial⟩
def T6:b7 (Z58×xh×EM×u6 (Int×Int×Unit)) (u6 Unit) (xh×u6 (Int×Unit)) Fp:=λ(t,r,c,d,b,f,g,j,k,l,m,o,p,q,s,h,i,_) again (k0,k1,_)=>bif decide (b<d)then(aG c b).bind λ e=>(Pg n e (λ u=>ud n t u)).bind λ x=>bif decide (x>=0)then(aG e x).bind λ a=>k1 (r,0,a.1.1,a.1.2.1,a.1.2.2.1,a.1.2.2.2.1,a.1.2.2.2.2.1,a.1.2.2.2.2.2,a.2.1,a.2.2.1,a.2.2.2.1,a.2.2.2.2.1,a.2.2.2.2.2.1,a.2.2.2.2.2.2,())else again (t,r,c,d,(qK .i64 (b+1)),f,g,j,k,l,m,o,p,q,s,h,i,())else k0 (f,g,j,k,l,m,o,p,q,s,h,i,())
def Qu(t:Option Lb):Option Fp:=t.bind λ x=>t.bind λ r=>(Qs n x.1 r.2.2).bind λ a=>bif !a.2 then some ((none:Option JO),((0,0,0,0,0,0),0,0,0,0,0,0),8)else a.1.bind λ b=>cq (T6 n) n (t,a.1,b.2,(kX b.2:Int),0,0,0,0,0,0,0,0,0,0,0,0,0,()) (λ(s,u,v,w,y,z,A,B,C,D,E,F,_)=>some ((none:Option JO),((0,0,0,0,0,0),0,0,0,0,0,0),12),λ(c,q,d,e,f,g,h,i,j,k,l,m,o,p,_)=>some (c,((d,e,f,g,h,i),j,k,l,m,o,p),q),())
def Nq:=(Ti n).a 113 ⟨[TH],[],[K1,dK,Z0],λ x y=>Qu n x,false⟩
theorem h34:Eo (Nq n):=gD ad (M7 n) func113 (O:= [_]) ⟨gh n (M7 n) (eN 47 [aT 0 TH,Xb 3 47,aT 5 K1,aT 28 qL,aT 29 Z0,aT 30 Z0] [X2 47]) [fq 0 47 [Xb 3 47] [X2 47],fw 47 [aT 2 K1,Xb 3 47,aT 4 Z0] [X2 47]] (T6 n),trivial⟩
def OD(p:cn×aZ)(t:bZ×Z4×Z4):Option dy:=(vm n p t).bind λ x=>bif x.2 !=0 then some (0,x.2)else(Qu n x.1).bind λ a=>bif a.2.2 !=0 then some (0,a.2.2)else a.1.bind λ b=>some ((Option.getD (j4 (Ty.f dK) b.1 a.2.1) (0,((0,0,0,0,0,0),0,0,0,0,0,0),0,0)).1,0)
def Nb:=(Nq n).a 56 ⟨[cN,uy],[],[Z0,Z0],λ x y=>OD n x.1 x.2,false⟩
theorem Zs:Eo (Nb n):=dw ad (h34 n) func56
def Tt(b:Int)(a:cn×aZ):=(IY n a).bind λ x=>(H2 n b 0 (qK .i64 (x- 1))).bind λ c=>some c
def Ri:=(Nb n).a 98 ⟨[Z0],[cN],[.aO],λ x y=>Tt n x y,false⟩
theorem Kj:Eo (Ri n):=dw ad (Zs n) func98
def Lg:b7 (EF×(Int->Option Bool)×(List Z56)×Int×Int×cn×aZ×Z4×Z4×u6 Unit) (EF×Z4×Z4×u6 Unit) (Int×Unit) Z59:=λ(A,t,y,z,v,p,C,s,w,d,f,g,h,i,j,m,o,q,r,k,l,_) again (k0,k1,_)=>bif decide (v<z)then(aG y v).bind λ e=>(t e.1).bind λ x=>(bI x (t e.2.1) false).bind λ G=>(vk n (x&&G) 6).bind λ M=>(vk n (e.1 !=e.2.1) 11).bind λ N=>(EJ n e.2.2).bind λ O=>(vk n O 2).bind λ P=>(C5 n ([M,N,P]:List Int)).bind λ E=>bif E !=0 then k1 (E,())else(cQ e.1 6).bind λ u=>(aG [m,o,q,r,k,l] e.1).bind λ c=>(cQ e.1 6).bind λ S=>(aG [d,f,g,h,i,j] e.1).bind λ Q=>(vk n (decide (Q>=e.2.2)) 12).bind λ R=>(cQ e.2.1 6).bind λ V=>(aG [d,f,g,h,i,j] e.2.1).bind λ H=>(aG p e.2.1).bind λ F=>(vk n (decide ((qK .i64 (H+e.2.2))<=F.2)) 16).bind λ I=>(cQ e.2.1 6).bind λ W=>(aG [m,o,q,r,k,l] e.2.1).bind λ B=>(bI (!(B==0)) (cQ e.2.1 6) ()).bind λ X=>(bI (!(B==0)) (aG [m,o,q,r,k,l] e.2.1) 0).bind λ J=>(vk n ((B==0)|| (J==c)) 13).bind λ K=>(C5 n ([R,I,K]:List Int)).bind λ D=>bif D !=0 then k1 (D,())else(cQ e.1 6).bind λ Y=>(aG [d,f,g,h,i,j] e.1).bind λ a=>(cQ e.1 6).bind λ Z=>(cQ e.2.1 6).bind λ aa=>(aG [(bif decide (e.1=0)then(qK .i64 (a- e.2.2))else d),(bif decide (e.1=1)then(qK .i64 (a- e.2.2))else f),(bif decide (e.1=2)then(qK .i64 (a- e.2.2))else g),(bif decide (e.1=3)then(qK .i64 (a- e.2.2))else h),(bif decide (e.1=4)then(qK .i64 (a- e.2.2))else i),(bif decide (e.1=5)then(qK .i64 (a- e.2.2))else j)] e.2.1).bind λ b=>(cQ e.2.1 6).bind λ ab=>(cQ e.2.1 6).bind λ ac=>(cQ e.1 6).bind λ T=>(aG [(bif decide (e.2.1=0)then(qK .i64 (b+e.2.2))else(bif decide (e.1=0)then(qK .i64 (a- e.2.2))else d)),(bif decide (e.2.1=1)then(qK .i64 (b+e.2.2))else(bif decide (e.1=1)then(qK .i64 (a- e.2.2))else f)),(bif decide (e.2.1=2)then(qK .i64 (b+e.2.2))else(bif decide (e.1=2)then(qK .i64 (a- e.2.2))else g)),(bif decide (e.2.1=3)then(qK .i64 (b+e.2.2))else(bif decide (e.1=3)then(qK .i64 (a- e.2.2))else h)),(bif decide (e.2.1=4)then(qK .i64 (b+e.2.2))else(bif decide (e.1=4)then(qK .i64 (a- e.2.2))else i)),(bif decide (e.2.1=5)then(qK .i64 (b+e.2.2))else(bif decide (e.1=5)then(qK .i64 (a- e.2.2))else j))] e.1).bind λ L=>bif L==0 then(cQ e.1 6).bind λ U=>again (A,t,y,z,(qK .i64 (v+1)),p,C,s,w,(bif decide (e.2.1=0)then(qK .i64 (b+e.2.2))else(bif decide (e.1=0)then(qK .i64 (a- e.2.2))else d)),(bif decide (e.2.1=1)then(qK .i64 (b+e.2.2))else(bif decide (e.1=1)then(qK .i64 (a- e.2.2))else f)),(bif decide (e.2.1=2)then(qK .i64 (b+e.2.2))else(bif decide (e.1=2)then(qK .i64 (a- e.2.2))else g)),(bif decide (e.2.1=3)then(qK .i64 (b+e.2.2))else(bif decide (e.1=3)then(qK .i64 (a- e.2.2))else h)),(bif decide (e.2.1=4)then(qK .i64 (b+e.2.2))else(bif decide (e.1=4)then(qK .i64 (a- e.2.2))else i)),(bif decide (e.2.1=5)then(qK .i64 (b+e.2.2))else(bif decide (e.1=5)then(qK .i64 (a- e.2.2))else j)),(bif decide (e.1=0)then 0 else(bif decide (e.2.1=0)then c else m)),(bif decide (e.1=1)then 0 else(bif decide (e.2.1=1)then c else o)),(bif decide (e.1=2)then 0 else(bif decide (e.2.1=2)then c else q)),(bif decide (e.1=3)then 0 else(bif decide (e.2.1=3)then c else r)),(bif decide (e.1=4)then 0 else(bif decide (e.2.1=4)then c else k)),(bif decide (e.1=5)then 0 else(bif decide (e.2.1=5)then c else l)),())else again (A,t,y,z,(qK .i64 (v+1)),p,C,s,w,(bif decide (e.2.1=0)then(qK .i64 (b+e.2.2))else(bif decide (e.1=0)then(qK .i64 (a- e.2.2))else d)),(bif decide (e.2.1=1)then(qK .i64 (b+e.2.2))else(bif decide (e.1=1)then(qK .i64 (a- e.2.2))else f)),(bif decide (e.2.1=2)then(qK .i64 (b+e.2.2))else(bif decide (e.1=2)then(qK .i64 (a- e.2.2))else g)),(bif decide (e.2.1=3)then(qK .i64 (b+e.2.2))else(bif decide (e.1=3)then(qK .i64 (a- e.2.2))else h)),(bif decide (e.2.1=4)then(qK .i64 (b+e.2.2))else(bif decide (e.1=4)then(qK .i64 (a- e.2.2))else i)),(bif decide (e.2.1=5)then(qK .i64 (b+e.2.2))else(bif decide (e.1=5)then(qK .i64 (a- e.2.2))else j)),(bif decide (e.2.1=0)then c else m),(bif decide (e.2.1=1)then c else o),(bif decide (e.2.1=2)then c else q),(bif decide (e.2.1=3)then c else r),(bif decide (e.2.1=4)then c else k),(bif decide (e.2.1=5)then c else l),())else k0 (A,s,w,d,f,g,h,i,j,m,o,q,r,k,l,())
def P6(p:cn×aZ)(s:Z4×Z4)(l:List Z56):Option Z59:=(Ij n p s).bind λ x=>(vk n (decide ((kX l:Int)<=20)) 8).bind λ v=>(C5 n ([x.2.2,v]:List Int)).bind λ b=>bif b !=0 then some (((([]:List Int),([]:List Int)),([]:List Int),([]:List Int)),b)else cq (Lg n) n (x.1,(λ C=>Tt n C x.1),l,(kX l:Int),0,p.1,p.2,s.1,s.2,x.2.1.1.1,x.2.1.1.2.1,x.2.1.1.2.2.1,x.2.1.1.2.2.2.1,x.2.1.1.2.2.2.2.1,x.2.1.1.2.2.2.2.2,x.2.1.2.1,x.2.1.2.2.1,x.2.1.2.2.2.1,x.2.1.2.2.2.2.1,x.2.1.2.2.2.2.2.1,x.2.1.2.2.2.2.2.2,()) (λ(a,c,d,f,g,h,i,j,k,m,o,q,r,t,u,_)=>(IY n a).bind λ w=>(yw n ((f,g,h,i,j,k),m,o,q,r,t,u) w).bind λ y=>(tj n (c,d)).bind λ z=>(IY n a).bind λ A=>(yw n z A).bind λ B=>some ((B,y),0),λ(e,_)=>some (((([]:List Int),([]:List Int)),([]:List Int),([]:List Int)),e),())
def NF:=(Ri n).a 29 ⟨[cN,eB,(.aH Z6)],[],[uy,Z0],λ x y=>P6 n x.1 x.2.1 x.2.2,false⟩
theorem VK:Eo (NF n):=gD ad (Kj n) func29 (O:= [_]) ⟨gh n (Kj n) (eN 173 [Xb 3 173,Xb 4 174,Xb 6 175,Xp 8 cN,Xb 9 176,aT 11 (.dP Z0 .aO),aT 37 (.aH Z6),aT 38 Z0,aT 39 Z0] [X0 173,X1 174,X5 175,X2 176]) [fq 0 173 [Xb 4 173,Xb 6 174,Xp 8 cN,Xb 9 175] [X1 173,X5 174,X2 175],fw 173 [Xb 6 173,aT 7 Z0] [X5 173]] (Lg n),trivial⟩
def Tn:=(NF n).a 157 (M6 n)
theorem h38:Eo (Tn n):=mN (VK n) (aeb n)
def Nh:=(Tn n).a 184 (T7 n)
theorem h39:Eo (Nh n):=mN (h38 n) (abx n)
def Gi(s a:BW):=(BL n s a).bind λ x=>some x
def pf:=(Nh n).a 158 ⟨[.aJ,.aJ],[],[Z0],λ x y=>Gi n x.1 x.2,false⟩
theorem El:Eo (pf n):=dw ad (h39 n) func158
def Is:b7 (BW×Unit) Unit Unit zp:=λ(a,_) again (k0,k1,_)=>bif decide ((kX a:Int)>0)then(KJ n a).bind λ x=>(iB a 0 x.2).bind λ b=>tG (α:=BW) b ((iB a x.2 (kX a:Int)).bind λ c=>again (c,())) (k1 ())else k0 ()
def Gy:b7 (BW×BW×Int×Unit) (BW×Unit) Unit zp:=λ(b,a,c,_) again (k0,k1,_)=>(Gi n a b).bind λ x=>bif decide (x<0)then k0 (a,())else(iB a 0 (qK .i64 (x+c))).bind λ d=>tG (α:=BW) d ((iB a (qK .i64 (x+ (kX b:Int))) (kX a:Int)).bind λ e=>again (b,e,c,())) (k1 ())
def Nc(a c1:BW)(c2:Int):=bif (kX a:Int)==0 then cq (Is n) n (c1,()) (λ(_)=>some [],λ(_)=>some [],())else cq (Gy n) n (a,c1,c2,()) (λ(b,_)=>tG (α:=BW) b (some []) (some []),λ(_)=>some [],())
def IX:cf:= ⟨52,[.aJ],[(0,.v (.sZ)),Xb 2 52],[X3 52],[]⟩
def Td:List (dN×cf):= [(.ou 0,⟨52,[],[],[],[]⟩),(.sT,⟨52,[],[],[],[]⟩)]
def I4:Ev (List (ax [.aJ])):=mG n (pf n) IX Td (Is n)
theorem UM d again ks:dv (R:=(List (ax [.aJ]))) (pf n) (jP [.aJ]) (iw (lp (bd Tl) 0)) [] (mk IX d) (mL (pf n) IX Td again ks)=Is n d again ks:=by kernel_rfl
theorem aeA:eS ad.Q (jP [.aJ]) false (lp (bd Tl) 0) (I4 n):=rk (El n) ad.b (by kernel_rfl) (O:= []) trivial (UM n)
def Ip:cf:= ⟨52,[.aJ,.aJ,Z0],[(0,.v (.sZ)),Xb 1 52,Xb 2 53,Xb 3 54],[X3 52,X3 53,(54,.cp Z0 [.aj Z0])],[]⟩
def Pn:List (dN×cf):= [(.ou 2,⟨52,[.aJ],[(0,.v (.sZ)),Xb 2 52],[X3 52],[]⟩),(.sT,⟨52,[],[],[],[]⟩)]
def HL:Ev (List (ax [.aJ])):=mG n (pf n) Ip Pn (Gy n)
theorem ahD d again ks:dv (R:=(List (ax [.aJ]))) (pf n) (jP [.aJ]) (iw (lp (bd Tl) 1)) [] (mk Ip d) (mL (pf n) Ip Pn again ks)=Gy n d again ks:=by kernel_rfl
theorem af6:eS ad.Q (jP [.aJ]) false (lp (bd Tl) 1) (HL n):=rk (El n) ad.b (by kernel_rfl) (O:= []) trivial (ahD n)
def aeW(e c1:BW)(c2:Int):au:={N:=52,d:= [],a:=(0,⟨[],true,.v .ku⟩):: [(1,⟨[],true,.v (.dx 0 0 0)⟩),(2,⟨[],true,.v (.dx 1 0 0)⟩),(3,⟨[],true,.v (.dx 2 0 0)⟩)],b:= [(0,0,.eu .aJ [.aE .aJ e]),(1,0,.eu .aJ [.aE .aJ c1]),(2,0,.eu Z0 [.aE Z0 c2])],c:= []}
theorem aeY(a)(c1)(c2):dv (R:=(List (ax [.aJ]))) (pf n) (jP [.aJ]) (bd Tl) [I4 n,HL n] (aeW a c1 c2) Cb=Nc n a c1 c2:=by kernel_rfl
theorem ahS:eS ad.Q (jP [.aJ]) false (bd Tl) (dv (R:=(List (ax [.aJ]))) (pf n) (jP [.aJ]) (bd Tl) [I4 n,HL n]):=ji (El n) ad.b _ _ (my ⟨aeA n,af6 n,trivial⟩)
def HO(s t:BW):Option Iq:=Nc n t s 0
theorem YH:Ej ad.Q 115 .aJ (HO n):=ZA (ahS n) λ s t=>aeY n t s 0
def Pp:=pf n
theorem h41:Eo (Pp n):=El n
def MB:=(Pp n).a 159 (Ps n)
theorem h42:Eo (MB n):=mN (h41 n) (ahr n)
def Pa:=(MB n).a 160 (QB n)
theorem TY:Eo (Pa n):=mN (h42 n) (aeV n)
def Fw:o4 (BW×BW×J3 (Iq×Unit)) (BW×Int×Iq×Unit) Iq:=λ(s,sep,b,c,i,a,_) again (k0,_)=>bif decide (i<c)then(Gi n s sep).bind λ x=>bif decide (x<0)then k0 (s,i,a,())else(iB s 0 (qK .i64 (x+b))).bind λ d=>(aG a i).bind λ e=>(tD a i d).bind λ l=>(iB s (qK .i64 (x+ (kX sep:Int))) (kX s:Int)).bind λ f=>again (f,sep,b,c,(qK .i64 (i+1)),l,())else k0 (s,i,a,())
def MC(s sep:BW)(g a:Int):Option Iq:=bif a==0 then some ([]:List BW)else bif sep== []then(TI n s a).bind λ x=>some x else bif decide (a<0)then(Bp n s sep).bind λ d=>(CO (bu (qK .i64 (d+1)) (qK .i64 ((kX s:Int)+1)))).bind λ u=>cq (Fw n) n (s,sep,g,(qK .i64 ((bu (qK .i64 (d+1)) (qK .i64 ((kX s:Int)+1)))- 1)),0,(y6 (C8 (bu (qK .i64 (d+1)) (qK .i64 ((kX s:Int)+1)))) []),()) (λ(j,b,e,_)=>(aG e b).bind λ o=>(tD e b j).bind λ h=>(iB h 0 (qK .i64 (b+1))).bind λ l=>some l,())else(CO (bu a (qK .i64 ((kX s:Int)+1)))).bind λ q=>cq (Fw n) n (s,sep,g,(qK .i64 ((bu a (qK .i64 ((kX s:Int)+1)))- 1)),0,(y6 (C8 (bu a (qK .i64 ((kX s:Int)+1)))) []),()) (λ(k,c,f,_)=>(aG f c).bind λ p=>(tD f c k).bind λ i=>(iB i 0 (qK .i64 (c+1))).bind λ m=>some m,())
def M3:=(Pa n).a 146 ⟨[.aJ,.aJ,Z0,Z0],[],[Z68],λ x y=>MC n x.1 x.2.1 x.2.2.1 x.2.2.2,false⟩
theorem h44:Eo (M3 n):=gD ad (TY n) func146 (O:= [_]) ⟨gh n (TY n) (eN 66 [aT 0 .aJ,aT 1 .aJ,aT 2 Z0,aT 3 Z0,(9,.v (.iR 66)),aT 10 Z0] [(66,.jH .aJ)]) [fq 0 66 [aT 0 .aJ,(9,.v (.iR 66)),aT 10 Z0] [(66,.jH .aJ)]] (Fw n),trivial⟩
def Qd(s sep:BW):=(MC n s sep 0 (-1)).bind λ x=>some x
def qA:=(M3 n).a 116 ⟨[.aJ,.aJ],[],[Z68],λ x y=>Qd n x.1 x.2,false⟩
theorem HN:Eo (qA n):=dw ad (h44 n) func116
def BN:amo (cn×aZ×Int×aZ×Bool×Unit) BW (Int×Unit) Z62:=λ(p,g,h,out,missing,_) y again (k0,_)=>(Qd n y [32]).bind λ x=>(bI (!((kX x:Int) !=2)) (aG x 0) []).bind λ e=>(bI (!(((kX x:Int) !=2)|| (e== []))) (aG x 1) []).bind λ c=>bif (((kX x:Int) !=2)|| (e== []))|| (c== [])then k0 (7,())else(aG x 0).bind λ d=>(vV n p d).bind λ a=>(aG x 1).bind λ f=>(vV n p f).bind λ b=>(jk (kX out+kX ([(a,b)]:List dy))).bind λ u=>again (p,g,h,(out++ ([(a,b)]:List dy)),((missing|| (decide (a<0)))|| (decide (b<0))),())
def LL(p:cn×aZ)(s:BW):Option Z62:=(tx n p).bind λ x=>bif x.2 !=0 then some (([]:List dy),x.2)else bif s== []then some (([]:List dy),0)else(HO n s [59]).bind λ xs=>la (BN n) (λ(c,_)=>some (([]:List dy),c),()) (λ(d,e,f,b,a,_)=>bif a then some (([]:List dy),6)else some (b,0)) xs (p.1,p.2,0,([]:List dy),false,())
def uc:cf:= ⟨73,[gv,fh,Z0,fh,.aO],[Xb 2 73,Xb 4 74,Xb 5 75,Xb 8 76,Xb 9 78],[X0 73,(74,.cp fh [.j6]),(75,.cp Z0 [.aj Z0]),(76,.cp fh [.iR 77]),(77,.jH Z3),(78,.cp .aO [.aj .aO])],[]⟩
def Gr:List (dN×cf):= [(.sT,⟨73,[Z0],[Xb 4 73,Xb 5 74],[(73,.cp fh [.j6]),(74,.cp Z0 [.aj Z0])],[]⟩)]
theorem aaS(d)(x)(again)(ks):dv (R:=(ax [fh,Z0])) (qA n) (bT.b (R:=(ax [fh,Z0]))) (D8 (pE 5 (bd f58))) [] (yO uc [2,4,5,8,9] [25] [.aJ] d x) (tH λ st=>dv (R:=(ax [fh,Z0])) (qA n) (bT.b (R:=(ax [fh,Z0]))) (Dt (pE 5 (bd f58))) [] st (wR (qA n) uc [2,4,5,8,9] Gr again ks))=BN n d x again ks:=by kernel_rfl
def JN:fc:= ⟨[cN,.aJ],[],[fh,Z0],λ x y=>LL n x.1 x.2,false⟩
theorem XJ:CD 1 23 24 115 0 25 [59] (pE 5 (bd f58))=true:=by kernel_rfl
theorem WE:qp (R:=(ax [fh,Z0])) ad.Q (qA n) [.aJ] [25] (D8 (pE 5 (bd f58))) (Dt (pE 5 (bd f58))) [] [] uc [2,4,5,8,9] Gr (BN n):=ab1 (HN n) ad.b rfl (by decide) (by decide) rfl trivial trivial (aaS n)
theorem abU(d)(k)(sl)(h:Map.av (mk uc d).a k=some sl):k≠23/\k≠24:=U7 (T:=uc) (by kernel_rfl) d k sl h
theorem aet(x)(y):(xP (qA n) (bT.b (R:=(ax [fh,Z0]))) (Eu (qA n) .aJ (.tmp 1) (λ s=>HO n s [59]) uc Gr (BN n) 0) 5 (bd f58)) (uN f58.ntmps [cN,.aJ] [] x y) (xj (qA n) false f58.results.toList [fh,Z0])=(JN n).g x y:=by kernel_rfl
theorem Zf:jf ad.Q 58 (JN n):=ZQ (HN n) ad.b (ad.a func58 (by kernel_rfl) (by decide)) (by kernel_rfl) (by kernel_rfl) (by kernel_rfl) (YH n) XJ (by kernel_rfl) (by decide) (by decide) (by decide) (WE n) abU (aet n)
def Rl:=(qA n).a 58 (JN n)
theorem Tq:Eo (Rl n):=mN (HN n) (Zf n)
def Pu(n:Nat):b7 (Z4×Z4×Int×Unit) Unit (Bool×Unit) Bool:=λ(a,b,i,_) again (k0,k1,_)=>bif decide (i< (kX a:Int))then(aG a i).bind λ e=>(aG b i).bind λ c=>bif e !=c then k1 (false,())else again (a,b,(qK .i64 (i+1)),())else k0 ()
def zL(a b:List Int):=bif (kX a:Int) !=(kX b:Int)then some false else cq (Pu n) n (a,b,0,()) (λ(_)=>some true,λ(c,_)=>some c,())
def Mb:=(Rl n).a 82 ⟨[Z5,Z5],[],[.aO],λ x y=>zL n x.1 x.2,false⟩
theorem h47:Eo (Mb n):=gD ad (Tq n) func82 (O:= [_]) ⟨gh n (Tq n) (eN 26 [aT 0 Z5,aT 1 Z5,aT 5 Z0] []) [fq 0 26 [] [],fw 26 [aT 4 .aO] []] (Pu n),trivial⟩
def Mn(a b:Z4×Z4):=(zL n a.1 b.1).bind λ x=>(bI x (zL n a.2 b.2) false).bind λ c=>some (x&&c)
def P3:=(Mb n).a 41 ⟨[eB,eB],[],[.aO],λ x y=>Mn n x.1 x.2,false⟩
theorem OJ:Eo (P3 n):=dw ad (h47 n) func41
def Sk(n:Nat):b7 (aZ×aZ×Int×Unit) Unit (Bool×Unit) Bool:=λ(a,b,i,_) again (k0,k1,_)=>bif decide (i< (kX a:Int))then(aG a i).bind λ e=>(aG b i).bind λ c=>bif !((e.1==c.1)&& (e.2==c.2))then k1 (false,())else again (a,b,(qK .i64 (i+1)),())else k0 ()
def RH(a b:List dy):=bif (kX a:Int) !=(kX b:Int)then some false else cq (Sk n) n (a,b,0,()) (λ(_)=>some true,λ(c,_)=>some c,())
def Qo:=(P3 n).a 38 ⟨[fh,fh],[],[.aO],λ x y=>RH n x.1 x.2,false⟩
theorem h49:Eo (Qo n):=gD ad (OJ n) func38 (O:= [_]) ⟨gh n (OJ n) (eN 26 [aT 0 fh,aT 1 fh,aT 5 Z0] []) [fq 0 26 [] [],fw 26 [aT 4 .aO] []] (Sk n),trivial⟩
def FJ:=(zC n).bind λ x=>(DU n).bind λ h=>(Na n x h (0,1)).bind λ b=>(zC n).bind λ j=>(LQ n).bind λ k=>(OD n j k).bind λ a=>(zC n).bind λ l=>(DU n).bind λ m=>(P6 n l m ([(0,1,2),(1,2,1)]:List Z56)).bind λ c=>(zC n).bind λ o=>(LL n o [97,32,98,59,98,32,99]).bind λ e=>(bI (b.2==0) (Mn n b.1 (([3,5,0]:List Int),([1,1,0]:List Int))) false).bind λ d=>(bI (((((b.2==0)&&d)&& (a.2==0))&& (a.1==7))&& (c.2==0)) (zL n c.1.2.1 ([6,1,1]:List Int)) false).bind λ f=>(bI ((((((b.2==0)&&d)&& (a.2==0))&& (a.1==7))&& (c.2==0))&&f) (zL n c.1.2.2 ([1,1,1]:List Int)) false).bind λ g=>(bI ((((((((b.2==0)&&d)&& (a.2==0))&& (a.1==7))&& (c.2==0))&&f)&&g)&& (e.2==0)) (RH n e.1 ([(0,1),(1,2)]:List dy)) false).bind λ i=>some (((((((((b.2==0)&&d)&& (a.2==0))&& (a.1==7))&& (c.2==0))&&f)&&g)&& (e.2==0))&&i)
def Rn:=(Qo n).a 17 ⟨[],[],[.aO],λ x y=>FJ n,false⟩
theorem h50:Eo (Rn n):=dw ad (h49 n) func17
def qg(n:Nat)(a lo b:Int):=some ((decide (lo<=a))&& (decide (a<=b)))
def OS:=(Rn n).a 47 ⟨[Z0,Z0,Z0],[],[.aO],λ x y=>qg n x.1 x.2.1 x.2.2,false⟩
theorem LN:Eo (OS n):=dw ad (h50 n) func47
def yJ:b7 (Int×cn×aZ×Unit) Unit (Bool×Unit) Bool:=λ(i,p,b,_) again (k0,k1,_)=>bif decide (i< (kX p:Int))then(aG p i).bind λ e=>(bI (!(decide ((kX e.1:Int)>20))) (aG p i) ([],0)).bind λ a=>(bI (!(decide ((kX e.1:Int)>20))) (qg n a.2 11 50) false).bind λ x=>bif (decide ((kX e.1:Int)>20))||x then k1 (false,())else again ((qK .i64 (i+1)),p,b,())else k0 ()
def xB(p:cn×aZ):=bif ((((decide ((kX p.1:Int)>4))&& (decide ((kX p.1:Int)<=6)))|| (decide ((kX p.1:Int)>8)))|| ((decide ((kX p.2:Int)>14))&& (decide ((kX p.2:Int)<=30))))|| (decide ((kX p.2:Int)>32))then some false else cq (yJ n) n (0,p.1,p.2,()) (λ(_)=>some true,λ(a,_)=>some a,())
def Nw:=(OS n).a 18 ⟨[cN],[],[.aO],λ x y=>xB n x,false⟩
theorem h52:Eo (Nw n):=gD ad (LN n) func18 (O:= [_]) ⟨gh n (LN n) (eN 62 [Xb 1 62,aT 3 Z0] [X0 62]) [fq 0 62 [] [],fw 62 [aT 2 .aO] []] (yJ n),trivial⟩
def wX(n:Nat)(s:Z4×Z4):=some ((decide ((kX s.1:Int)<=10))&& (decide ((kX s.2:Int)<=10)))
def Sj:=(Nw n).a 20 ⟨[eB],[],[.aO],λ x y=>wX n x,false⟩
theorem h53:Eo (Sj n):=dw ad (h52 n) func20
def zS(t:bZ×Z4×Z4):=(wX n t.1).bind λ x=>some ((x&& (decide ((kX t.2.1:Int)<=10)))&& (decide ((kX t.2.2:Int)<=10)))
def Sf:=(Sj n).a 19 ⟨[uy],[],[.aO],λ x y=>zS n x,false⟩
theorem h54:Eo (Sf n):=dw ad (h53 n) func19
def wL(n:Nat)(p:cn×aZ):Option EF:=(jk (kX ([]:List qG)+kX p.1)).bind λ u=>(jk (kX ([]:List dy)+kX p.2)).bind λ a=>some ((([]:List qG)++p.1),(([]:List dy)++p.2))
def Mv:=(Sf n).a 22 ⟨[cN],[],[cN],λ x y=>wL n x,false⟩
theorem WJ:Eo (Mv n):=dw ad (h54 n) func22
def uV(n:Nat)(l:List Int):Option Z4:=(jk (kX ([]:List Int)+kX l)).bind λ u=>some (([]:List Int)++l)
def NG:=(Mv n).a 89 ⟨[Z5],[],[Z5],λ x y=>uV n x,true⟩
theorem h56:Eo (NG n):=dw ad (WJ n) func89
def th(s:Z4×Z4):Option bZ:=(uV n s.1).bind λ x=>(uV n s.2).bind λ a=>some (x,a)
def Rx:=(NG n).a 25 ⟨[eB],[],[eB],λ x y=>th n x,true⟩
theorem h57:Eo (Rx n):=dw ad (h56 n) func25
def xf(t:bZ×Z4×Z4):Option pR:=(th n t.1).bind λ x=>(uV n t.2.1).bind λ a=>(uV n t.2.2).bind λ b=>some (x,a,b)
def NB:=(Rx n).a 23 ⟨[uy],[],[uy],λ x y=>xf n x,false⟩
theorem Zu:Eo (NB n):=dw ad (h57 n) func23
def yx(n:Nat):b7 (BW×Int×Unit) Unit (Bool×Unit) Bool:=λ(s,i,_) again (k0,k1,_)=>bif decide (i< (kX s:Int))then(aG s i).bind λ c=>bif (!(((decide (((vi c:Nat):Int)>=97))&& (decide (((vi c:Nat):Int)<=122)))|| ((decide (((vi c:Nat):Int)>=65))&& (decide (((vi c:Nat):Int)<=90)))))&& ((i==0)|| ((((vi c:Nat):Int) !=45)&& ((decide (((vi c:Nat):Int)<48))|| (decide (((vi c:Nat):Int)>57)))))then k1 (false,())else again (s,(qK .i64 (i+1)),())else k0 ()
def EH(s:BW):=bif (decide ((kX s:Int)<1))|| (decide ((kX s:Int)>12))then some false else cq (yx n) n (s,0,()) (λ(_)=>some true,λ(a,_)=>some a,())
def Pm:=(NB n).a 110 ⟨[.aJ],[],[.aO],λ x y=>EH n x,false⟩
theorem Oe:Eo (Pm n):=gD ad (Zu n) func110 (O:= [_]) ⟨gh n (Zu n) (eN 55 [aT 0 .aJ,aT 3 Z0] []) [fq 0 55 [] [],fw 55 [aT 2 .aO] []] (yx n),trivial⟩
def zF(p:cn×aZ)(a:Int):=(qg n a 0 (qK .i64 ((kX p.1:Int)- 1))).bind λ x=>some x
def Ny:=(Pm n).a 80 ⟨[cN,Z0],[],[.aO],λ x y=>zF n x.1 x.2,false⟩
theorem h60:Eo (Ny n):=dw ad (Oe n) func80
def Ak(n:Nat):b7 (Int×Int×cn×aZ×Unit) (Int×cn×aZ×Unit) (Int×Int×Unit) dy:=λ(i,a,p,b,_) again (k0,k1,_)=>bif decide (a<i)then(aG p a).bind λ e=>(aG p i).bind λ c=>bif e.1==c.1 then k1 (i,5,())else again (i,(qK .i64 (a+1)),p,b,())else k0 (i,p,b,())
def yU:b7 (Int×cn×aZ×Unit) (cn×aZ×Unit) (Int×Int×Unit) dy:=λ(i,p,b,_) again (k0,k1,_)=>bif decide (i< (kX p:Int))then(aG p i).bind λ e=>(EH n e.1).bind λ x=>bif !x then k1 (i,4,())else cq (Ak n) n (i,0,p,b,()) (λ(a,c,f,_)=>(aG c a).bind λ d=>(qg n d.2 1 50).bind λ j=>bif !j then k1 (a,2,())else again ((qK .i64 (a+1)),c,f,()),λ(g,h,_)=>k1 (g,h,()),())else k0 (p,b,())
def yj(n:Nat):b7 (Int×Int×cn×aZ×Int×Int×Unit) (Int×cn×aZ×Unit) (Int×Int×Unit) dy:=λ(i,b,p,a,h,c,_) again (k0,k1,_)=>bif decide (b<i)then(aG a b).bind λ e=>bif (e.1==h)&& (e.2==c)then k1 (i,26,())else again (i,(qK .i64 (b+1)),p,a,h,c,())else k0 (i,p,a,())
def zm:b7 (Int×cn×aZ×Unit) Unit (Int×Int×Unit) dy:=λ(i,p,a,_) again (k0,k1,_)=>bif decide (i< (kX a:Int))then(aG a i).bind λ e=>(cQ 0 2).bind λ u=>(aG [e.1,e.2] 0).bind λ x=>(zF n (p,a) x).bind λ b=>(bI (!(!b)) (cQ 1 2) ()).bind λ o=>(bI (!(!b)) (aG [e.1,e.2] 1) 0).bind λ j=>(bI (!(!b)) (zF n (p,a) j) false).bind λ k=>bif (!b)|| (!k)then k1 (i,6,())else(cQ 0 2).bind λ q=>(aG [e.1,e.2] 0).bind λ l=>(cQ 1 2).bind λ r=>(aG [e.1,e.2] 1).bind λ m=>bif l==m then k1 (i,11,())else cq (yj n) n (i,0,p,a,e.1,e.2,()) (λ(c,d,f,_)=>again ((qK .i64 (c+1)),d,f,()),λ(g,h,_)=>k1 (g,h,()),())else k0 ()
def xy(p:cn×aZ):Option dy:=bif (kX p.1:Int)==0 then some (0,10)else bif decide ((kX p.1:Int)>6)then some (0,8)else cq (yU n) n (0,p.1,p.2,()) (λ(b,a,_)=>bif decide ((kX a:Int)>30)then some (0,8)else cq (zm n) n (0,b,a,()) (λ(_)=>some (0,0),λ(c,e,_)=>some (c,e),()),λ(d,f,_)=>some (d,f),())
def OF:=(Ny n).a 46 ⟨[cN],[],[Z0,Z0],λ x y=>xy n x,false⟩
theorem zq:Eo (OF n):=gD ad (h60 n) func46 (O:= [_,_]) ⟨B8 n (h60 n) (eN 109 [Xb 1 109,aT 4 Z0] [X0 109]) [fq 0 109 [Xb 1 109] [X0 109],fw 109 [aT 2 Z0,aT 3 Z0] []] (yU n) (O:= [_]) ⟨gh n (h60 n) (eN 109 [Xb 1 109,aT 4 Z0,aT 5 Z0] [X0 109]) [fq 2 109 [Xb 1 109,aT 4 Z0] [X0 109],fw 109 [aT 2 Z0,aT 3 Z0] []] (Ak n),trivial⟩,B8 n (h60 n) (eN 109 [Xb 1 109,aT 6 Z0] [X0 109]) [fq 4 109 [] [],fw 109 [aT 2 Z0,aT 3 Z0] []] (zm n) (O:= [_]) ⟨gh n (h60 n) (eN 109 [Xb 1 109,aT 6 Z0,Xb 7 110,aT 8 Z0] [X0 109,(110,.cp Z3 [.aj Z0,.aj Z0])]) [fq 6 109 [Xb 1 109,aT 6 Z0] [X0 109],fw 109 [aT 2 Z0,aT 3 Z0] []] (yj n),trivial⟩,trivial⟩
def DI:b7 (Int×cn×aZ×Z4×Z4×Unit) Unit (Int×Unit) Int:=λ(i,p,g,s,a,_) again (k0,k1,_)=>bif decide (i< (kX p:Int))then(aG s i).bind λ e=>(aG p i).bind λ b=>(qg n e 0 b.2).bind λ x=>(bI (!(!x)) (aG a i) 0).bind λ c=>(bI (!(!x)) (qg n c 0 3) false).bind λ h=>bif (!x)|| (!h)then k1 (2,())else(aG a i).bind λ d=>(aG s i).bind λ f=>bif !((d==0)==(f==0))then k1 (13,())else again ((qK .i64 (i+1)),p,g,s,a,())else k0 ()
def sM(p:cn×aZ)(s:Z4×Z4):=bif ((kX s.1:Int) !=(kX p.1:Int))|| ((kX s.2:Int) !=(kX p.1:Int))then some 10 else cq (DI n) n (0,p.1,p.2,s.1,s.2,()) (λ(_)=>some 0,λ(a,_)=>some a,())
def Qw:=(OF n).a 27 ⟨[cN,eB],[],[Z0],λ x y=>sM n x.1 x.2,false⟩
theorem Of:Eo (Qw n):=gD ad (zq n) func27 (O:= [_]) ⟨gh n (zq n) (eN 64 [Xb 2 64,Xb 3 65,aT 5 Z0] [X0 64,X1 65]) [fq 0 64 [] [],fw 64 [aT 4 Z0] []] (DI n),trivial⟩
def Ez:b7 (Int×cn×aZ×Z4×Z4×Z4×Z4×Unit) Unit (Int×Unit) Int:=λ(i,p,j,t,k,a,b,_) again (k0,k1,_)=>bif decide (i< (kX p:Int))then(aG a i).bind λ e=>(bI (e !=(-1)) (aG a i) 0).bind λ d=>(bI (e !=(-1)) (aG p i) ([],0)).bind λ f=>(bI (e !=(-1)) (qg n d 0 f.2) false).bind λ x=>(bI (!((e !=(-1))&& (!x))) (aG b i) 0).bind λ g=>(bI (!((e !=(-1))&& (!x))) (qg n g 0 3) false).bind λ l=>bif ((e !=(-1))&& (!x))|| (!l)then k1 (2,())else(aG b i).bind λ c=>(bI (c !=0) (aG a i) 0).bind λ h=>bif (c !=0)&& (h==0)then k1 (13,())else again ((qK .i64 (i+1)),p,j,t,k,a,b,())else k0 ()
def wy(p:cn×aZ)(t:bZ×Z4×Z4):=(sM n p t.1).bind λ x=>bif x !=0 then some x else bif ((kX t.2.1:Int) !=(kX p.1:Int))|| ((kX t.2.2:Int) !=(kX p.1:Int))then some 10 else cq (Ez n) n (0,p.1,p.2,t.1.1,t.1.2,t.2.1,t.2.2,()) (λ(_)=>some 0,λ(a,_)=>some a,())
def QL:=(Qw n).a 94 ⟨[cN,uy],[],[Z0],λ x y=>wy n x.1 x.2,false⟩
theorem Lw:Eo (QL n):=gD ad (Of n) func94 (O:= [_]) ⟨gh n (Of n) (eN 81 [Xb 2 81,Xb 3 82,aT 6 Z0] [X0 81,X4 82]) [fq 0 81 [] [],fw 81 [aT 4 Z0] []] (Ez n),trivial⟩
def AT(p:cn×aZ)(t:bZ×Z4×Z4):=(xy n p).bind λ x=>bif x.2 !=0 then some x.2 else(wy n p t).bind λ a=>some a
def Qi:=(QL n).a 26 ⟨[cN,uy],[],[Z0],λ x y=>AT n x.1 x.2,false⟩
theorem h64:Eo (Qi n):=dw ad (Lw n) func26
def EX(n:Nat):b7 (Int×Z4×Z4×Z4×Z4×Z4×Z4×Unit) Unit (Bool×Unit) Bool:=λ(i,t,k,d,f,s,g,_) again (k0,k1,_)=>bif decide (i< (kX s:Int))then(aG d i).bind λ e=>(bI (e !=(-1)) (aG d i) 0).bind λ a=>(bI (e !=(-1)) (aG s i) 0).bind λ b=>(bI (!((e !=(-1))&& (a !=b))) (aG f i) 0).bind λ c=>(bI ((!((e !=(-1))&& (a !=b)))&& (c !=0)) (aG f i) 0).bind λ h=>(bI ((!((e !=(-1))&& (a !=b)))&& (c !=0)) (aG g i) 0).bind λ j=>bif ((e !=(-1))&& (a !=b))|| ((c !=0)&& (h !=j))then k1 (false,())else again ((qK .i64 (i+1)),t,k,d,f,s,g,())else k0 ()
def wS(t:bZ×Z4×Z4)(s:Z4×Z4):=cq (EX n) n (0,t.1.1,t.1.2,t.2.1,t.2.2,s.1,s.2,()) (λ(_)=>some true,λ(a,_)=>some a,())
def Kv:=(Qi n).a 28 ⟨[uy,eB],[],[.aO],λ x y=>wS n x.1 x.2,false⟩
theorem LO:Eo (Kv n):=gD ad (h64 n) func28 (O:= [_]) ⟨gh n (h64 n) (eN 53 [Xb 2 53,Xb 3 54,aT 5 Z0] [X4 53,X1 54]) [fq 0 53 [] [],fw 53 [aT 4 .aO] []] (EX n),trivial⟩
def akl(n:Nat):b7 (Int×cn×aZ×Int×Int×Unit) Unit (Bool×Unit) Bool:=λ(i,p,a,m,b,_) again (k0,k1,_)=>bif decide (i< (kX a:Int))then(aG a i).bind λ e=>bif (e.1==m)&& (e.2==b)then k1 (true,())else again ((qK .i64 (i+1)),p,a,m,b,())else k0 ()
def akG(p:cn×aZ)(m:Int×Int):=cq (akl n) n (0,p.1,p.2,m.1,m.2,()) (λ(_)=>some false,λ(a,_)=>some a,())
def e68:=(Kv n).a 105 ⟨[cN,Z3],[],[.aO],λ x y=>akG n x.1 x.2,false⟩
theorem h68:Eo (e68 n):=gD ad (LO n) func105 (O:= [_]) ⟨gh n (LO n) (eN 24 [Xb 2 24,Xb 3 25,aT 5 Z0] [X0 24,(25,.cp Z3 [.aj Z0,.aj Z0])]) [fq 0 24 [] [],fw 24 [aT 4 .aO] []] (akl n),trivial⟩
def x6(p:cn×aZ)(s:Z4×Z4)(m:Int×Int):Option Int:=(zF n p m.1).bind λ x=>(bI (!(!x)) (zF n p m.2) false).bind λ g=>bif (!x)|| (!g)then some 6 else(akG n p m).bind λ h=>bif !h then some 18 else(aG s.1 m.1).bind λ e=>bif e==0 then some 12 else(aG s.1 m.2).bind λ b=>(aG p.1 m.2).bind λ c=>bif b==c.2 then some 16 else(aG s.2 m.2).bind λ a=>(bI (a !=0) (aG s.2 m.2) 0).bind λ d=>(bI (a !=0) (aG s.2 m.1) 0).bind λ f=>bif (a !=0)&& (d !=f)then some 13 else some 0
def e69:=(e68 n).a 40 ⟨[cN,eB,Z3],[],[Z0],λ x y=>x6 n x.1 x.2.1 x.2.2,false⟩
theorem h69:Eo (e69 n):=dw ad (h68 n) func40
def K7:o4 (Int×Int×cn×aZ×Z4×Z4×aZ×Unit) (Int×cn×aZ×Z4×Z4×aZ×Unit) aZ:=λ(i,a,p,b,s,c,out,_) again (k0,_)=>bif decide (a< (kX p:Int))then(x6 n (p,b) (s,c) (i,a)).bind λ x=>bif x==0 then(jk (kX out+kX ([(i,a)]:List dy))).bind λ u=>again (i,(qK .i64 (a+1)),p,b,s,c,(out++ ([(i,a)]:List dy)),())else again (i,(qK .i64 (a+1)),p,b,s,c,out,())else k0 (i,p,b,s,c,out,())
def abr:o4 (Int×cn×aZ×Z4×Z4×aZ×Unit) (aZ×Unit) aZ:=λ(i,p,c,s,f,out,_) again (k0,_)=>bif decide (i< (kX p:Int))then cq (K7 n) n (i,0,p,c,s,f,out,()) (λ(a,d,e,g,h,b,_)=>again ((qK .i64 (a+1)),d,e,g,h,b,()),())else k0 (out,())
def s39(p:cn×aZ)(s:Z4×Z4):=cq (abr n) n (0,p.1,p.2,s.1,s.2,([]:List dy),()) (λ(a,_)=>some a,())
def e70:=(e69 n).a 39 ⟨[cN,eB],[],[fh],λ x y=>s39 n x.1 x.2,false⟩
theorem h70:Eo (e70 n):=gD ad (h69 n) func39 (O:= [_]) ⟨B8 n (h69 n) (eN 36 [Xb 2 36,Xb 3 37,(5,.v (.iR 38)),aT 6 Z0] [X0 36,X1 37,(38,.jH Z3)]) [fq 0 36 [(5,.v (.iR 36))] [(36,.jH Z3)]] (abr n) (O:= [_]) ⟨gh n (h69 n) (eN 36 [Xb 2 36,Xb 3 37,(5,.v (.iR 38)),aT 6 Z0,aT 7 Z0] [X0 36,X1 37,(38,.jH Z3)]) [fq 2 36 [Xb 2 36,Xb 3 37,(5,.v (.iR 38)),aT 6 Z0] [X0 36,X1 37,(38,.jH Z3)]] (K7 n),trivial⟩,trivial⟩
def K9(p:cn×aZ)(s:Z4×Z4)(m:Int×Int):Option bZ:=(th n s).bind λ x=>(aG s.1 m.1).bind λ e=>(aG p.1 m.2).bind λ c=>(aG s.1 m.2).bind λ d=>(aG s.1 m.1).bind λ f=>(aG s.1 m.2).bind λ g=>(aG x.1 m.1).bind λ o=>(tD x.1 m.1 (qK .i64 (f- (bu e (qK .i64 (c.2- d)))))).bind λ l=>(aG l m.2).bind λ q=>(tD l m.2 (qK .i64 (g+ (bu e (qK .i64 (c.2- d)))))).bind λ a=>(aG s.2 m.1).bind λ h=>(aG x.2 m.2).bind λ r=>(tD x.2 m.2 h).bind λ b=>(aG a m.1).bind λ t=>(aG a m.1).bind λ j=>bif j==0 then(aG b m.1).bind λ k=>(tD b m.1 0).bind λ i=>some (a,i)else some (a,b)
def e71:=(e70 n).a 42 ⟨[cN,eB,Z3],[],[eB],λ x y=>K9 n x.1 x.2.1 x.2.2,false⟩
theorem h71:Eo (e71 n):=dw ad (h70 n) func42
def s48(l:List dy):=(bI (!(decide ((kX l:Int)<=30))) (qg n (kX l:Int) 501 502) false).bind λ x=>some ((decide ((kX l:Int)<=30))||x)
def e72:=(e71 n).a 48 ⟨[fh],[],[.aO],λ x y=>s48 n x,false⟩
theorem h72:Eo (e72 n):=dw ad (h71 n) func48
def s50(n:Nat)(l:List dy):Option aZ:=(jk (kX ([]:List dy)+kX l)).bind λ u=>some (([]:List dy)++l)
def e73:=(e72 n).a 50 ⟨[fh],[],[fh],λ x y=>s50 n x,false⟩
theorem h73:Eo (e73 n):=dw ad (h72 n) func50
def ade:b7 (aZ×Int×Int×cn×aZ×u6 (u6 Unit)) (u6 (u6 Unit)) (u6 (Int×Int×Unit)) Jz:=λ(c,d,a,p,b,t,u,y,z,A,B,C,D,E,F,v,w,f,g,j,k,l,m,o,q,r,s,h,i,_) again (k0,k1,_)=>bif decide (a<d)then(aG c a).bind λ e=>(En n (p,b) ((t,u,y,z,A,B),C,D,E,F,v,w) e).bind λ x=>bif x.2 !=0 then k1 (a,x.2,0,0,0,0,0,0,0,0,0,0,0,0,())else again (c,d,(qK .i64 (a+1)),p,b,x.1.1.1,x.1.1.2.1,x.1.1.2.2.1,x.1.1.2.2.2.1,x.1.1.2.2.2.2.1,x.1.1.2.2.2.2.2,x.1.2.1,x.1.2.2.1,x.1.2.2.2.1,x.1.2.2.2.2.1,x.1.2.2.2.2.2.1,x.1.2.2.2.2.2.2,f,g,j,k,l,m,o,q,r,s,h,i,())else k0 (t,u,y,z,A,B,C,D,E,F,v,w,f,g,j,k,l,m,o,q,r,s,h,i,())
def aje(p:cn×aZ)(a:Z1×J5 Int)(l:List dy):Option Jz:=bif decide ((kX l:Int)>500)then some (((0,0,0,0,0,0),0,0,0,0,0,0),0,8)else cq (ade n) n (l,(kX l:Int),0,p.1,p.2,a.1.1,a.1.2.1,a.1.2.2.1,a.1.2.2.2.1,a.1.2.2.2.2.1,a.1.2.2.2.2.2,a.2.1,a.2.2.1,a.2.2.2.1,a.2.2.2.2.1,a.2.2.2.2.2.1,a.2.2.2.2.2.2,0,0,0,0,0,0,0,0,0,0,0,0,()) (λ(s,t,u,v,w,x,y,z,A,B,C,D,E,F,G,H,I,J,K,L,M,N,O,P,_)=>some (((s,t,u,v,w,x),y,z,A,B,C,D),0,0),λ(q,r,b,c,d,e,f,g,h,i,j,k,m,o,_)=>some (((b,c,d,e,f,g),h,i,j,k,m,o),q,r),())
def e74:=(e73 n).a 111 ⟨[cN,dK,fh],[],[dK,Z0,Z0],λ x y=>aje n x.1 x.2.1 x.2.2,false⟩
theorem h74:Eo (e74 n):=gD ad (h73 n) func111 (O:= [_]) ⟨gh n (h73 n) (eN 39 [Xb 3 39,Xb 4 40,Xb 6 41,aT 17 fh,aT 18 Z0,aT 19 Z0] [X0 39,X2 40,X2 41]) [fq 0 39 [Xb 4 39,Xb 6 40] [X2 39,X2 40],fw 39 [Xb 6 39,aT 7 Z0,aT 8 Z0] [X2 39]] (ade n),trivial⟩
def ag1:b7 (aZ×Int×cn×aZ×Z4×Z4×Unit) (Z4×Z4×Unit) (Int×Int×Unit) LJ:=λ(l,i,p,a,s,b,_) again (k0,k1,_)=>bif decide (i< (kX l:Int))then(aG l i).bind λ e=>(x6 n (p,a) (s,b) e).bind λ x=>bif x !=0 then k1 (i,x,())else(aG l i).bind λ d=>(K9 n (p,a) (s,b) d).bind λ c=>again (l,(qK .i64 (i+1)),p,a,c.1,c.2,())else k0 (s,b,())
def s51(p:cn×aZ)(s:Z4×Z4)(l:List dy):Option LJ:=bif decide ((kX l:Int)>500)then some ((([]:List Int),([]:List Int)),0,8)else cq (ag1 n) n (l,0,p.1,p.2,s.1,s.2,()) (λ(a,b,_)=>(th n (a,b)).bind λ e=>some (e,0,0),λ(c,d,_)=>some ((([]:List Int),([]:List Int)),c,d),())
def e75:=(e74 n).a 51 ⟨[cN,eB,fh],[],[eB,Z0,Z0],λ x y=>s51 n x.1 x.2.1 x.2.2,false⟩
theorem h75:Eo (e75 n):=gD ad (h74 n) func51 (O:= [_]) ⟨gh n (h74 n) (eN 42 [aT 2 fh,Xb 3 42,Xb 4 43,Xb 6 44,aT 9 Z0] [X0 42,X1 43,(44,.cp eB [.j6,.j6])]) [fq 0 42 [Xb 4 42,Xb 6 43] [X1 42,(43,.cp eB [.j6,.j6])],fw 42 [Xb 6 42,aT 7 Z0,aT 8 Z0] [(42,.cp eB [.j6,.j6])]] (ag1 n),trivial⟩
def s31(p:cn×aZ)(s:Z4×Z4):=(xy n p).bind λ x=>bif x.2 !=0 then some x.2 else(sM n p s).bind λ a=>some a
def e76:=(e75 n).a 31 ⟨[cN,eB],[],[Z0],λ x y=>s31 n x.1 x.2,false⟩
theorem h76:Eo (e76 n):=dw ad (h75 n) func31
def afc(n:Nat):b7 (Z4×Z4×Int×Unit) (Z4×Z4×Unit) (Bool×Unit) Bool:=λ(a,b,i,_) again (k0,k1,_)=>bif (decide (i< (kX a:Int)))&& (decide (i< (kX b:Int)))then(aG a i).bind λ e=>(aG b i).bind λ c=>bif e !=c then(aG a i).bind λ d=>(aG b i).bind λ f=>k1 ((decide (d<f)),())else again (a,b,(qK .i64 (i+1)),())else k0 (a,b,())
def ae9(a b:List Int):=cq (afc n) n (a,b,0,()) (λ(c,d,_)=>some (decide ((kX c:Int)< (kX d:Int))),λ(e,_)=>some e,())
def e77:=(e76 n).a 180 ⟨[Z5,Z5],[],[.aO],λ x y=>ae9 n x.1 x.2,false⟩
theorem h77:Eo (e77 n):=gD ad (h76 n) func180 (O:= [_]) ⟨gh n (h76 n) (eN 41 [aT 0 Z5,aT 1 Z5,aT 5 Z0] []) [fq 0 41 [aT 0 Z5,aT 1 Z5] [],fw 41 [aT 4 .aO] []] (afc n),trivial⟩
def ac1(a b:Z4×Z4):=(zL n a.1 b.1).bind λ x=>bif x then(ae9 n a.2 b.2).bind λ c=>some c else(ae9 n a.1 b.1).bind λ d=>some d
def e78:=(e77 n).a 153 ⟨[eB,eB],[],[.aO],λ x y=>ac1 n x.1 x.2,false⟩
theorem h78:Eo (e78 n):=dw ad (h77 n) func153
def agP:o4 (gS×Int×Z4×Z4×gS×Unit) (gS×Int×Z4×Z4×gS×Unit) gS:=λ(l,a,s,b,out,_) again (k0,_)=>(bI (decide (a< (kX l:Int))) (aG l a) ([],[])).bind λ e=>(bI (decide (a< (kX l:Int))) (ac1 n e (s,b)) false).bind λ x=>bif (decide (a< (kX l:Int)))&&x then(aG l a).bind λ c=>(jk (kX out+kX ([c]:List bZ))).bind λ u=>again (l,(qK .i64 (a+1)),s,b,(out++ ([c]:List bZ)),())else k0 (l,a,s,b,out,())
def adV(l:List bZ)(s:Z4×Z4):=cq (agP n) n (l,0,s.1,s.2,([]:List bZ),()) (λ(d,f,b,c,a,_)=>(jk (kX a+kX ([(b,c)]:List bZ))).bind λ g=>(iB d f (kX d:Int)).bind λ e=>(jk (kX (a++ ([(b,c)]:List bZ))+kX e)).bind λ h=>some ((a++ ([(b,c)]:List bZ))++e),())
def e79:=(e78 n).a 131 ⟨[Yl,eB],[],[Yl],λ x y=>adV n x.1 x.2,false⟩
theorem h79:Eo (e79 n):=gD ad (h78 n) func131 (O:= [_]) ⟨gh n (h78 n) (eN 36 [aT 0 Yl,Xb 3 36,(5,.v (.iR 37)),aT 6 Z0] [X1 36,(37,.jH eB)]) [fq 0 36 [aT 0 Yl,Xb 3 36,(5,.v (.iR 37)),aT 6 Z0] [X1 36,(37,.jH eB)]] (agP n),trivial⟩
def akr:b7 (gS×Int×Z4×Z4×Unit) Unit (Bool×Unit) Bool:=λ(l,i,s,a,_) again (k0,k1,_)=>bif decide (i< (kX l:Int))then(aG l i).bind λ e=>(Mn n e (s,a)).bind λ x=>bif x then k1 (true,())else again (l,(qK .i64 (i+1)),s,a,())else k0 ()
def agO(l:List bZ)(s:Z4×Z4):=cq (akr n) n (l,0,s.1,s.2,()) (λ(_)=>some false,λ(a,_)=>some a,())
def e80:=(e79 n).a 121 ⟨[Yl,eB],[],[.aO],λ x y=>agO n x.1 x.2,false⟩
theorem h80:Eo (e80 n):=gD ad (h79 n) func121 (O:= [_]) ⟨gh n (h79 n) (eN 18 [aT 0 Yl,Xb 3 18,aT 5 Z0] [X1 18]) [fq 0 18 [] [],fw 18 [aT 4 .aO] []] (akr n),trivial⟩
def abG:b7 (gS×gS×Int×aZ×Int×cn×aZ×QG×gS×Unit) (gS×gS×Int×cn×aZ×QG×gS×Unit) (Bool×QG×Unit) Ah:=λ(next,last,i,l,b,p,a,out,all,_) again (k0,k1,_)=>bif decide (b< (kX l:Int))then(aG last i).bind λ e=>(aG l b).bind λ c=>(K9 n (p,a) e c).bind λ x=>(agO n all x).bind λ d=>bif !d then(jk (kX all+kX ([x]:List bZ))).bind λ u=>(adV n next x).bind λ f=>bif decide (((kX (all++ ([x]:List bZ)):Nat):Int)>4000)then k1 (false,([]:List gS),())else again (f,last,i,l,(qK .i64 (b+1)),p,a,out,(all++ ([x]:List bZ)),())else bif decide ((kX all:Int)>4000)then k1 (false,([]:List gS),())else again (next,last,i,l,(qK .i64 (b+1)),p,a,out,all,())else k0 (next,last,i,p,a,out,all,())
def abj:b7 (gS×gS×Int×cn×aZ×QG×gS×Unit) (gS×cn×aZ×QG×gS×Unit) (Bool×QG×Unit) Ah:=λ(next,last,i,p,a,out,all,_) again (k0,k1,_)=>bif decide (i< (kX last:Int))then(aG last i).bind λ e=>(s39 n (p,a) e).bind λ x=>cq (abG n) n (next,last,i,x,0,p,a,out,all,()) (λ(f,d,c,h,j,g,b,_)=>again (f,d,(qK .i64 (c+1)),h,j,g,b,()),λ(l,k,_)=>k1 (l,k,()),())else k0 (next,p,a,out,all,())
def abJ:o4 (cn×aZ×QG×gS×Unit) (Bool×QG×Unit) Ah:=λ(p,d,out,all,_) again (k0,_)=>(aG out (qK .i64 ((kX out:Int)- 1))).bind λ e=>(aG out (qK .i64 ((kX out:Int)- 1))).bind λ x=>cq (abj n) n (([]:List bZ),x,0,p,d,out,all,()) (λ(a,f,g,b,c,_)=>bif (kX a:Int)==0 then k0 (true,b,())else(jk (kX b+kX ([a]:List gS))).bind λ j=>again (f,g,(b++ ([a]:List gS)),c,()),λ(i,h,_)=>k0 (i,h,()),())
def K3(p:cn×aZ)(s:Z4×Z4):=(th n s).bind λ x=>(th n s).bind λ c=>cq (abJ n) n (p.1,p.2,([([x]:List bZ)]:List gS),([c]:List bZ),()) (λ(b,a,_)=>some (a,b),())
def e81:=(e80 n).a 78 ⟨[cN,eB],[],[fH,.aO],λ x y=>K3 n x.1 x.2,false⟩
theorem h81:Eo (e81 n):=gD ad (h80 n) func78 (O:= [_]) ⟨B8 n (h80 n) (eN 77 [Xb 2 77,(6,.v (.iR 78)),(7,.v (.iR 79))] [X0 77,(78,.jH Yl),(79,.jH eB)]) [fw 77 [(4,.v (.iR 77)),aT 5 .aO] [(77,.jH Yl)]] (abJ n) (O:= [_]) ⟨B8 n (h80 n) (eN 77 [Xb 2 77,(6,.v (.iR 78)),(7,.v (.iR 79)),aT 8 Yl,aT 9 Yl,aT 10 Z0] [X0 77,(78,.jH Yl),(79,.jH eB)]) [fq 2 77 [Xb 2 77,(6,.v (.iR 78)),(7,.v (.iR 79)),aT 8 Yl] [X0 77,(78,.jH Yl),(79,.jH eB)],fw 77 [(4,.v (.iR 77)),aT 5 .aO] [(77,.jH Yl)]] (abj n) (O:= [_]) ⟨gh n (h80 n) (eN 77 [Xb 2 77,(6,.v (.iR 78)),(7,.v (.iR 79)),aT 8 Yl,aT 9 Yl,aT 10 Z0,aT 11 fh,aT 12 Z0] [X0 77,(78,.jH Yl),(79,.jH eB)]) [fq 4 77 [Xb 2 77,(6,.v (.iR 78)),(7,.v (.iR 79)),aT 8 Yl,aT 9 Yl,aT 10 Z0] [X0 77,(78,.jH Yl),(79,.jH eB)],fw 77 [(4,.v (.iR 77)),aT 5 .aO] [(77,.jH Yl)]] (abG n),trivial⟩,trivial⟩,trivial⟩
def abY(n:Nat):o4 (Int×QG×Int×Bool×Int×Int×cn×aZ×Z4×Unit) (Int×QG×Int×Bool×Int×cn×aZ×Z4×Unit) qJ:=λ(c,l,b,found,i,a,p,d,out,_) again (k0,_)=>(aG l i).bind λ e=>bif decide (a< (kX e:Int))then(bI (!found) (aG l i) []).bind λ f=>(bI (!found) (aG f a) ([],[])).bind λ g=>(bI (!found) (aG g.1 c) 0).bind λ h=>again (c,l,b,(found|| (h==b)),i,(qK .i64 (a+1)),p,d,out,())else k0 (c,l,b,found,i,p,d,out,())
def aa1:o4 (Int×QG×Int×Bool×Int×cn×aZ×Z4×Unit) (Int×QG×Int×Bool×cn×aZ×Z4×Unit) qJ:=λ(c,l,b,found,i,p,a,out,_) again (k0,_)=>bif decide (i< (kX l:Int))then cq (abY n) n (c,l,b,found,i,0,p,a,out,()) (λ(m,f,k,d,e,h,j,g,_)=>again (m,f,k,d,(qK .i64 (e+1)),h,j,g,()),())else k0 (c,l,b,found,p,a,out,())
def adH:o4 (Int×QG×Int×cn×aZ×Z4×Unit) (Z4×Unit) qJ:=λ(h,l,g,p,k,out,_) again (k0,_)=>(aG p h).bind λ e=>bif decide (g<=e.2)then cq (aa1 n) n (h,l,g,false,0,p,k,out,()) (λ(i,c,a,j,d,f,b,_)=>bif j then(jk (kX b+kX ([a]:List Int))).bind λ u=>again (i,c,(qK .i64 (a+1)),d,f,(b++ ([a]:List Int)),())else again (i,c,(qK .i64 (a+1)),d,f,b,()),())else k0 (out,())
def s81(p:cn×aZ)(s:Z4×Z4)(b:Int):Option qJ:=(K3 n p s).bind λ x=>bif !x.2 then some (([]:List Int),false)else cq (adH n) n (b,x.1,0,p.1,p.2,([]:List Int),()) (λ(a,_)=>some (a,true),())
def e82:=(e81 n).a 81 ⟨[cN,eB,Z0],[],[Z5,.aO],λ x y=>s81 n x.1 x.2.1 x.2.2,false⟩
theorem h82:Eo (e82 n):=gD ad (h81 n) func81 (O:= [_]) ⟨B8 n (h81 n) (eN 70 [aT 2 Z0,Xb 3 70,aT 8 fH,(10,.v (.iR 71)),aT 11 Z0] [X0 70,(71,.jH Z0)]) [fq 0 70 [(10,.v (.iR 70))] [(70,.jH Z0)]] (adH n) (O:= [_]) ⟨B8 n (h81 n) (eN 70 [aT 2 Z0,Xb 3 70,aT 8 fH,(10,.v (.iR 71)),aT 11 Z0,aT 12 .aO,aT 13 Z0] [X0 70,(71,.jH Z0)]) [fq 2 70 [aT 2 Z0,Xb 3 70,aT 8 fH,(10,.v (.iR 71)),aT 11 Z0,aT 12 .aO] [X0 70,(71,.jH Z0)]] (aa1 n) (O:= [_]) ⟨gh n (h81 n) (eN 70 [aT 2 Z0,Xb 3 70,aT 8 fH,(10,.v (.iR 71)),aT 11 Z0,aT 12 .aO,aT 13 Z0,aT 14 Z0] [X0 70,(71,.jH Z0)]) [fq 4 70 [aT 2 Z0,Xb 3 70,aT 8 fH,(10,.v (.iR 71)),aT 11 Z0,aT 12 .aO,aT 13 Z0] [X0 70,(71,.jH Z0)]] (abY n),trivial⟩,trivial⟩,trivial⟩
def adp:b7 (QG×QG×Int×Int×Unit) (QG×QG×Int×Unit) (Bool×Unit) Bool:=λ(a,b,i,c,_) again (k0,k1,_)=>(aG a i).bind λ e=>bif decide (c< (kX e:Int))then(aG a i).bind λ d=>(aG d c).bind λ f=>(aG b i).bind λ g=>(aG g c).bind λ h=>(Mn n f h).bind λ x=>bif !x then k1 (false,())else again (a,b,i,(qK .i64 (c+1)),())else k0 (a,b,i,())
def afY:b7 (QG×QG×Int×Unit) Unit (Bool×Unit) Bool:=λ(a,b,i,_) again (k0,k1,_)=>bif decide (i< (kX a:Int))then(aG a i).bind λ e=>(aG b i).bind λ f=>bif (kX e:Int) !=(kX f:Int)then k1 (false,())else cq (adp n) n (a,b,i,0,()) (λ(c,d,g,_)=>again (c,d,(qK .i64 (g+1)),()),λ(h,_)=>k1 (h,()),())else k0 ()
def s79(a b:List gS):=bif (kX a:Int) !=(kX b:Int)then some false else cq (afY n) n (a,b,0,()) (λ(_)=>some true,λ(c,_)=>some c,())
def e83:=(e82 n).a 79 ⟨[fH,fH],[],[.aO],λ x y=>s79 n x.1 x.2,false⟩
theorem h83:Eo (e83 n):=gD ad (h82 n) func79 (O:= [_]) ⟨B8 n (h82 n) (eN 54 [aT 0 fH,aT 1 fH,aT 5 Z0] []) [fq 0 54 [] [],fw 54 [aT 4 .aO] []] (afY n) (O:= [_]) ⟨gh n (h82 n) (eN 54 [aT 0 fH,aT 1 fH,aT 5 Z0,aT 6 Z0] []) [fq 2 54 [aT 0 fH,aT 1 fH,aT 5 Z0] [],fw 54 [aT 4 .aO] []] (adp n),trivial⟩,trivial⟩
def ace:o4 (EM×Int×Int×kj×Int×Int×cn×aZ×QG×gS×Unit) (EM×Int×Int×cn×aZ×QG×gS×Unit) Fc:=λ(d,f,g,h,i,a,b,c,out,l,_) again (k0,_)=>bif decide (a<i)then(aG h a).bind λ e=>(IY n (b,c)).bind λ x=>(yw n e x).bind λ j=>(jk (kX l+kX ([j]:List bZ))).bind λ u=>again (d,f,g,h,i,(qK .i64 (a+1)),b,c,out,(l++ ([j]:List bZ)),())else k0 (d,f,g,b,c,out,l,())
def K8:o4 (EM×Int×Int×cn×aZ×QG×Unit) (QG×Unit) Fc:=λ(d,f,a,j,k,out,_) again (k0,_)=>bif decide (a<f)then(aG d a).bind λ e=>cq (ace n) n (d,f,a,e,(kX e:Int),0,j,k,out,([]:List bZ),()) (λ(g,h,i,l,m,c,b,_)=>(jk (kX c+kX ([b]:List gS))).bind λ o=>again (g,h,(qK .i64 (i+1)),l,m,(c++ ([b]:List gS)),()),())else k0 (out,())
def K4(p:cn×aZ)(s:Z4×Z4):Option Fc:=(Ij n p s).bind λ x=>bif x.2.2 !=0 then some (([]:List gS),x.2.2)else(Qs n x.1 x.2.1).bind λ a=>bif !a.2 then some (([]:List gS),8)else a.1.bind λ b=>cq (K8 n) n (b.2,(kX b.2:Int),0,x.1.1,x.1.2,([]:List gS),()) (λ(c,_)=>some (c,0),())
def e84:=(e83 n).a 69 ⟨[cN,eB],[],[fH,Z0],λ x y=>K4 n x.1 x.2,false⟩
theorem h84:Eo (e84 n):=gD ad (h83 n) func69 (O:= [_]) ⟨B8 n (h83 n) (eN 64 [Xb 6 64,(11,.v (.iR 65)),aT 38 qL,aT 39 Z0,aT 40 Z0] [X0 64,(65,.jH Yl)]) [fq 0 64 [(11,.v (.iR 64))] [(64,.jH Yl)]] (K8 n) (O:= [_]) ⟨gh n (h83 n) (eN 64 [Xb 6 64,(11,.v (.iR 65)),(14,.v (.iR 66)),aT 38 qL,aT 39 Z0,aT 40 Z0,aT 44 EC,aT 45 Z0,aT 46 Z0] [X0 64,(65,.jH Yl),(66,.jH eB)]) [fq 2 64 [Xb 6 64,(11,.v (.iR 65)),(14,.v (.iR 66)),aT 38 qL,aT 39 Z0,aT 40 Z0] [X0 64,(65,.jH Yl),(66,.jH eB)]] (ace n),trivial⟩,trivial⟩
def e85:=(e84 n).e 129 (alM n)
theorem h85:Eo (e85 n):=alU (h84 n) (anU n)
def e86:=(e85 n).e 130 (alT n)
theorem h86:Eo (e86 n):=alU (h85 n) (aot n)
def aao(n:Nat):o4 (Int×Z4×um×Unit) (Z4×Unit) Z66:=λ(a,out,it,_) again (k0,_)=>aag it (λ z b=>(cQ a 6).bind λ u=>(aG [z.1.1.1,z.1.1.2.1,z.1.1.2.2.1,z.1.1.2.2.2.1,z.1.1.2.2.2.2.1,z.1.1.2.2.2.2.2] a).bind λ x=>(jk (kX out+kX ([x]:List Int))).bind λ c=>again (a,(out++ ([x]:List Int)),b,())) (k0 (out,()))
def s77(p:cn×aZ)(s:Z4×Z4)(a:Int):Option Z66:=(Ij n p s).bind λ x=>(H2 n a 0 (qK .i64 ((kX p.1:Int)- 1))).bind λ f=>(vk n f 6).bind λ g=>(C5 n ([x.2.2,g]:List Int)).bind λ b=>bif b !=0 then some (([]:List Int),b)else(Qs n x.1 x.2.1).bind λ c=>bif !c.2 then some (([]:List Int),8)else c.1.bind λ h=>cq (aao n) n (a,([]:List Int),h.1,()) (λ(e,_)=>(z7 n e).bind λ l=>(zZ n l).bind λ d=>some (d,0),())
def e87:=(e86 n).a 77 ⟨[cN,eB,Z0],[],[Z5,Z0],λ x y=>s77 n x.1 x.2.1 x.2.2,false⟩
theorem h87:Eo (e87 n):=gD ad (h86 n) func77 (O:= [_]) ⟨gh n (h86 n) (eN 63 [aT 2 Z0,(13,.v (.iR 63)),(47,.v (.iR 64))] [(63,.jH Z0),(64,.it dK uf)]) [fq 0 63 [(13,.v (.iR 63))] [(63,.jH Z0)]] (aao n),trivial⟩
def s14(p:cn×aZ)(s:Z4×Z4)(c:Int):=(FJ n).bind λ x=>bif !x then some false else(xB n p).bind λ f=>(bI (!(!f)) (wX n s) false).bind λ o=>bif (!f)|| (!o)then some true else(wL n p).bind λ q=>(th n s).bind λ r=>(K4 n q r).bind λ b=>(wL n p).bind λ t=>(th n s).bind λ u=>(s77 n t u c).bind λ a=>(s31 n p s).bind λ e=>bif e !=0 then some (((b.2==e)&& (a.2==e))&& ((qK .i64 ((kX b.1:Int)+ (kX a.1:Int)))==0))else(K3 n p s).bind λ d=>bif !d.2 then bif (b.2 !=8)|| ((kX b.1:Int) !=0)then some false else(zF n p c).bind λ g=>bif !g then some ((a.2==6)&& ((kX a.1:Int)==0))else bif !d.2 then some ((a.2==8)&& ((kX a.1:Int)==0))else(s81 n p s c).bind λ h=>(bI (a.2==0) (zL n a.1 h.1) false).bind λ i=>some ((a.2==0)&&i)else(bI (!(b.2 !=0)) (s79 n b.1 d.1) false).bind λ j=>bif (b.2 !=0)|| (!j)then some false else(zF n p c).bind λ k=>bif !k then some ((a.2==6)&& ((kX a.1:Int)==0))else bif !d.2 then some ((a.2==8)&& ((kX a.1:Int)==0))else(s81 n p s c).bind λ l=>(bI (a.2==0) (zL n a.1 l.1) false).bind λ m=>some ((a.2==0)&&m)
def ahM:fc:= ⟨[cN,eB,Z0],[],[.aO],λ x y=>s14 n x.1 x.2.1 x.2.2,false⟩
theorem amV(x)(y):oI (e87 n) f14 [cN,eB,Z0] [] [.aO] false [] x y=(ahM n).g x y:=by kernel_rfl
theorem alN:jf ad.Q 14 (ahM n):=xz (h87 n) ad.b (ad.a func14 (by kernel_rfl) (by decide)) (by kernel_rfl) (by kernel_rfl) (O:= []) trivial (amV n)
end
end
theorem acS(m):FJ (m+2000)=some true:=by kernel_rfl
section
local instance:Dr:= ⟨false⟩
abbrev wO:=List UInt8
abbrev Vs:=wO×Int
abbrev Pl:=List Vs×List (Int×Int)
abbrev St:=List Int×List Int
abbrev Tk:=St×St
def jh(l:List Int):=(l.find? λ e=>e !=0).getD 0
def ia(b:Bool)(e:Int):=bif b then 0 else e
def cy(x lo a:Int):=decide (lo<=x)&&decide (x<=a)
theorem tP(n)(b)(e):vk n b e=some (ia b e):=by cases b<;>rfl
theorem Ra(n)(x lo a):H2 n x lo a=some (cy x lo a):=rfl
theorem EO(n)(x lo a):qg n x lo a=some (cy x lo a):=rfl
theorem afC(n)(x):EJ n x=some (cy x 1 50):=rfl
theorem Pt(n)(x):Dy n x=some (cy x 0 3):=rfl
theorem jv{α}(b)(x d:α):bI b (some x) d=some (bif b then x else d):=by cases b<;>rfl
theorem OH{n}(l)(a:l.length<n)(b:l.length<=vj):C5 n l=some (jh l):=by refine iy (n:=n) l (λ i=>(l,((kX l):Int),(i:Int),())) (λ i r=>some (jh r)) b ?_ ?_ a;all_goals grind[h1,h2,h5,h6,Hv,jh]
theorem BO{n}(c:1000<=n)(a b):C5 n [a,b]=some (jh [a,b]):=OH _ (by simp;omega) (by simp[vj])
theorem QD{n}(d:1000<=n)(a b c):C5 n [a,b,c]=some (jh [a,b,c]):=OH _ (by simp;omega) (by simp[vj])
def AJ(b:Bool)(c:Int):=(!(((decide (c>=97))&& (decide (c<=122)))|| ((decide (c>=65))&& (decide (c<=90)))))&& (b|| ((c !=45)&& ((decide (c<48))|| (decide (c>57)))))
def xo:Bool->wO->Bool|_,[]=>true|b,c::r=>!AJ b ((vi c:Nat):Int)&&xo false r
def rQ(s:wO):=(decide (1<=s.length)&&decide (s.length<=12))&&xo true s
theorem FK(i:Nat):((i:Int)==(0:Int))=decide (i=0):=by grind
theorem VF{n}(d:1000<=n)(s:wO):EH n s=some (rQ s):=by
 unfold EH rQ;by_cases a:1<=s.length
 ·by_cases b:s.length<=12
  ·rw[(decide_eq_false (by omega)),(decide_eq_false (by omega)),decide_eq_true a,decide_eq_true b];simp[Dd,cond_false,ag];have:=iy (n:=n) (body:=yx n) (ks:=(λ(_)=>some (true),λ(c,_)=>some (c),())) s (λ i=>(s,(i:Int),())) (λ i r=>some (xo (decide (i=0)) r)) (by unfold vj;omega) ?_ ?_ (by omega);all_goals grind[AJ,decide,vi,FK,yx,xo]
  grind
 grind
theorem acJ{n}(s:wO)(f:s.length<n)(d:s.length<=vj):B9 n s=some (rQ s):=by
 unfold B9 rQ;have t:kv s=s.map λ c=>((vi c:Nat):Int):=rfl;have u:(kv s).length=s.length:=by grind
 have:=iy (n:=n) (body:=yM n) (ks:=(λ(b,_)=>some ((((b:List UInt8) != [])&& (decide (((kX b:Nat):Int)<=(12:Int))))),λ(g,_)=>some (g),())) s (λ i=>(s,kv s,((kX (kv s):Nat):Int),(i:Int),())) (λ i r=>some (xo (decide (i=0)) r&& (((s:List UInt8) != [])&& (decide (((kX s:Nat):Int)<=(12:Int)))))) d ?_ ?_ f;grind[decide];intro i x r h j k l o q again v;have m:aG (kv s) (i:Int)=some ((vi x:Nat):Int):=by grind[oR]
 have p:decide ((i:Int)< ((kX (kv s):Nat):Int))=true:=by grind
 have e:AJ (decide (i=0)) ((vi x:Nat):Int)=((!(((decide (((vi x:Nat):Int)>=(97:Int)))&& (decide (((vi x:Nat):Int)<=(122:Int))))|| ((decide (((vi x:Nat):Int)>=(65:Int)))&& (decide (((vi x:Nat):Int)<=(90:Int))))))&& (((i:Int)==(0:Int))|| ((((vi x:Nat):Int) !=(45:Int))&& ((decide (((vi x:Nat):Int)< (48:Int)))|| (decide (((vi x:Nat):Int)>(57:Int))))))):=by rw[FK];rfl
 grind[yM,xo,AJ,decide,vi];intro a again;have a':decide ((s.length:Int)< ((kX (kv s):Nat):Int))=false:=by grind
 simp only[yM,a',cond_false];rfl
theorem ahd{n}(l:List Vs)(name:wO)(a:l.length<n)(b:l.length<=vj):∃q,vV n l name=some q/\decide (q<0)=!(l.any λ x=>x.1==name):=by
 have:=iy (n:=n) (body:=xO n) (ks:=(λ(_)=>some ((-1:Int)),λ(c,_)=>some (c),())) l (λ i=>(l,(λ d=>some (d.1==name)),((kX l:Nat):Int),(i:Int),())) (λ i r=>some (match r.findIdx? λ x=>x.1==name with|some k=>((i+k:Nat):Int)|none=> -1)) b ?_ ?_ a;refine⟨match l.findIdx? λ x=>x.1==name with|some k=>((0+k:Nat))|none=> -1,?_,?_⟩;simp_all[vV,IH,Jr];grind;all_goals grind[h1,h2,h5,h6,xO]
theorem V1{n}(l:List (Int×Int))(v)(a:l.length<n)(b:l.length<=vj):∃q,yf n l v=some q/\(decide (q>=0))=decide (v∈l):=by
 unfold yf;have:=iy (n:=n) (body:=yp n) (ks:=(λ(_)=>some ((-1:Int)),λ(c,_)=>some (c),())) l (λ i=>(l,((kX l:Nat):Int),(i:Int),v.1,v.2,())) (λ i r=>some (match r.findIdx? λ e=>e==v with|some k=>((i+k:Nat):Int)|none=> -1)) b ?_ ?_ a;all_goals grind[h1,h2,h5,h6,yp]
theorem afi{n}(l:List (Int×Int))(v)(a:l.length<n)(b:l.length<=vj):BY n l v=some (decide (v∈l)):=by have⟨q,c,d⟩:=V1 l v a b;grind[BY]
def wi(pre:List Vs)(v:Vs):=jh [ia (rQ v.1) 4,ia (!(pre.any λ x=>x.1==v.1)) 5,ia (cy v.2 1 50) 2]
def ix:Nat->List Vs->List Vs->Int×Int|_,_,[]=>(0,0)|i,pre,v::r=>bif wi pre v==0 then ix (i+1) (pre++ [v]) r else((i:Int),wi pre v)
def sx(m:Int)(pre:List (Int×Int))(h:Int×Int):=jh [ia (cy h.1 0 (m- 1)&&cy h.2 0 (m- 1)) 6,ia (h.1 !=h.2) 11,ia (!(decide (h∈pre))) 26]
def iq(m:Int):Nat->List (Int×Int)->List (Int×Int)->Int×Int|_,_,[]=>(0,0)|i,pre,h::r=>bif sx m pre h==0 then iq m (i+1) (pre++ [h]) r else((i:Int),sx m pre h)
def mQ(p:Pl):=bif decide (p.1.length=0)then(0,10)else bif decide (6<p.1.length)then(0,8)else bif (ix 0 [] p.1).2==0 then(bif decide (30<p.2.length)then(0,8)else iq p.1.length 0 [] p.2)else ix 0 [] p.1
structure jg(p:Pl):Prop where
 v:p.1.length<=8
 h:p.2.length<=32
 n:∀v∈p.1,v.1.length<=20
theorem Tg(a b c):jh [a,b,c]=bif a !=0 then a else bif b !=0 then b else c:=by grind[jh]
theorem Jo(a b):jh [a,b]=bif a !=0 then a else b:=by grind[jh]
theorem Hh(m):(l:List (Int×Int))->(i:Nat)->(pre:List (Int×Int))->((iq m i pre l).2==0)=true->iq m i pre l=(0,0)
 | [],_,_,_=>rfl|v::r,i,pre,h=>by simp only[iq]at h⊢;cases a:(sx m pre v==0);grind;rw[a]at h;exact Hh m r _ _ h
theorem BD{α:Type}{l:List α}{i x}(h:l[i]?=some x):l.take (i+1)=l.take i++ [x]:=by grind[List.take_add_one]
theorem SF{α:Type}{l:List α}(h:l.length<=1000):qK .i64 (((kX l:Nat):Int)- 1)=(l.length:Int)- 1:=by rw[nu]<;>omega
theorem i2(a b:Int):aG [a,b] 0=some a/\aG [a,b] 1=some b:= ⟨rfl,rfl⟩
theorem r2:cQ (0:Int) 2=some ()/\cQ (1:Int) 2=some ():= ⟨rfl,rfl⟩
theorem aiO{n}(e:1000<=n){p}(hp:jg p)(k0:List Vs×List (Int×Int)×Unit->Option (Int×Int))(k1:Int×Int×Unit->Option (Int×Int)):cq (Au n) n (p.1,((kX p.1:Nat):Int),(0:Int),p.1,p.2,()) (k0,k1,())=bif (ix 0 [] p.1).2==0 then k0 (p.1,p.2,())else k1 ((ix 0 [] p.1).1,(ix 0 [] p.1).2,()):=by have k:=hp.v;refine iy _ (λ i=>(p.1,((kX _):Int),(i:Int),p.1,p.2,())) (λ i r=>bif (ix i (p.1.take i) r).2==0 then k0 _ else k1 ((ix i (p.1.take i) r).1,(ix i (p.1.take i) r).2,())) (by unfold vj;omega) ?_ ?_ (by omega);intro i x r h a j b c d again m;have l:=hp.n x (u0 a);have⟨q,f,g⟩:=ahd (n:=n) (p.1.take i) x.1 (by grind) (by simp[vj];omega);simp[Au,c,cond_true,b,rZ,d,xV p.1 i (by omega),acJ (n:=n) x.1 (by omega) (by unfold vj;omega),tP,f,g,afC,QD e];grind[wi,ix];grind[Au,ix]
theorem ab7{n}(e:1000<=n){p}(hp:jg p)(k0:Unit->Option (Int×Int))(k1:Int×Int×Unit->Option (Int×Int)):cq (Ag n) n (p,(λ f=>vO n f p),p.2,((kX p.2:Nat):Int),(0:Int),()) (k0,k1,())=bif (iq p.1.length 0 [] p.2).2==0 then k0 ()else k1 ((iq p.1.length 0 [] p.2).1,(iq p.1.length 0 [] p.2).2,()):=by
 have k:=hp.h;have l:=hp.v;have a:∀z,vO n z p=some (cy z 0 ((p.1.length:Int)- 1)):=λ z=>by show(H2 n z 0 (qK _ (((kX p.1))- 1))).bind _=_;rw[SF (by omega)];rfl
 rw[(funext a)];refine iy _ (λ i=>(p,(λ z=>some (cy z 0 _)),p.2,((kX _):Int),(i:Int),())) (λ i r=>bif (iq _ i (p.2.take i) r).2==0 then k0 _ else k1 ((iq _ i (p.2.take i) r).1,(iq _ i (p.2.take i) r).2,())) (by unfold vj;omega) ?_ ?_ (by omega);intro i x r g h j b c d again m;simp[Ag,c,cond_true,b,rZ,d,r2.1,r2.2,(i2 x.1 x.2).1,(i2 x.1 x.2).2,jv,tP,xV p.2 i (by omega),afi (n:=n) (p.2.take i) x (by grind) (by simp[vj];omega),QD e];grind[sx,iq];grind[Ag,iq]
theorem gt0(m:Nat):decide ((m:Int)>(0:Int))=!decide (m=0):=by grind
theorem YO(m k:Nat):decide ((m:Int)<=(k:Int))=!decide (k<m):=by grind
theorem Ig(m k:Nat):decide ((m:Int)>(k:Int))=decide (k<m):=by simp
theorem Ym{n}(a:1000<=n){p}(hp:jg p):xg n p=some (mQ p):=by unfold xg mQ;rw[tP,rZ,tP,rZ,BO a,rZ,gt0,show decide (p.1.length<=(6:Int))=!decide _ from YO _ 6];cases h0:decide (p.1.length=0)with|true=>rfl|false=>cases b:decide (6<p.1.length)with|true=>rfl|false=>simp[x3,ia,cond_true,cond_false];grind[jh,bne_self_eq_false,aiO,ix,decide,kX,Ig,FF,ab7,iq,Hh]
theorem Km{D a R body}{ks:a}{α n}(l)(i)(c:i<=l.length)(f:α->Bool)(F:Nat->D)(yes no:Option R)(d:i<=vj)(g:i<n) (h:∀k x,k<i->l[k]?=some x->decide ((k:Int)< (i:Int))=true->qK .i64 ((k:Int)+1)=((k+1:Nat):Int)->aG l (k:Int)=some x->∀again,body (F k) again ks=bif f x then yes else again (F (k+1))) (b:decide ((i:Int)< (i:Int))=false->∀again,body (F i) again ks=no):cq body n (F 0) ks=bif (l.take i).any f then yes else no:=by
 have e:(l.take i).length=i:=by grind
 have:=iy (n:=n) (body:=body) (ks:=ks) (l.take i) F (λ _ r=>bif r.any f then yes else no) (by omega) ?_ ?_ (by omega);all_goals grind[h1,h2,h5,h6,oR]
theorem air{n}(e:1000<=n){p}(hp:jg p)(k0:List Vs×List (Int×Int)×Unit->Option (Int×Int))(k1:Int×Int×Unit->Option (Int×Int)):cq (yU n) n ((0:Int),p.1,p.2,()) (k0,k1,())=bif (ix 0 [] p.1).2==0 then k0 (p.1,p.2,())else k1 ((ix 0 [] p.1).1,(ix 0 [] p.1).2,()):=by
 have u:=hp.v;refine iy _ (λ i=>((i:Int),p.1,p.2,())) (λ i r=>bif (ix i (p.1.take i) r).2==0 then k0 _ else k1 ((ix i (p.1.take i) r).1,(ix i (p.1.take i) r).2,())) (by unfold vj;omega) ?_ ?_ (by omega);intro i x r m o q c d s again v;simp only[yU,d,cond_true,c,rZ,VF e];simp[ix];have a:wi (p.1.take i) x=bif !rQ x.1 then 4 else bif (p.1.take i).any λ y=>y.1==x.1 then 5 else bif !cy x.2 1 50 then 2 else 0:=by unfold wi;cases rQ x.1<;>cases(p.1.take i).any (λ y=>y.1==x.1)<;>cases cy x.2 1 50<;>rfl
 rw[a];cases t:rQ _ with
 |false=>rfl|true=>simp[vE,cond_false];refine(Km (n:=n) (body:=Ak n) p.1 i (by omega) (λ y=>y.1==x.1) (λ k=>(i,k,p.1,p.2,())) (k1 (i,5,())) (bif !cy x.2 1 50 then k1 (i,2,())else again (((i+1:Nat)),p.1,p.2,())) (by unfold vj;omega) (by omega) (λ k y f g h j l again=>by grind[Ak]) (λ b again=>by grind[Ak,EO])).trans ?_;grind
 grind[yU,ix]
theorem adi{n}(B:1000<=n){p}(hp:jg p)(k0:Unit->Option (Int×Int))(k1:Int×Int×Unit->Option (Int×Int)):cq (zm n) n ((0:Int),p.1,p.2,()) (k0,k1,())=bif (iq p.1.length 0 [] p.2).2==0 then k0 ()else k1 ((iq p.1.length 0 [] p.2).1,(iq p.1.length 0 [] p.2).2,()):=by
 have w:=hp.h;have C:=hp.v;refine iy _ (λ i=>((i:Int),p.1,p.2,())) (λ i r=>bif (iq _ i (p.2.take i) r).2==0 then k0 _ else k1 ((iq _ i (p.2.take i) r).1,(iq _ i (p.2.take i) r).2,())) (by unfold vj;omega) ?_ ?_ (by omega);intro i x r q s t e f u again D;have c:∀z,zF n p z=some (cy z 0 ((p.1.length:Int)- 1)):=λ z=>by show(qg n z 0 (qK _ (((kX p.1))- 1))).bind _=_;rw[SF (by omega)];rfl
 simp only[zm,f,cond_true,e,rZ,r2.1,r2.2,(i2 x.1 x.2).1,(i2 x.1 x.2).2,c,jv];simp only[iq];have g:((p.2.take i).any λ y=>y.1==x.1&&y.2==x.2)=decide (x∈p.2.take i):=by grind
 have d:sx p.1.length (p.2.take i) x=bif !(cy x.1 0 ((p.1.length:Int)- 1))||!(cy x.2 0 ((p.1.length:Int)- 1))then 6 else bif x.1==x.2 then 11 else bif (p.2.take i).any λ y=>y.1==x.1&&y.2==x.2 then 26 else 0:=by unfold sx;rw[Tg,g];simp[bne];cases cy x.1 0 ((p.1.length:Int)- 1)<;>cases cy x.2 0 ((p.1.length:Int)- 1)<;>cases(x.1==x.2)<;>cases decide (x∈p.2.take i)<;>rfl
 rw[d];have a:((!(cy x.1 0 ((p.1.length:Int)- 1)))||!(bif !(!(cy x.1 0 ((p.1.length:Int)- 1)))then cy (bif !(!(cy x.1 0 ((p.1.length:Int)- 1)))then x.2 else 0) 0 ((p.1.length:Int)- 1)else false))=(!(cy x.1 0 ((p.1.length:Int)- 1))||!(cy x.2 0 ((p.1.length:Int)- 1))):=by grind
 rw[a];cases A:(!(cy _ 0 _)||!(cy _ 0 _))with
 |true=>rfl|false=>simp[cond_false];cases v:(x.1==x.2)with|true=>rfl|false=>
   simp[cond_false];refine(Km (n:=n) (body:=yj n) p.2 i (by omega) (λ y=>y.1==x.1&&y.2==x.2) (λ k=>(i,k,p.1,p.2,x.1,x.2,())) (k1 (i,26,())) (again (((i+1:Nat)),p.1,p.2,())) (by unfold vj;omega) (by omega)
    (λ k y h j l m o again=>by grind[yj]) (λ b again=>by grind[yj])).trans ?_
   grind
 grind[zm,iq]
theorem v46{n}(a:1000<=n){p}(hp:jg p):xy n p=some (mQ p):=by unfold xy mQ;grind[FK,decide,kX,Ig,h0,h6,air,ix,FF,adi,iq,Hh]
theorem v87{n}(a:1000<=n){p}(hp:jg p):tx n p=some (p,(mQ p).2):=by grind[tx,Ym]
theorem yG(a b:Nat):((a:Int) !=(b:Int))=!decide (a=b):=by grind
theorem LY(a b:Nat):((a:Int)==(b:Int))=decide (a=b):=by grind
theorem kG{α}{s:List α}{i}(h:i<s.length):∃c,aG s (i:Int)=some c/\s.drop i=c::s.drop (i+1)/\s[i]?=some c:= ⟨s[i],by rw[oR,vL h],by simp_all,by grind⟩
def qV(z c w:Int):=jh [ia (cy c 0 z&&cy w 0 3) 2,ia ((c==0)==(w==0)) 13]
def xr:List Vs->List Int->List Int->Int|v::vs,c::cs,w::ws=>bif qV v.2 c w==0 then xr vs cs ws else qV v.2 c w|_,_,_=>0
def j5(p:Pl)(s:St):=bif decide (s.1.length=p.1.length)&&decide (s.2.length=p.1.length)then xr p.1 s.1 s.2 else 10
theorem Sr(v)(vs)(c w)(cs a):xr (v::vs) (c::cs) (w::a)=bif qV v.2 c w==0 then xr vs cs a else qV v.2 c w:=rfl
theorem SZ{n}(j:1000<=n){p}(hp:jg p)(s:St):px n p s=some (j5 p s):=by have u:=hp.v;unfold px j5;rw[show IY n _=some ((kX p.1):Int)from rfl];simp[rZ,jv,yG];cases f:decide (s.1.length=p.1.length)with|false=>rfl|true=>simp[vE,x3,cond_true,Ls,ag,yG];cases g:decide (s.2.length=p.1.length)with|false=>rfl|true=>simp[vE,cond_false,cond_true];have q:=of_decide_eq_true f;have t:=of_decide_eq_true g;refine iy _ (λ i=>(p.1,((kX p.1):Int),(i:Int),s.1,s.2,())) (λ i r=>some (xr r (s.1.drop i) (s.2.drop i))) (by unfold vj;omega) ?_ ?_ (by omega);intro i x r l m o a b d again k;have⟨c,e,c2,_⟩:=kG (s:=s.1) (i:=i) (by omega);have⟨w,w1,w2,_⟩:=kG (s:=s.2) (i:=i) (by omega);simp[Co,b,cond_true,a,e,w1,rZ,d,Ra,Pt,jv,tP,BO j,k,c2,w2,Sr];grind[qV];intro h again;simp[Co,h,cond_false];rfl
theorem Mc{n}(u:1000<=n){p}(hp:jg p)(s:St):sM n p s=some (j5 p s):=by have v:=hp.v;unfold sM j5;simp[yG];cases f:decide (s.1.length=p.1.length)with|false=>rfl|true=>cases g:decide (s.2.length=p.1.length)with|false=>rfl|true=>
   simp[vE,Dd,cond_false,Lk,cond_true];have o:=of_decide_eq_true f;have q:=of_decide_eq_true g;refine iy _ (λ i=>((i:Int),p.1,p.2,s.1,s.2,())) (λ i r=>some (xr r (s.1.drop i) (s.2.drop i))) (by unfold vj;omega) ?_ ?_ (by omega);intro i x r k l m a b d again j;have⟨c,e,c2,_⟩:=kG (s:=s.1) (i:=i) (by omega);have⟨w,w1,w2,_⟩:=kG (s:=s.2) (i:=i) (by omega);simp[DI,b,cond_true,a,e,w1,rZ,d,EO,jv,j,c2,w2,Sr];have t:qV x.2 c w=bif !(cy c 0 x.2)||!(cy w 0 3)then 2 else bif !((w==0)==(c==0))then 13 else 0:=by unfold qV;cases cy c 0 x.2<;>cases cy w 0 3<;>cases(c==0)<;>cases(w==0)<;>rfl
   grind;intro h again;simp[DI,h,cond_false];rfl
def a8(p:Pl)(s:St):=bif (mQ p).2==0 then j5 p s else(mQ p).2
abbrev I6:=Int×Int×Int×Int×Int×Int
def i6(l:List Int):I6:=(l[0]?.getD 0,l[1]?.getD 0,l[2]?.getD 0,l[3]?.getD 0,l[4]?.getD 0,l[5]?.getD 0)
def l6(x:I6):= [x.1,x.2.1,x.2.2.1,x.2.2.2.1,x.2.2.2.2.1,x.2.2.2.2.2]
def nd(s:St):=(i6 s.1,i6 s.2)
theorem g6(l){i:Nat}(a:i<6):aG (l6 (i6 l)) (i:Int)=some (l[i]?.getD 0):=by
 rw[oR];have:i=0\/i=1\/i=2\/i=3\/i=4\/i=5:=by omega
 rcases this with rfl|rfl|rfl|rfl|rfl|rfl<;>rfl
theorem r6{i:Nat}(a:i<6):cQ (i:Int) 6=some ():=by grind[cQ]
def xl:List Int->List Int->List Int->List Int->Bool|a::tcs,tw::tws,c::cs,w::ws=>((a== -1)|| (a==c))&& ((tw==0)|| (tw==w))&&xl tcs tws cs ws|_,_,_,_=>true
def xN(t:Tk)(s:St):=xl t.2.1 t.2.2 s.1 s.2
structure uv(p:Pl)(s:St):Prop where
 c:s.1.length=p.1.length
 w:s.2.length=p.1.length
theorem F1{p s}(h:j5 p s=0):uv p s:=by unfold j5 at h;cases a:decide (s.1.length=p.1.length)with|false=>grind|true=>cases b:decide (s.2.length=p.1.length)with|false=>grind|true=>exact⟨by grind,by grind⟩
theorem bh{p s}(h:a8 p s=0):(mQ p).2=0/\j5 p s=0:=by grind[a8]
theorem aaK{p}(h:(mQ p).2=0):1<=p.1.length/\p.1.length<=6/\p.2.length<=30:=by grind[mQ]
theorem v22(n){p}(hp:jg p):wL n p=some p:=by unfold wL;have:=hp.v;have:=hp.h;grind[zG]
theorem Df(n)(l)(h:l.length<=1000):uV n l=some l:=by grind[uV,zG]
theorem MK(n)(s:St)(h1:s.1.length<=1000)(h2:s.2.length<=1000):th n s=some s:=by grind[th,Df]
theorem v18{n}(j:1000<=n)(p:Pl):∃b,xB n p=some b/\(b=true->jg p):=by unfold xB;generalize f:(((((decide (((kX p.1:Nat):Int)>(4:Int)))&& (decide (((kX p.1:Nat):Int)<=(6:Int))))|| (decide (((kX p.1:Nat):Int)>(8:Int))))|| ((decide (((kX p.2:Nat):Int)>(14:Int)))&& (decide (((kX p.2:Nat):Int)<=(30:Int)))))|| (decide (((kX p.2:Nat):Int)>(32:Int))))=a;cases a with|true=>simp|false=>
  simp only[cond_false];have d:p.1.length<=8:=by grind
  have c:p.2.length<=32:=by grind
  have:=iy (n:=n) (body:=yJ n) (ks:=(λ(_)=>some (true),λ(e,_)=>some (e),())) p.1 (λ i=>((i:Int),p.1,p.2,())) (λ i r=>some (r.all λ v=>decide (v.1.length<=20)&&!(cy v.2 11 50))) (by unfold vj;omega) ?_ ?_ (by omega);refine⟨_,this,λ h=> ⟨d,c,λ v g=>?_⟩⟩;grind;all_goals grind[yJ,EO,jv]
theorem v20(n)(s:St):∃b,wX n s=some b/\(b=true->s.1.length<=10/\s.2.length<=10):=by refine⟨_,rfl,λ h=>?_⟩;grind
def z6:I6:=(0,0,0,0,0,0)
theorem v95{n}(a:1000<=n){p}(hp:jg p)(s:St):Ij n p s=some (p,bif a8 p s==0 then nd s else(z6,z6),a8 p s):=by unfold Ij a8;rw[show tx n _=tx n p from rfl,v87 a hp,rZ];simp[bne];cases h:((mQ p).2==0)with
 |true=>simp[cond_true];rw[show px n _ _=px n p s from rfl,SZ a hp,rZ];cases b:(j5 p s==0)with
  |true=>
   have e:j5 p s=0:=by grind
   rw[e];rfl|false=>rfl
 |false=>simp[cond_false,x3,cond_true,h];rfl
theorem ahH:(l:List Int)->l.length<=6->l6 (i6 l)=l++y6 (6- l.length) 0| [],_=>rfl| [_],_=>rfl| [_,_],_=>rfl| [_,_,_],_=>rfl| [_,_,_,_],_=>rfl| [_,_,_,_,_],_=>rfl| [_,_,_,_,_,_],_=>rfl|_::_::_::_::_::_::_::_,h=>by trivial
end
end Go.Abs.R
namespace Go.Abs
open Go.Proofs Go.Shelf Go.Sort
section
variable[Dr]
theorem akX{α}{l:List α}{i}(h0:0<=i)(h1:i< (l.length:Int)):aG l i=some (l[i.toNat]'(by omega)):=by grind[aG,vL]
theorem amT{α}(l)(i:Nat)(x:α)(h:i<l.length):tD l (i:Int) x=some (l.set i x):=by grind[tD]
section
variable{D Ks R:Type}{body:D->(D->Option R)->Ks->Option R}{ks:Ks}
theorem ahT{A:Type}{n}(len)(F:Nat->A->D)(G:Nat->A->Option R)(b:Nat->A->Prop)(e:len<=vj) (g:∀i a,i<len->decide ((i:Int)< (len:Int))=true->qK .i64 ((i:Int)+1)=((i+1:Nat):Int)->b i a->∀again,(∀c,b (i+1) c->again (F (i+1) c)=G (i+1) c)->body (F i a) again ks=G i a) (d:∀a,decide ((len:Int)< (len:Int))=false->b len a->∀again,body (F len a) again ks=G len a) (a) (h0:b 0 a) (f:len<n):cq body n (F 0 a) ks=G 0 a:=by
 have key:∀m i a,i<=len->b i a->len- i<m->cq body m (F i a) ks=G i a:=by
  intro m
  induction m with|zero=>omega|succ m h=>grind[cq,nu,vj]
 grind
end
end
end Go.Abs
namespace Go.Abs.R
open Go.Abs Go.Proofs.Tryz
open Go.Abs.N(IY H2 zQ vk yf BY C5 En Gt tN Hv yp tR xA)
section
local instance:Dr:= ⟨false⟩
theorem alv{n p}(hp:jg p)(x):zQ n x p=some (cy x 0 ((p.1.length:Int)- 1)):=by have:=hp.v;grind[zQ,IY,SF,Ra]
theorem v80{n p}(hp:jg p)(x):zF n p x=some (cy x 0 ((p.1.length:Int)- 1)):=by have:=hp.v;grind[zF,SF,EO]
theorem an3{n}(a:1000<=n){p}(hp:jg p)(m):akG n p m=some (decide (m∈p.2)):=by have:=hp.h;refine iy _ (λ i=>((i:Int),p.1,p.2,m.1,m.2,())) (λ i r=>some (decide (m∈r))) (by unfold vj;omega) ?_ ?_ (by omega);all_goals grind[akl,e1,e2,Prod.ext]
def oV(p:Pl)(m:Int×Int):=cy m.1 0 ((p.1.length:Int)- 1)&&cy m.2 0 ((p.1.length:Int)- 1)
def aY(l:List Int)(a:Int):=l[a.toNat]?.getD 0
def zu(p:Pl)(a:Int):=(p.1[a.toNat]?.map (·.2)).getD 0
def mv(p:Pl)(s:St)(m:Int×Int):Int:=bif !oV p m then 6 else bif !decide (m∈p.2)then 18 else bif aY s.1 m.1==0 then 12 else bif aY s.1 m.2==zu p m.2 then 16 else bif (aY s.2 m.2 !=0)&& (aY s.2 m.2 !=aY s.2 m.1)then 13 else 0
theorem ov{l a}(h0:0<=a)(h1:a<l.length):aG l a=some (aY l a):=by grind[akX,aY]
theorem agA{p a}(h0:0<=a)(h1:a<p.1.length):∃v,aG p.1 a=some v/\v.2=zu p a:=by simp_all[akX,zu]
theorem aal{p m}(h:oV p m=true):(0<=m.1/\m.1<p.1.length)/\0<=m.2/\m.2<p.1.length:=by grind[oV,cy]
theorem v40{n}(f:1000<=n){p}(hp:jg p){s}(d:uv p s)(m):x6 n p s m=some (mv p s m):=by have k1:=d.c;have i:=d.w;unfold x6 mv;rw[v80 hp,rZ,v80 hp,jv,rZ];cases a:oV p m with|false=>grind[oV]|true=>have⟨⟨c,g⟩,b,e⟩:=aal a;unfold oV at a;rw[G5]at a;have⟨v,v1,v2⟩:=agA (p:=p) b e;simp[a.1,a.2,vE,x3,cond_true,Dd,cond_false,an3 f hp,rZ];cases h:decide (m∈p.2)with|false=>rfl|true=>simp[vE,cond_false,ov (l:=s.1) c (by omega),ov (l:=s.1) b (by omega),ov (l:=s.2) b (by omega),ov (l:=s.2) c (by omega),v1,v2,rZ,jv];grind
def o3(x:I6)(m X:Int):I6:=(bif decide (m=0)then X else x.1,bif decide (m=1)then X else x.2.1,bif decide (m=2)then X else x.2.2.1,bif decide (m=3)then X else x.2.2.2.1,bif decide (m=4)then X else x.2.2.2.2.1,bif decide (m=5)then X else x.2.2.2.2.2)
theorem ant{l}{i:Nat}(h:i<l.length)(h6:l.length<=6)(X):o3 (i6 l) (i:Int) X=i6 (l.set i X):=by
 have:i=0\/i=1\/i=2\/i=3\/i=4\/i=5:=by omega
 rcases this with rfl|rfl|rfl|rfl|rfl|rfl<;>simp[o3,i6,h]
theorem ams{l a}(h0:0<=a)(h:a<l.length)(h6:l.length<=6)(X):o3 (i6 l) a X=i6 (l.set a.toNat X):=by grind[ant]
theorem aaZ{l a}(h0:0<=a)(h:a<6):aG (l6 (i6 l)) a=some (aY l a):=by
 have:=g6 l (i:=a.toNat) (by omega)
 rwa [Int.toNat_of_nonneg h0]at this
theorem akU{a}(h0:0<=a)(h:a<6):cQ a 6=some ():=by grind[cQ]
theorem al9:(vs:List Vs)->(cs b:List Int)->xr vs cs b=0->cs.length=vs.length->b.length=vs.length->(i:Nat)->i<vs.length->0<=cs[i]?.getD 0/\cs[i]?.getD 0<=(vs[i]?.map (·.2)).getD 0
 | [],_,_,_,_,_,i,d=>by simp at d|v::vs,c::cs,w::b,h,h1,h2,i,d=>by rw[Sr]at h;cases e:(qV v.2 c w==0)with|false=>rw[e,cond_false]at h;rw[h]at e;cases e|true=>rw[e,cond_true]at h;cases i with|succ i=>exact al9 vs _ _ h (by grind) (by grind) i (by grind)|zero=>
    have a:qV v.2 c w=0:=by grind
    unfold qV at a;cases g:(cy c 0 v.2&&cy w 0 3)with|false=>rw[g]at a;cases a|true=>grind[cy]
theorem zY{p s}(h:j5 p s=0){a:Int}(h0:0<=a)(h1:a<p.1.length):0<=aY s.1 a/\aY s.1 a<=zu p a:=by have b:=F1 h;have k1:=b.c;have c:=b.w;unfold j5 at h;rw[decide_eq_true k1,decide_eq_true c]at h;exact al9 _ _ _ h k1 c _ (by omega)
theorem alC:(l:List Vs)->(i:Nat)->(pre:List Vs)->(ix i pre l).2=0->(k:Nat)->k<l.length->1<=(l[k]?.map (·.2)).getD 0/\(l[k]?.map (·.2)).getD 0<=50
 | [],_,_,_,k,b=>by simp at b|v::l,i,pre,h,k,b=>by unfold ix at h;cases e:(wi pre v==0)with|false=>grind|true=>rw[e,cond_true]at h;cases k with|succ k=>exact alC l _ _ h k (by grind)|zero=>
    have a:wi pre v=0:=by grind
    unfold wi at a;cases g:cy v.2 1 50 with|false=>rw[g]at a;exfalso;revert a;cases rQ v.1<;>cases(pre.any λ x=>x.1==v.1)<;>decide|true=>grind[cy]
theorem alP(k):(l:List (Int×Int))->(i:Nat)->(pre:List (Int×Int))->(iq k i pre l).2=0->∀h∈l,h.1≠h.2
 | [],_,_,_,_,c=>by trivial|v::l,i,pre,h,m,b=>by unfold iq at h;cases e:(sx k pre v==0)with|false=>rw[e,cond_false]at h;rw[show sx k pre v=0 from h]at e;cases e|true=>
   rw[e,cond_true]at h;rcases xR.1 b with rfl|b;have a:sx k pre m=0:=by simpa using e
   unfold sx at a;rw[Tg]at a;intro g;rw[show(m.1 !=m.2)=false by simp[g]]at a;revert a;cases(cy m.1 0 (k- 1)&&cy m.2 0 (k- 1))<;>cases decide (m∈pre)<;>decide;exact alP k l _ _ h m b
theorem z8{p}(h:(mQ p).2=0):(∀a:Int,0<=a->a<p.1.length->1<=zu p a/\zu p a<=50)/\∀m∈p.2,m.1≠m.2:=by unfold mQ at h;cases h0:decide (p.1.length=0)with|true=>rw[h0]at h;exact absurd (show(10:Int)=0 from h) (by decide)|false=>cases d:decide (6<p.1.length)with|true=>grind|false=>rw[h0,d]at h;cases b:((ix 0 [] p.1).2==0)with|false=>rw[b]at h;simp[cond_false]at h;simp[h]at b|true=>rw[b]at h;simp[cond_true]at h;cases c:decide (30<p.2.length)with|true=>rw[c]at h;exact absurd (show(8:Int)=0 from h) (by decide)|false=>rw[c]at h;exact⟨λ a e f=>alC p.1 0 [] (by simpa using b) _ (by omega),alP _ _ 0 _ h⟩
def mq(s:St)(a b q:Int):St:=
 let l:=(s.1.set a.toNat (qK .i64 (aY s.1 a- q))).set b.toNat (qK .i64 (aY s.1 b+q));let w:=s.2.set b.toNat (aY s.2 a)
 (l,bif aY l a==0 then w.set a.toNat 0 else w)
def ap(p:Pl)(s:St)(m:Int×Int):=mq s m.1 m.2 (bu (aY s.1 m.1) (qK .i64 (zu p m.2- aY s.1 m.2)))
theorem alF{p s}(c:uv p s)(a b q):uv p (mq s a b q):=by have k1:=c.c;have d:=c.w;refine⟨by simp[mq,k1],?_⟩;grind[mq]
theorem aks{l a b}(h0:0<=a)(h1:0<=b)(h:a≠b)(X):aY (l.set a.toNat X) b=aY l b:=by grind[aY]
theorem aic{l a}(h0:0<=a)(h1:a<l.length)(X:Int):tD l a X=some (l.set a.toNat X):=by grind[amT]
theorem v42{n p s}(c:uv p s)(h6:p.1.length<=6){m}(e:oV p m=true)(g:m.1≠m.2):K9 n p s m=some (ap p s m):=by have k1:=c.c;have h:=c.w;have⟨⟨b,f⟩,a,d⟩:=aal e;have⟨v,v1,v2⟩:=agA (p:=p) a d;unfold K9 ap;rw[(MK n s (by omega) (by omega))];simp[rZ,ov (l:=s.1) b (by omega),ov (l:=s.1) a (by omega),v1,v2];generalize bu (aY s.1 m.1) (qK .i64 (zu p m.2- aY s.1 m.2))=q;unfold mq;simp[rZ,ov (l:=s.2) b (by omega),ov (l:=s.2) a (by omega),aic (l:=s.1) b (by omega),ov (l:=s.1.set _ _) a (by simp;omega),aic (l:=s.1.set _ _) a (by simp;omega),aic (l:=s.2) a (by omega),ov (l:=(s.1.set _ _).set _ _) b (by simp;omega)];grind[ov,aic]
theorem anE{p s}(c:uv p s)(h6:p.1.length<=6){a b:Int}(d:0<=a)(e:a<p.1.length)(f:0<=b)(g:b<p.1.length)(h:a≠b)(q){R:Type}(K:I6×I6->Option R):((aG (l6 (o3 (i6 s.1) a (qK .i64 (aY s.1 a- q)))) b).bind λ x=>(aG (l6 (o3 (o3 (i6 s.1) a (qK .i64 (aY s.1 a- q))) b (qK .i64 (x+q)))) a).bind λ y=>bif y==0 then K (o3 (o3 (i6 s.1) a (qK .i64 (aY s.1 a- q))) b (qK .i64 (x+q)),o3 (o3 (i6 s.2) b (aY s.2 a)) a 0) else K (o3 (o3 (i6 s.1) a (qK .i64 (aY s.1 a- q))) b (qK .i64 (x+q)),o3 (i6 s.2) b (aY s.2 a)))=K (nd (mq s a b q)):=by have k1:=c.c;have i:=c.w;grind[aks,mq,nd,ams,aaZ]
theorem als{n}(k:1000<=n){p}(hp:jg p){s}(B:a8 p s=0)(m):En n p (nd s) m=some (bif mv p s m==0 then nd (ap p s m)else(z6,z6),mv p s m):=by have⟨o,i⟩:=bh B;have f:=F1 i;have x:=(aaK o).2.1;have L:=hp.v;have K:=hp.h;have k1:=f.c;have M:=f.w;have⟨E,D⟩:=z8 o;unfold En;rw[show(λ F=>zQ n _ _) _=zQ n _ _ from rfl,show(λ F=>zQ n _ _) _=zQ n _ _ from rfl,alv hp,alv hp,rZ,jv,rZ,tP,rZ,afi p.2 m (by omega) (by unfold vj;omega),rZ,tP,rZ,BO k,Jo,rZ];cases h:oV p m with
 |false=>
  have e:mv p s m=6:=by unfold mv;grind
  unfold oV at h;have:(bif cy m.1 0 ((p.1.length:Int)- 1)then cy m.2 0 ((p.1.length:Int)- 1)else false)=false:=by grind
  rw[e,this,Bool.and_false];rfl|true=>have⟨⟨b,j⟩,a,c⟩:=aal h;have d:=h;unfold oV at d;rw[G5]at d;rw[d.1,d.2];cases z:decide (m∈p.2)with
  |false=>
   have e:mv p s m=18:=by grind[mv]
   rw[e];rfl|true=>
   have A:=D m (of_decide_eq_true z);have⟨v,v1,v2⟩:=agA (p:=p) a c;have⟨G,c2⟩:=zY i b j;have⟨d1,d2⟩:=zY i a c;have⟨N,O⟩:=E m.2 a c;have r:aG [(nd s).1.1,(nd s).1.2.1,(nd s).1.2.2.1,(nd s).1.2.2.2.1,(nd s).1.2.2.2.2.1,(nd s).1.2.2.2.2.2] m.1=some (aY s.1 m.1):=aaZ (l:=s.1) b (by omega);have t:aG [(nd s).1.1,(nd s).1.2.1,(nd s).1.2.2.1,(nd s).1.2.2.2.1,(nd s).1.2.2.2.2.1,(nd s).1.2.2.2.2.2] m.2=some (aY s.1 m.2):=aaZ (l:=s.1) a (by omega);have u:aG [(nd s).2.1,(nd s).2.2.1,(nd s).2.2.2.1,(nd s).2.2.2.2.1,(nd s).2.2.2.2.2.1,(nd s).2.2.2.2.2.2] m.1=some (aY s.2 m.1):=aaZ (l:=s.2) b (by omega);have w:aG [(nd s).2.1,(nd s).2.2.1,(nd s).2.2.2.1,(nd s).2.2.2.2.1,(nd s).2.2.2.2.2.1,(nd s).2.2.2.2.2.2] m.2=some (aY s.2 m.2):=aaZ (l:=s.2) a (by omega);have w1:qK .i64 (zu p m.2- aY s.1 m.2)=zu p m.2- aY s.1 m.2:=nu (by omega) (by omega);simp only[ia,cond_true,akU b (show m.1<6 by omega),akU a (show m.2<6 by omega),r,t,u,w,v1,v2,w1,rZ,tP,jv,QD k,Tg];have e:mv p s m=bif aY s.1 m.1==0 then 12 else bif aY s.1 m.2==zu p m.2 then 16 else bif (aY s.2 m.2 !=0)&& (aY s.2 m.2 !=aY s.2 m.1)then 13 else 0:=by grind[mv]
   rw[e];cases H:(aY s.1 _==0)with
   |true=>
    have g:aY s.1 m.1=0:=by grind
    rw[g];rfl
   |false=>
    have g:¬aY s.1 m.1=0:=by grind
    rw[(decide_eq_true (by omega))];simp only[cond_false,cond_true,bne_self_eq_false];cases I:(aY _ _==zu p _)with
    |true=>
     have q:aY s.1 m.2=zu p m.2:=by grind
     rw[(decide_eq_false (by omega))];rfl
    |false=>
     have q:¬aY s.1 m.2=zu p m.2:=by grind
     rw[(decide_eq_true (by omega))];simp only[cond_false,cond_true,bne_self_eq_false];have C:((aY s.2 m.2==0)|| ((bif !(aY s.2 m.2==0)then aY s.2 m.2 else 0)==aY s.2 m.1))=!((aY s.2 m.2 !=0)&& (aY s.2 m.2 !=aY s.2 m.1)):=by
      grind
     rw[C];cases J:((aY _ _ !=0)&& (aY _ _ !=aY _ _))with
     |true=>rfl
     |false=>
      simp[x3,cond_true,cond_false,bne_self_eq_false,beq_self_eq_true];have:=anE f x b j a c A (bu (aY s.1 m.1) (zu p m.2- aY s.1 m.2)) λ y=>some (y,(0:Int));refine Eq.trans this ?_;unfold ap;rw[w1]
def x8(p:Pl)(s:St)(i j:Nat):=bif mv p s ((i:Int),(j:Int))==0 then[((i:Int),(j:Int))]else[]
def K0(p:Pl)(s:St)(i:Nat):=(wz 0 p.1.length).flatMap (x8 p s i)
def u4(p:Pl)(s:St):=(wz 0 p.1.length).flatMap (K0 p s)
theorem aiu{α β:Type}(f:α->List β)(c)(h:∀a,(f a).length<=c):(l:List α)->(l.flatMap f).length<=c*l.length
 | []=>by simp|a::l=>by have b:=h a;have d:=aiu f c h l;grind[List.length_append,List.length_cons,Nat.mul_succ]
theorem anF(p)(s)(i j):(x8 p s i j).length<=1:=by grind[x8,mv]
theorem al2(p)(s)(i):(K0 p s i).length<=p.1.length:=by have:=aiu (x8 p s i) 1 (anF p s i) (wz 0 p.1.length);rw[FQ,Nat.one_mul]at this;trivial
theorem aoi(p)(s):(u4 p s).length<=p.1.length*p.1.length:=by
 have:=aiu (K0 p s) p.1.length (al2 p s) (wz 0 p.1.length)
 rwa [FQ]at this
theorem abh{i k}(h:i<k):wz i (k- i)=i::wz (i+1) (k- (i+1)):=by rw[show k- i=(k- (i+1))+1 by omega,List.range'_succ]
theorem am5{n}(g:1000<=n){p}(hp:jg p){s}(f:uv p s)(h6:p.1.length<=6)(i)(K)(b:List (Int×Int))(h:b.length<=6*i)(k:i<=6):cq (K7 n) n ((i:Int),(0:Int),p.1,p.2,s.1,s.2,b,()) (K,())=K ((i:Int),p.1,p.2,s.1,s.2,b++K0 p s i,()):=by
 have:=ahT (n:=n) (body:=K7 n) (ks:=(K,())) p.1.length (λ j b=>((i:Int),(j:Int),p.1,p.2,s.1,s.2,b,())) (λ j b=>K ((i:Int),p.1,p.2,s.1,s.2,b++ (wz j (p.1.length- j)).flatMap (x8 p s i),())) (λ j b=>b.length<=6*i+j) (by unfold vj;omega) (λ j a h1 c d e again l=>?_) (λ a h1 e again=>?_) b (by omega) (by omega);trivial;simp[K7,c,cond_true,d];rw[show x6 n _ _ _=x6 n p s _ from rfl,v40 g hp f,rZ,abh h1,x2];grind[x8,mv,zG,F0];grind[K7,h1]
theorem v39{n}(h:1000<=n){p}(hp:jg p){s}(g:uv p s)(h6:p.1.length<=6):s39 n p s=some (u4 p s):=by
 unfold s39;have:=ahT (n:=n) (body:=abr n) (ks:=(λ x=>match x with| (k,_)=>some k,())) p.1.length (λ i b=>((i:Int),p.1,p.2,s.1,s.2,b,())) (λ i b=>some (b++ (wz i (p.1.length- i)).flatMap (K0 p s))) (λ i b=>b.length<=6*i) (by unfold vj;omega) (λ i a c e f d again j=>?_) (λ a c d again=>?_) [] (by simp) (by omega);trivial;simp only[abr,e,cond_true];rw[am5 h hp g h6 i _ a d (by omega)];have:=al2 p s i;simp only[f];rw[j _ (by simp;omega),abh c,x2,F0];simp only[abr,c,cond_false];rw[SA];simp
abbrev MvN:=(Int×Int)×(I6×I6)
def to2(p:Pl)(s:St)(m:Int×Int):MvN:=(m,nd (ap p s m))
theorem anP{n}(g:1000<=n){p}(hp:jg p){s}(h:a8 p s=0)(i:Nat)(K)(l:i<6):cq (xA n) n (p,nd s,(i:Int),(p.1.length:Int),(i:Int),(p.1.length:Int),(0:Int),()) (K,λ _=>some [],())=(K (p,nd s,(p.1.length:Int),(i:Int),())).bind λ r=>some ((K0 p s i).map (to2 p s)++r):=by
 have m:=hp.v;have:=ahT (n:=n) (body:=xA n) (ks:=(K,λ _=>some [],())) p.1.length (λ j(_:Unit)=>(p,nd s,(i:Int),(p.1.length:Int),(i:Int),(p.1.length:Int),(j:Int),())) (λ j _=>(K (p,nd s,(p.1.length:Int),(i:Int),())).bind λ r=>some (((wz j (p.1.length- j)).flatMap (x8 p s i)).map (to2 p s)++r)) (λ _ _=>True) (by unfold vj;omega) (λ j a b c d f again k=>?_) (λ a b f again=>?_) () trivial (by omega);trivial;simp only[xA,c,cond_true,d];rw[als g hp h,rZ,abh b,x2,k () trivial];unfold x8;cases e:(mv p s _==0)with
 |true=>cases K (p,nd s,(p.1.length:Int),(i:Int),())<;>rfl|false=>rfl
 simp_all[xA,b,cond_false,SA,nd]
theorem anO{n}(f:1000<=n){p}(hp:jg p){s}(b:a8 p s=0):Gt n p (nd s)=some ((u4 p s).map (to2 p s)):=by have h:=hp.v;have g:=(aaK (bh b).1).2.1;unfold Gt;have:=ahT (n:=n) (body:=tR n) (ks:=(λ _=>some [],λ _=>some [],())) p.1.length (λ i(_:Unit)=>(p,nd s,(p.1.length:Int),(i:Int),())) (λ i _=>some (((wz i (p.1.length- i)).flatMap (K0 p s)).map (to2 p s))) (λ _ _=>True) (by unfold vj;omega) (λ i a h1 c d e again j=>?_) (λ a h1 e again=>?_) () trivial (by omega);trivial;simp[tR,c,cond_true];rw[anP f hp b i _ (by omega)];simp_all[d,trivial,rZ,abh,h1,x2,AI];grind[tR,h1]
theorem v82{n}(a)(h:a.length<n)(b:a.length<=vj):zL n a a=some true:=by unfold zL;rw[bne_self_eq_false,cond_false];refine iy a (λ i=>(a,a,(i:Int),())) (λ _ _=>some _) b ?_ ?_ h;all_goals grind[Pu,bne_self_eq_false]
theorem amE(z c w):qV z c w=0↔(0<=c/\c<=z/\0<=w/\w<=3/\(c=0↔w=0)):=by unfold qV;rw[Jo];by_cases a:0<=c/\c<=z/\0<=w/\w<=3;rw[show(cy c 0 z&&cy w 0 3)=true by simp[cy];omega];by_cases b:(c=0↔w=0);rw[show((c==0)==(w==0))=true by grind];exact⟨by omega,λ _=>rfl⟩;rw[show((c==0)==(w==0))=false by grind];exact⟨λ h=>absurd h (by decide),by omega⟩;rw[show(cy c 0 z&&cy w 0 3)=false by grind[cy]];exact⟨λ h=>absurd h (by cases((c==0)==(w==0))<;>decide),by omega⟩
theorem ai9:(vs:List Vs)->(cs a:List Int)->cs.length=vs.length->a.length=vs.length->(xr vs cs a=0↔∀i,i<vs.length->qV ((vs[i]?.map (·.2)).getD 0) (cs[i]?.getD 0) (a[i]?.getD 0)=0)| [],_,_,_,_=> ⟨λ _ i b=>by trivial,λ _=>by rfl⟩|v::vs,c::cs,w::a,h1,h2=>by have d:=ai9 vs cs a (by grind) (by grind);rw[Sr];cases e:(qV _ c w==0)with|true=>rw[cond_true,d];constructor;grind;intro h i b;exact h (i+1) (by grind)|false=>rw[cond_false];constructor;grind;intro h;exact h 0 (by simp)
theorem alg(p)(s):j5 p s=0↔uv p s/\∀a:Int,0<=a->a<p.1.length->qV (zu p a) (aY s.1 a) (aY s.2 a)=0:=by constructor;intro h;have b:=F1 h;refine⟨b,λ a h0 c=>?_⟩;unfold j5 at h;rw[decide_eq_true b.c,decide_eq_true b.w]at h;exact(ai9 _ _ _ b.c b.w).1 h _ (by omega);intro⟨b,h⟩;unfold j5;rw[decide_eq_true b.c,decide_eq_true b.w];exact(ai9 _ _ _ b.c b.w).2 λ i d=>h i (by omega) (by omega)
theorem amd{l:List Int}{a:Int}(h0:0<=a)(h:a<l.length)(X):aY (l.set a.toNat X) a=X:=by grind[aY]
theorem akm{p s}(n:a8 p s=0){m}(h:mv p s m=0):oV p m=true/\m.1≠m.2/\0<aY s.1 m.1/\aY s.1 m.2<zu p m.2/\(aY s.2 m.2=0\/aY s.2 m.2=aY s.2 m.1):=by have⟨o,g⟩:=bh n;unfold mv at h;cases a:oV p m with|false=>rw[a]at h;cases h|true=>have⟨⟨i,j⟩,k,l⟩:=aal a;have⟨q,c2⟩:=zY g i j;have⟨d1,d2⟩:=zY g k l;cases d:decide (m∈p.2)with|false=>rw[a,d]at h;cases h|true=>rw[a,d]at h;simp[vE,cond_false]at h;cases b:(aY s.1 m.1==0)with|true=>rw[b]at h;cases h|false=>rw[b,cond_false]at h;cases c:(aY s.1 m.2==zu p m.2)with|true=>rw[c]at h;cases h|false=>rw[c,cond_false]at h;simp at b c;refine⟨rfl,(z8 o).2 m (of_decide_eq_true d),by omega,by omega,?_⟩;by_cases e:aY s.2 m.2=0;exact .inl e;by_cases f:aY s.2 m.2=aY s.2 m.1;exact .inr f;rw[show((aY s.2 m.2 !=0)&& (aY s.2 m.2 !=aY s.2 m.1))=true by simp[e,f]]at h;cases h
structure aiY(p:Pl)(s t:St)(a b q:Int):Prop where
 o:0<=a
 j:a<p.1.length
 e:0<=b
 i:b<p.1.length
 f:a≠b
 c:1<=q
 r:q<=aY s.1 a
 m:q<=zu p b- aY s.1 b
 w:aY s.2 b=0\/aY s.2 b=aY s.2 a
 l:uv p t
 g:aY t.1 a=aY s.1 a- q
 h:aY t.1 b=aY s.1 b+q
 n:aY t.2 a=bif aY s.1 a==q then 0 else aY s.2 a
 k:aY t.2 b=aY s.2 a
 d:∀x,0<=x->x≠a->x≠b->aY t.1 x=aY s.1 x/\aY t.2 x=aY s.2 x
theorem anY{p s}(k:a8 p s=0){a b q:Int}(c:0<=a)(d:a<p.1.length)(f:0<=b)(g:b<p.1.length)(ne:a≠b)(l:1<=q)(m:q<=aY s.1 a)(n:q<=zu p b- aY s.1 b) (w:aY s.2 b=0\/aY s.2 b=aY s.2 a):aiY p s (mq s a b q) a b q:=by
 have⟨j,p2⟩:=bh k;have h:=F1 p2;have k1:=h.c;have r:=h.w;have⟨o,c2⟩:=zY p2 c d;have⟨d1,d2⟩:=zY p2 f g;have⟨v,x⟩:=(z8 j).1 b f g;have⟨t,u⟩:=(z8 j).1 a c d;have w2:qK .i64 (aY s.1 a- q)=aY s.1 a- q:=nu (by omega) (by omega);have w3:qK .i64 (aY s.1 b+q)=aY s.1 b+q:=nu (by omega) (by omega);have i:=alF h a b q;have e:mq s a b q=((s.1.set a.toNat (aY s.1 a- q)).set b.toNat (aY s.1 b+q),bif aY s.1 a==q then(s.2.set b.toNat (aY s.2 a)).set a.toNat 0 else s.2.set b.toNat (aY s.2 a)):=by grind[mq,aks,amd]
 rw[e]at i⊢;refine⟨c,d,f,g,ne,l,m,n,w,i,?_,?_,?_,?_,?_⟩;all_goals grind[amd,aY,aks,trans,h0]
theorem aoo{p s}(c:a8 p s=0){m}(h:mv p s m=0):∃q,aiY p s (ap p s m) m.1 m.2 q:=by have⟨j,k⟩:=bh c;have⟨g,f,m1,m2,i⟩:=akm c h;have⟨⟨d,e⟩,a,b⟩:=aal g;have⟨d1,d2⟩:=zY k a b;have⟨l,n⟩:=(z8 j).1 m.2 a b;refine⟨_,anY c d e a b f ?_ ?_ ?_ i⟩<;>rw[nu (by omega) (by omega)]<;>unfold bu<;>split<;>omega
theorem anI{p s t a b q}(c:a8 p s=0)(M:aiY p s t a b q):a8 p t=0:=by have⟨o,d⟩:=bh c;have⟨l,k⟩:=(alg p s).1 d;have⟨e,f,g,h,ne,r,u,v,n,m,e1,e2,i,j,e5⟩:=M;grind[a8,alg,h0,h1,amE,e1,e2,e5]
theorem x7{p s}(a:a8 p s=0){m}(h:mv p s m=0):a8 p (ap p s m)=0:=by grind[aoo,anI]
def rn(p:Pl):Nat->St->List (Int×Int)->St×Int×Int|_,s,[]=>(s,0,0)|i,s,m::r=>bif mv p s m==0 then rn p (i+1) (ap p s m) r else(([],[]),(i:Int),mv p s m)
def n5(p:Pl)(s:St)(l:List (Int×Int)):St×Int×Int:=bif decide (500<l.length)then(([],[]),0,8)else rn p 0 s l
theorem abw(p)(i)(s)(m)(r):rn p i s (m::r)=bif mv p s m==0 then rn p (i+1) (ap p s m) r else(([],[]),(i:Int),mv p s m):=rfl
theorem v51{n}(m:1000<=n){p}(hp:jg p){s}(c:a8 p s=0)(l:List (Int×Int)):s51 n p s l=some (n5 p s l):=by have w:=(aaK (bh c).1).2.1;unfold s51 n5;rw[show decide (((kX l))>(500:Int))=decide _ from Ig _ 500];cases k:decide (500<l.length)with|true=>rfl|false=>
  have y:=of_decide_eq_false k;refine abv (n:=n) l (λ i s=>(l,(i:Int),p.1,p.2,s.1,s.2,())) (λ i s r=>some (rn p i s r)) (λ _ s=>a8 p s=0) (by unfold vj;omega) ?_ ?_ s c (by omega);intro i s x r o q t d f g a again B;have b:=F1 (bh a).2;simp only[ag1,f,cond_true,d,rZ,g];rw[show x6 n _ _ x=x6 n p s x from rfl,v40 m hp b,rZ,abw];simp[bne];cases e:(mv p s x==0)with
  |true=>
   have j:mv p s x=0:=by grind
   have⟨A,z,_⟩:=akm a j;grind[v42,x7]|false=>rfl
  intro s h a again;have b:=F1 (bh a).2;have u:=b.c;have v:=b.w;simp[ag1,h,cond_false];rw[(MK n s (by omega) (by omega))];rfl
theorem v50(n)(l:List (Int×Int))(h:l.length<=1000):s50 n l=some l:=by grind[s50,zG]
abbrev ND:=I6×I6
abbrev ZN:=dW
abbrev Rm:=List (ND×Int×ND×Int×Int)
abbrev FD:=ND×Int×ND×Int×Int
instance aoU:DecidableEq ND:=instDecidableEqProd
theorem ali{a b}(h:i6 a=i6 b)(c:a.length=b.length)(h6:a.length<=6):a=b:=by grind[ahH,Jx]
theorem al4{p}(h6:p.1.length<=6){a b}(c:uv p a)(d:uv p b)(h:nd a=nd b):a=b:=by have:=c.c;have:=c.w;have:=d.c;have:=d.w;exact Prod.ext (ali (congrArg Prod.fst h) (by omega) (by omega)) (ali (congrArg Prod.snd h) (by omega) (by omega))
abbrev mg(r:Rm)(z:ND):=j4 (Ty.f ZN) r z
abbrev mp(r:Rm)(z:ND)(v:Int×ND×Int×Int):Rm:=lz (Ty.f ZN) r z v
theorem aku(a b:ND):Ty.f ZN a b=decide (a=b):=by grind[Ty.f]
theorem r8(e z)(v):∀r,mg (mp r e v) z=if z=e then some v else mg r z| []=>by grind[lz,j4,aku]|x::r=>by have a:=r8 e z v r;grind[lz,j4,aku]
theorem acw(e)(v):∀r,mg r e=none->mp r e v=r++ [(e,v)]| [],_=>rfl|x::r,h=>by have a:=acw e v r;grind[lz,j4]
theorem Nx{e}:∀{r:Rm},mg r e=none↔e∉r.map (·.1)| []=>by simp[j4]|x::r=>by have a:=Nx (e:=e) (r:=r);grind[j4,aku]
theorem ama(e)(v)(r)(h:mg r e=none):(mp r e v).length=r.length+1:=by grind[acw]
theorem aok{p s m}(h:mv p s m=0):oV p m=true:=by grind[mv]
theorem x9{p s m}:m∈u4 p s↔mv p s m=0:=by unfold u4 K0 x8;simp[w6,Gw];constructor;grind;intro h;have⟨⟨a,b⟩,c,d⟩:=aal (aok h);refine⟨m.1.toNat,by omega,m.2.toNat,by omega,?_⟩;grind
def wH(a b:ND):=eR (ry a) (ry b)<0
theorem anm{a b:ND}(h:eR (ry a) (ry b)<=0)(c:a≠b):wH a b:=by rcases Int.lt_or_eq_of_le h with h|h;exact h;exact absurd (agC (x:=a) (y:=b) (LC rfl h)) c
def n4:List FD->Rm->List ND->Option (Rm×List ND)| [],r,l=>some (r,l)|f::fs,r,l=>bif (mg r f.1).isSome then n4 fs r l else bif decide (4000< (mp r f.1 f.2).length)then none else n4 fs (mp r f.1 f.2) (l++ [f.1])
theorem amR{n}(p:Pl)(L:List (List ND))(x:List FD)(r:Rm)(d:x.length<n)(m:x.length<=1000000)(k0 k1):cq (Te n) n ((kX x:Int),0,p.1,p.2,r,L,([]:List ND),x,()) (k0,k1,())=(match n4 x r [] with|some (r',l')=>k0 (p.1,p.2,r',L,l',())|none=>k1 (none,false,())):=by
 refine abv (n:=n) x (λ i A=>((kX x:Int),(i:Int),p.1,p.2,A.1,L,A.2,x,())) (λ i A y=>match n4 y A.1 A.2 with|some (r',l')=>k0 (p.1,p.2,r',L,l',())|none=>k1 _) (λ i A=>A.2.length<=i) (by unfold vj;omega) ?_ ?_ (r,[]) (by simp) d;intro i A f y e g j a b c l again o;simp only[Te,b,cond_true,a,rZ,n4,c];cases h:(mg _ _).isSome with
 |true=>grind|false=>simp[cond_false];rw[show(decide _)=decide (4000< (mp A.1 f.1 f.2).length) from by grind];cases k:decide (4000< (mp _ _ _).length) with|true=>rfl|false=>simp[cond_false];rw[zG (by grind),rZ];simp_all
 grind[Te,n4]
def u9(r:Rm):=(r.map (·.1)).Nodup
theorem u9.a{r}(h:u9 r){e v}(a:mg r e=none):u9 (mp r e v):=by grind[u9,acw,GC,u2,Nx]
structure Ins(fs:List FD)(r:Rm)(l:List ND)(r':Rm)(l':List ND):Prop where
 b:r'.length<=4000/\r.length+l'.length=r'.length+l.length
 a:∀z v,mg r z=some v->mg r' z=some v
 e:∀z∈l',z∈l\/mg r z=none/\∃v,(z,v)∈fs/\mg r' z=some v
 g:∀f∈fs,mg r' f.1≠none
 c:∀z v,mg r' z=some v->mg r z=some v\/z∈l'
 h:∀z∈l,z∈l'
 d:u9 r'
theorem ae8:∀fs r l{r' l'},r.length<=4000->u9 r->n4 fs r l=some (r',l')->Ins fs r l r' l'
 | [],r,l,r',l',k,d,h=>by cases h;exact⟨⟨k,rfl⟩,λ _ _ h=>h,λ _ h=>.inl h,by simp,λ _ _ h=>.inl h,λ _ h=>h,d⟩|f::fs,r,l,r',l',k,d,h=>by
  unfold n4 at h;cases i:(mg r f.1).isSome with|true=>
   rw[i]at h;have I:=ae8 fs r l k d h;have⟨v,q⟩:=A2.1 i;exact⟨I.b,I.a,λ z b=>(I.e z b).imp id (by grind),λ g c=>by rcases xR.1 c with rfl|c;rw[I.a _ _ q];simp;exact I.g g c,I.c,I.h,I.d⟩|false=>
   rw[i,cond_false]at h;have j:mg r f.1=none:=by simp_all
   cases o:decide (4000< (mp r f.1 f.2).length) with|true=>grind|false=>rw[o,cond_false]at h;have s:=ama f.1 f.2 r j;have I:=ae8 fs _ _ (by grind) (d.a j) h;have m:mg r' f.1=some f.2:=I.a _ _ (by rw[r8];simp);refine⟨⟨I.b.1,by have:=I.b.2;grind⟩,λ z v b=>I.a z v (by grind[r8]),λ z b=>?_,λ g c=>?_,λ z v b=>?_,λ z b=>I.h z (by simp[b]),I.d⟩;rcases I.e z b with a|⟨a,v,n,p⟩;rcases xM.1 a with a|a;exact .inl a;obtain rfl:=u2.1 a;exact .inr ⟨j,f.2,.head _,m⟩;rw[r8]at a;split at a;cases a;exact .inr ⟨a,v,.tail _ n,p⟩;rcases xR.1 c with rfl|c;rw[m];simp;exact I.g g c;rcases I.c z v b with a|a;rw[r8]at a;split at a;rename_i e;subst e;exact .inr (I.h _ (by simp));exact .inl a;exact .inr a
theorem akf:∀fs r l,u9 r->n4 fs r l=none->∃K:List ND,K.Nodup/\4000<K.length/\∀z∈K,mg r z≠none\/∃v,(z,v)∈fs
 | [],r,l,g,h=>by cases h|f::fs,r,l,g,h=>by unfold n4 at h;cases k:(mg r f.1).isSome with
  |true=>rw[k]at h;have⟨K,a,b,c⟩:=akf fs r l g h;grind|false=>
   rw[k,cond_false]at h;have j:mg r f.1=none:=by simp_all
   cases m:decide (4000< (mp r f.1 f.2).length) with|true=>refine⟨(mp r f.1 f.2).map (λ x:FD=>x.1),(show u9 (mp r f.1 f.2) from g.a j),by simpa using m,λ z d=>?_⟩;rw[acw _ _ _ j,AI]at d;rcases xM.1 d with d|d;exact .inl λ e=>Nx.1 e d;simp[B1,QT,u2]at d;subst d;exact .inr ⟨f.2,.head _⟩|false=>rw[m,cond_false]at h;have⟨K,a,b,c⟩:=akf fs _ _ (g.a j) h;refine⟨K,a,b,λ z d=>?_⟩;rcases c z d with i|⟨v,n⟩;rw[r8]at i;split at i;rename_i e;subst e;exact .inr ⟨f.2,.head _⟩;exact .inl i;exact .inr ⟨v,.tail _ n⟩
theorem akQ:∀fs r l{r' l'},fs.Pairwise (λ a b=>eR (ry a.1) (ry b.1)<=0)->l.Pairwise wH->(∀z∈l,mg r z≠none/\∀f∈fs,eR (ry z) (ry f.1)<=0)->n4 fs r l=some (r',l')->l'.Pairwise wH
 | [],r,l,r',l',_,i,_,h=>by cases h;exact i|f::fs,r,l,r',l',hs,i,hz,h=>by
  have⟨s,n⟩:=ym.1 hs;unfold n4 at h;cases j:(mg r f.1).isSome with|true=>rw[j]at h;exact akQ _ r l n i (λ z h=> ⟨(hz z h).1,λ g c=>(hz z h).2 g (.tail _ c)⟩) h|false=>
   rw[j,cond_false]at h;have p:mg r f.1=none:=by simp_all
   cases k:decide (4000< (mp r f.1 f.2).length) with|true=>rw[k]at h;cases h|false=>rw[k,cond_false]at h;refine akQ fs _ _ n ?_ (λ z q=>?_) h;rw[D1];refine⟨i,by simp,λ a m b o=>?_⟩;rw[u2.1 o];exact anm ((hz a m).2 f (.head _)) λ e=>(hz a m).1 (e▸p);rcases xM.1 q with d|d;exact⟨by rw[r8];split<;>simp[(hz z d).1],λ g c=>(hz z d).2 g (.tail _ c)⟩;rw[u2.1 d];exact⟨by rw[r8];simp,λ g c=>s g c⟩
abbrev fnd(p:Pl)(k:Int)(x:St)(m:Int×Int):FD:=(nd (ap p x m),k,nd x,m.1,m.2)
theorem ssM{p}(hp:jg p){x}(a:a8 p x=0)(k):N.SS 1000001 p k (nd x)=(u4 p x).map (fnd p k x):=by unfold N.SS;rw[show tN _ p _=(Gt _ p _).bind some from rfl,anO (by omega) hp a];simp;intros;rfl
abbrev K2(p:Pl)(k:Int)(l:List ND):List FD:=Rs.yV (l.flatMap (N.SS 1000001 p k))
theorem amL{n p}(h:(mQ p).2=0)(l:List ND)(k)(h0:l≠[])(d:l.length<=4000):OZ n p l k=some (K2 p k l)/\(K2 p k l).length<=144000:=by have c:=aaK h;have b:=(z8 h).2;constructor;exact if_pos (by grind);rw[<-(Rs.OE _).length_eq];have:=aiu (N.SS 1000001 p k) 36 (λ a=>N.NA (by omega) (by omega) (by omega) b k a) l;omega
theorem aiQ{p k l f}:f∈K2 p k l↔∃z∈l,f∈N.SS 1000001 p k z:=by grind[Rs.OE]
theorem anZ(p)(k)(l):(K2 p k l).Pairwise (λ a b=>eR (ry a.1) (ry b.1)<=0):=(Rs.SG _).imp λ {a b} h=>by have:eR (ry a.1++ry a.2.2.1) (ry b.1++ry b.2.2.1)<=0:=h;rw[JJ (l:=ry a.1) (l':=ry b.1) _ _ rfl]at this;grind
def Rc(p:Pl)(s:St):Nat->St->Prop|0,x=>x=s|i+1,x=>∃y m,Rc p s i y/\mv p y m=0/\ap p y m=x
structure nZ(p:Pl)(s:St)(r:Rm)(L:List (List ND))(last:List ND):Prop where
 a:∀i c z,L[i]?=some c->z∈c->∃x,Rc p s i x/\a8 p x=0/\nd x=z/\∃v,mg r z=some v/\v.1=(i:Int)/\(0<i->∃y m e,L[i- 1]?=some e/\nd y∈e/\a8 p y=0/\mv p y m=0/\ap p y m=x/\v.2=(nd y,m.1,m.2))
 d:∀z v,mg r z=some v->∃(i:Nat)(c:List ND),L[i]?=some c/\z∈c
 h:∀i c x m,L[i]?=some c->nd x∈c->a8 p x=0->mv p x m=0->i+1<L.length\/last= []->∃v,mg r (nd (ap p x m))=some v/\v.1<=(i:Int)+1
 j:last≠[]->∃l,L=l++ [last]
 b:L.length<=r.length/\r.length<=4000/\last.length<=r.length
 k:∃v,mg r (nd s)=some v/\v.1=0
 g:∀c∈L,c.length<=4000/\c≠[]/\c.Pairwise wH
 f:u9 r
theorem nZ.n{p}(hp:jg p){s r r' L last l'}(I:nZ p s r L last)(h0:last≠[])(h:n4 (K2 p L.length last) r []=some (r',l')):nZ p s r' (bif l'.isEmpty then L else L++ [l']) l':=by
 have J:=ae8 _ _ _ I.b.2.1 I.f h;have S:=akQ _ _ _ (anZ p L.length last) zh (by simp) h;obtain⟨d,rfl⟩:=I.j h0;have A:(d++ [last])[d.length]?=some last:=by simp
 have new:∀z∈l',∃y m,Rc p s d.length y/\a8 p y=0/\mv p y m=0/\z=nd (ap p y m)/\nd y∈last/\∃v,mg r' z=some v/\v.1=((d.length+1:Nat):Int)/\v.2=(nd y,m.1,m.2):=λ z o=>by
  rcases J.e z o with e|⟨e,v,f,u⟩
  trivial;have⟨w,M,h5⟩:=aiQ.1 f;obtain⟨x,g,j,rfl,_⟩:=I.a _ _ _ A M
  grind[ssM,h5,x9]
 have old:∀i c,(d++ [last])[i]?=some c->(bif l'.isEmpty then d++ [last] else(d++ [last])++ [l'])[i]?=some c:=λ i c k=>by
  cases l'.isEmpty
  rw[cond_false,Bu (u1.1 k).1];omega
  trivial
 have C:∀i c,(bif l'.isEmpty then d++ [last] else(d++ [last])++ [l'])[i]?=some c->(d++ [last])[i]?=some c\/i=d.length+1/\c=l'/\l'≠[]:=λ i c k=>by
  grind
 have T:∀z v,mg r' z=some v->v.1<=((d.length+1:Nat):Int):=λ z v n=>by
  rcases J.c z v n with e|e
  have⟨i,c,f,u⟩:=I.d z v e;have⟨_,_,_,_,v2,h5,O,_⟩:=I.a _ _ _ f u
  grind
  grind
 refine⟨λ i c z k o=>?_,λ z v n=>?_,λ i c x m k B K H G=>?_,λ G=>?_,?_,?_,?_,J.d⟩
 rcases C i c k with e|⟨rfl,rfl,e⟩;have⟨x,g,j,l,v,q,t,D⟩:=I.a _ _ _ e o;refine⟨x,g,j,l,v,J.a _ _ q,t,λ h0=>?_⟩
 grind
 obtain⟨y,m,g,j,l,rfl,D,v,q,t,N⟩:=new z o;exact⟨_,⟨y,m,g,l,rfl⟩,x7 j l,rfl,v,q,t,by grind⟩;rcases J.c z v n with e|e;have⟨i,c,f,u⟩:=I.d z v e;grind;refine⟨d.length+1,_,?_,e⟩;grind;rcases C i c k with e|⟨rfl,rfl,e⟩;have Q:=(u1.1 e).1;rcases zj (i+1) (d++ [last]).length with f|f;have⟨v,g,j⟩:=I.h i c x m e B K H (.inl f);exact⟨v,J.a _ _ g,j⟩;have F:i=d.length:=by grind
 subst F;rw[A]at e;cases e;have E:fnd p ((d++ [last]).length:Int) x m∈K2 p ((d++ [last]).length:Int) last:=aiQ.2 ⟨_,B,by grind[ssM,x9]⟩;have⟨v,n⟩:=y3.1 (J.g _ E);grind
 grind
 grind
 have a:=J.b;have b:=I.b;grind[x0];have⟨v,a,b⟩:=I.k;exact⟨v,J.a _ _ a,b⟩;have a:=J.b;simp[y2,za]at a;intro c P;have:c∈d++ [last]\/c=l'/\l'≠[]:=by
  grind
 obtain h|⟨rfl,R⟩:=this;exact I.g c h
 grind
def Big(p:Pl)(s:St):=∃K:List ND,K.Nodup/\4000<K.length/\∀z∈K,∃j x,Rc p s j x/\a8 p x=0/\nd x=z
theorem nZ.o{p}(hp:jg p){s r L last}(I:nZ p s r L last)(h0:last≠[])(h:n4 (K2 p L.length last) r []=none):Big p s:=by have⟨K,a,b,c⟩:=akf _ _ _ I.f h;refine⟨K,a,b,λ z u=>?_⟩;rcases c z u with g|⟨v,g⟩;have⟨v,q⟩:=y3.1 g;have⟨i,c,n,o⟩:=I.d z v q;have⟨x,k,f,y,_⟩:=I.a _ _ _ n o;grind;obtain⟨j,rfl⟩:=I.j h0;have⟨w,t,l⟩:=aiQ.1 g;obtain⟨x,k,f,rfl,_⟩:=I.a j.length _ _ (by simp) t;rw[ssM hp f]at l;have⟨m,d,e⟩:=vo.1 l;cases e;have d:=x9.1 d;exact⟨j.length+1,_,⟨x,m,k,d,rfl⟩,x7 f d,rfl⟩
theorem alb{n}(g:200000<=n){p}(hp:jg p)(d:(mQ p).2=0){s}(k0 k1):∀m r L last,nZ p s r L last->2*(4001-r.length)+(bif last.isEmpty then 0 else 1)<m->(Big p s/\cq (Ta n) m (last,p.1,p.2,r,L,()) (k0,k1,())=k1 (none,false,()))\/∃r' c,nZ p s r' c []/\cq (Ta n) m (last,p.1,p.2,r,L,()) (k0,k1,())=k0 (r',c,())
 |0,r,L,last,I,h=>by omega|m+1,r,L,last,I,h=>by rw[cq];cases e:last.isEmpty with
  |true=>
   obtain rfl:last= []:=by grind
   exact .inr ⟨r,L,I,rfl⟩|false=>
   have b:last≠[]:=by grind
   have f:=I.b;have⟨i,l⟩:=amL (n:=n) d last (L.length:Int) b (by omega);simp only[Ta];rw[show(decide ((kX last:Int)>0))=true from by grind[x0]];simp[cond_true];rw[i,rZ,amR p L _ r (by omega) (by omega)];cases a:n4 _ r _ with|none=>exact .inl ⟨I.o hp b a,rfl⟩|some y=>
    have⟨r',l'⟩:=y;have J:=I.n hp b a;have K:=(ae8 _ _ _ f.2.1 I.f a).b;simp[y2,za]at K;have j:=J.b;have k:=alb g hp d k0 k1 m r' _ l' J (by grind[x0]);grind[x0,zG]
theorem anu{n}(q:200000<=n){p}(hp:jg p){s}(hs:a8 p s=0):(Big p s/\Qs n p (nd s)=some (none,false))\/∃r L,nZ p s r L []/\Qs n p (nd s)=some (some (r,L),true):=by
 unfold Qs;rw[show aG ([[nd s]]) 0=some _ from rfl];simp[rZ];have I:nZ p s (mp [] (nd s) (0,((0,0,0,0,0,0),0,0,0,0,0,0),0,0)) [[nd s]] [nd s]:={
  a:=λ i c z l t=>by match i,l with
   |0,l=>cases l;obtain rfl:=u2.1 t;exact⟨s,rfl,hs,rfl,_,by rw[r8,if_pos rfl],rfl,by omega⟩|i+1,l=>trivial
  d:=λ z v o=>by rw[r8]at o;split at o;rename_i e;subst e;exact⟨0,_,rfl,by simp⟩;trivial
  h:=λ i c x m l _ _ _ h=>by grind
  j:=λ _=> ⟨[],rfl⟩
  b:=by rw[ama _ _ _ rfl];simp
  k:= ⟨_,by rw[r8,if_pos rfl],rfl⟩
  g:=by simp
  f:=by unfold u9;rw[acw _ _ _ rfl];simp};rcases alb q hp (bh hs).1 (λ(u,w,_)=>some ((some (u,w)),true)) (λ(y,A,_)=>some (y,A)) n _ _ _ I (by grind) with h|⟨r,L,h1,h2⟩;all_goals grind
theorem nZ.e{p s}(n:a8 p s=0){r L}(I:nZ p s r L []):∀{j:Nat}{x:St},Rc p s j x->a8 p x=0/\∃i c,L[i]?=some c/\nd x∈c/\i<=j| 0,x,h=>by cases h;have⟨v,a,b⟩:=I.k;have⟨i,c,f,d⟩:=I.d _ _ a;have⟨_,_,_,_,w,g,k,_⟩:=I.a _ _ _ f d;grind|j+1,x,⟨y,m,f,d,e⟩=>by subst e;have⟨g,i,c,k,l,q⟩:=I.e n f;refine⟨x7 g d,?_⟩;have⟨v,a,b⟩:=I.h i c y m k l g d (.inr rfl);have⟨t,c2,k1,o⟩:=I.d _ _ a;have⟨_,_,_,_,w,u,z,_⟩:=I.a _ _ _ k1 o;grind
def alm(p:Pl)(s:St)(i:Nat)(x:St):=Rc p s i x/\∀j,Rc p s j x->i<=j
theorem nZ.l{p s}(g:a8 p s=0){r L}(I:nZ p s r L []){i}{z:ND}:(∃c,L[i]?=some c/\z∈c)↔∃x,nd x=z/\alm p s i x:=by
 have A:=(aaK (bh g).1).2.1;have N:∀{i j c d z},L[i]?=some c->z∈c->L[j]?=some d->z∈d->i=j:=λ {i j c d z} a b a' q=>by have⟨_,_,_,_,v,G,H,_⟩:=I.a _ _ _ a b;have⟨_,_,_,_,w,J,K,_⟩:=I.a _ _ _ a' q;grind
 have M:∀{x y:St},a8 p x=0->a8 p y=0->nd x=nd y->x=y:=λ C D e=>al4 A (F1 (bh C).2) (F1 (bh D).2) e;constructor;rintro⟨c,f,m⟩;have⟨x,n,E,o,_⟩:=I.a _ _ _ f m;refine⟨x,o,n,λ j B=>?_⟩;have⟨t,k,d,h,l,u⟩:=I.e g B;grind;rintro⟨x,rfl,f,m⟩;have⟨t,k,d,h,l,u⟩:=I.e g f;have⟨y,F,c2,c3,_⟩:=I.a _ _ _ h l;grind
theorem aky{n}(p:1000<=n)(a b)(h:a.length<=900):zL n a b=some (decide (a=b)):=by unfold zL;rw[yG];by_cases e:a.length=b.length;rw[decide_eq_true e];simp[vE,cond_false];refine iy a (λ i=>(a,b,(i:Int),())) (λ i r=>some (decide (r=b.drop i))) (by unfold vj;omega) ?_ ?_ (by omega);intro i x r l m o d f g again k;have⟨c,j,c2,_⟩:=kG (s:=b) (i:=i) (by omega);simp only[Pu,f,cond_true,d,j,rZ,g,k,c2];by_cases q:x=c;simp_all;rw[show(x !=c)=true by grind];simp[q];grind[Pu];rw[decide_eq_false e];have:a≠b:=λ h=>e (h▸rfl);grind
theorem alX{n}(c:1000<=n)(a b:St)(h1:a.1.length<=900)(h2:a.2.length<=900):Mn n a b=some (decide (a=b)):=by unfold Mn;rw[aky c _ _ h1,aky c _ _ h2,rZ,jv,rZ];have⟨d,e⟩:=a;have⟨f,g⟩:=b;simp
theorem anj{n}(b:5000<=n)(l:List St)(s:St)(a:l.length<=4000)(h:∀e∈l,e.1.length<=900/\e.2.length<=900):agO n l s=some (decide (s∈l)):=by refine iy l (λ i=>(l,(i:Int),s.1,s.2,())) (λ i r=>some (decide (s∈r))) (by unfold vj;omega) ?_ ?_ (by omega);all_goals grind[Pp,Mn,decide,alX,u0,akr,decide_eq_false]
theorem ana{n}(t:1000<=n)(a b)(h:a.length=b.length)(q:a.length<=900):ae9 n a b=some (decide (eR a b<0)):=by
 refine iy a (λ i=>(a,b,(i:Int),())) (λ i r=>some (decide (eR r (b.drop i)<0))) (by unfold vj;omega) ?_ ?_ (by omega)
 ·intro i x r m o p f g j again u;have⟨c,k,c2,_⟩:=kG (s:=b) (i:=i) (by omega);have l:decide ((i:Int)< (kX b:Int))=true:=by grind
  simp[afc,g,l,Lk,cond_true,f,k,rZ,c2,j];rcases qx x c r (b.drop (i+1)) with⟨d,e⟩|⟨d,e⟩|⟨d,e⟩;all_goals grind[decide_eq_false]
 simp_all[afc,JR,cond_false,List.drop_length,eR]
def u5(a b:St):=decide (eR (a.1++a.2) (b.1++b.2)<0)
theorem ane{n}(i:1000<=n){p}(h6:p.1.length<=6){a b}(c:uv p a)(d:uv p b):ac1 n a b=some (u5 a b):=by have e:=c.c;have f:=c.w;have g:=d.c;have h:=d.w;unfold ac1 u5;grind[aky,JJ,decide_eq_true,ana,NQ,decide_eq_false,eR,LC]
def k9(s:St):List St->List St| []=> [s]|x::r=>bif u5 x s then x::k9 s r else s::x::r
theorem amm{n}(u:5000<=n){p}(h6:p.1.length<=6)(l:List St)(t:l.length<=4000)(g:∀e∈l,uv p e){s}(j:uv p s):adV n l s=some (k9 s l):=by refine Eq.trans (abv (n:=n) l (λ i o=>(l,(i:Int),s.1,s.2,o,())) (λ i o r=>some (o++k9 s r)) (λ i o=>o=l.take i) (by unfold vj;omega) ?_ ?_ _ rfl (by omega)) rfl;intro i o x r k b m c d q a again v;subst a;have f:ac1 n x (s.1,s.2)=some (u5 x s):=ane (by omega) h6 (g x (u0 b)) j;simp only[agP,d,bI,cond_true,c,rZ,f,ag,k9];grind[u5,zG,BD,iB,kX];intro o h a again;subst a;simp[agP,h,bI,cond_false,rZ,JR];grind[zG,iB,kX,k9]
def b8:List St->List St->List St->Option (List St×List St)| [],A,N=>some (A,N)|x::r,A,N=>bif decide (x∈A)then b8 r A N else bif decide (4000<A.length+1)then none else b8 r (A++ [x]) (k9 x N)
theorem akP(b):∀a A N,b8 (a++b) A N=(b8 a A N).bind λ q=>b8 b q.1 q.2| [],A,N=>rfl|x::a,A,N=>by simp[List.cons_append,b8];cases decide (x∈A)with|true=>exact akP b a A N|false=>simp[cond_false];cases decide (4000<A.length+1)with|true=>rfl|false=>exact akP b a _ _
theorem y7(s x):∀l,x∈k9 s l↔x=s\/x∈l| []=>by simp[k9]|y::r=>by have a:=y7 s x r;grind[k9,u5]
theorem ae7(s):∀l,(k9 s l).length=l.length+1| []=>rfl|y::r=>by have a:=ae7 s r;grind[k9,u5]
structure RI(p:Pl)(A N:List St):Prop where
 a:A.length<=4000
 c:N.length<=A.length
 b:∀e∈A,uv p e
 d:∀e∈N,uv p e
theorem ah4{p}:∀{l A N A' g:List St},(∀e∈l,uv p e)->RI p A N->b8 l A N=some (A',g)->RI p A' g| [],A,N,A',g,_,I,h=>by cases h;exact I|x::r,A,N,A',g,hl,I,h=>by unfold b8 at h;cases e:decide (x∈A)with|true=>rw[e]at h;exact ah4 (λ y f=>hl y (.tail _ f)) I h|false=>rw[e,cond_false]at h;cases j:decide (4000<A.length+1)with|true=>grind|false=>rw[j,cond_false]at h;have i:=hl x (.head _);refine ah4 (λ y f=>hl y (.tail _ f)) {a:=by grind,c:=by rw[ae7];simp;exact I.c,b:=λ y f=>?_,d:=λ y f=>?_} h;rcases xM.1 f with f|f;exact I.b y f;rw[u2.1 f];exact i;rcases (y7 _ _ _).1 f with rfl|f;exact i;exact I.d y f
abbrev tg(p:Pl)(x:St):=(u4 p x).map (ap p x)
theorem adq{p x}(c:a8 p x=0):∀e∈tg p x,uv p e:=λ e a=>by obtain⟨m,b,rfl⟩:=vo.1 a;exact F1 (bh (x7 c (x9.1 b))).2
theorem aox{n}(u:5000<=n){p}(hp:jg p)(last)(out:List (List St))(i:Nat)(x)(H:aG last (i:Int)=some x)(l:a8 p x=0)(A N)(I:RI p A N)(k0 k1):cq (abG n) n (N,last,(i:Int),u4 p x,0,p.1,p.2,out,A,()) (k0,k1,())=(match b8 (tg p x) A N with|some q=>k0 (q.2,last,(i:Int),p.1,p.2,out,q.1,())|none=>k1 (false,[],())):=by
 have E:=F1 (bh l).2;have j:=(aaK (bh l).1).2.1;have P:=aoi p x;have:p.1.length*p.1.length<=6*6:=Nat.mul_le_mul j j;refine abv (n:=n) (u4 p x) (λ k q=>(q.2,last,(i:Int),u4 p x,(k:Int),p.1,p.2,out,q.1,())) (λ k q r=>match b8 (r.map _) q.1 q.2 with|some q=>k0 (q.2,last,i,p.1,p.2,out,q.1,())|none=>k1 _)
  (λ k q=>RI p q.1 q.2) (by unfold vj;omega) ?_ ?_ (A,N) I (by omega);intro k q m r L w M z B o f again K;have t:=x9.1 (u0 w);have⟨G,F,_⟩:=akm l t;have g:=x7 l t;have J:=F1 (bh g).2;have v:K9 n (p.1,p.2) x m=some (ap p x m):=v42 E j G F;have C:agO n q.1 ((ap p x m).1,(ap p x m).2)=_:=anj u q.1 (ap p x m) f.a λ e s=>by have:=(f.b e s).c;have:=(f.b e s).w;omega
 have D:adV n q.2 ((ap p x m).1,(ap p x m).2)=_:=amm u j q.2 (by have:=f.c;have:=f.a;omega) f.d J;simp only[abG,B,cond_true,H,z,rZ,v,C,B1,b8];cases e:decide (ap p x m∈q.1)with
 |true=>
  simp[vE,cond_false,cond_true];rw[(decide_eq_false (by have:=f.a;omega)),cond_false,o];grind|false=>
  simp only[x3,cond_true,cond_false];rw[zG (by have:=f.a;grind),rZ,D,rZ,show decide ((kX (q.1++ [((ap p x m).1,(ap p x m).2)]):Int)>4000)=decide (4000<q.1.length+1)by grind];cases O:decide (4000<q.1.length+1)with
  |true=>rfl
  |false=>
   simp[cond_false];rw[o];refine K (q.1++ [ap p x m],k9 (ap p x m) q.2) {a:=by grind,c:=by rw[ae7];simp;exact f.c,b:=λ y g=>?_,d:=λ y g=>?_};rcases xM.1 g with g|g;exact f.b y g
   grind
   rcases (y7 _ _ _).1 g with rfl|g;omega;exact f.d y g
 intro q h f again;simp[abG,h,cond_false];rfl
theorem amq{n}(j:5000<=n){p}(hp:jg p)(last:List St)(out:List (List St))(t:last.length<=4000)(l:∀x∈last,a8 p x=0)(A)(I:RI p A [])(k0 k1):cq (abj n) n ([],last,0,p.1,p.2,out,A,()) (k0,k1,())=(match b8 (last.flatMap (tg p)) A [] with|some q=>k0 (q.2,p.1,p.2,out,q.1,())|none=>k1 (false,[],())):=by
 refine abv (n:=n) last (λ k q=>(q.2,last,(k:Int),p.1,p.2,out,q.1,())) (λ k q r=>match b8 (r.flatMap _) q.1 q.2 with|some q=>k0 (q.2,p.1,p.2,out,q.1,())|none=>k1 _) (λ k q=>RI p q.1 q.2) (by unfold vj;omega) ?_ ?_ (A,[]) I (by omega);intro k q x r m f o b g s c again u;have a:=l x (u0 f);have i:=(aaK (bh a).1).2.1;have d:s39 n (p.1,p.2) x=some (u4 p x):=v39 (by omega) hp (F1 (bh a).2) i;simp only[abj,g,cond_true,b,rZ,d];rw[aox j hp _ _ k x b a _ _ c,x2,akP];cases e:b8 _ _ _ with
 |none=>rfl|some q'=>grind[ah4,adq]
 intro q h c again;simp[abj,h,cond_false];rfl
def kS(s:St):=s.1++s.2
def Lt(a b:St):=eR (kS a) (kS b)<0
theorem alD{a b}:u5 a b=true↔Lt a b:=by grind[u5,Lt,kS]
theorem akn{p a b}(c:uv p a)(d:uv p b):(kS a).length=(kS b).length:=by have:=c.c;have:=c.w;have:=d.c;have:=d.w;simp[kS];omega
theorem amn{p a b}(c:uv p a)(d:uv p b)(h:kS a=kS b):a=b:=by have e:=Jx h (c.c.trans d.c.symm);grind
theorem ank{p a b}(c:uv p a)(d:uv p b)(e:a≠b)(h:u5 a b=false):Lt b a:=by grind[h1,Lt,h2,alD,xG,akn,eR,kS,amn,LC]
theorem aof{p a b c}(e:uv p a)(d:uv p b)(f:uv p c)(h:Lt a b)(h2:Lt b c):Lt a c:=(EP (akn e d) (akn d f) (SL h) (SL h2)).2 (.inl h)
theorem alq{p s}(c:uv p s):∀{l:List St},(∀e∈l,uv p e)->s∉l->l.Pairwise Lt->(k9 s l).Pairwise Lt| [],_,_,_=>by simp[k9]|x::r,hl,hn,h=>by have⟨h1,a⟩:=ym.1 h;have d:=hl x (.head _);have f:=alq c (λ e b=>hl e (.tail _ b)) (λ e=>hn (.tail _ e)) a;grind[k9,u5,ym,y7,alD,h1,ank,aof]
structure RIn(l A N A' j:List St):Prop where
 a:∀x∈A,x∈A'
 g:∀x∈j,x∈N\/x∉A/\x∈l
 d:∀x∈l,x∈A'
 b:∀x∈A',x∈A\/x∈j
 h:∀x∈N,x∈j
 i:∀x∈j,x∈A'
 e:A'.length+N.length=A.length+j.length
 c:A'.Nodup
 f:j.Pairwise Lt
theorem afr{p}:∀{l A N A' d:List St},(∀e∈l,uv p e)->(∀e∈N,uv p e)->A.Nodup->(∀x∈N,x∈A)->N.Pairwise Lt->b8 l A N=some (A',d)->RIn l A N A' d
 | [],A,N,A',d,_,_,i,g,j,h=>by cases h;exact⟨λ _ h=>h,λ _ h=>.inl h,by simp,λ _ h=>.inl h,λ _ h=>h,g,rfl,i,j⟩|x::r,A,N,A',d,hl,hL,i,g,j,h=>by
  unfold b8 at h;have k:∀e∈r,uv p e:=λ y c=>hl y (.tail _ c);by_cases e:x∈A
  ·rw[decide_eq_true e]at h;have I:=afr k hL i g j h;exact⟨I.a,λ y c=>(I.g y c).imp id λ q=> ⟨q.1,.tail _ q.2⟩,λ y c=>by rcases xR.1 c with rfl|c;exact I.a _ e;exact I.d _ c,I.b,I.h,I.i,I.e,I.c,I.f⟩
  ·rw[decide_eq_false e,cond_false]at h;cases f:decide (4000<A.length+1)with|true=>rw[f]at h;cases h|false=>
    rw[f,cond_false]at h;have m:=hl x (.head _);have I:=afr k (λ y c=>by rcases (y7 _ _ _).1 c with rfl|c;exact m;exact hL y c) (by rw[GC];exact⟨i,by simp,λ a n b o f=>e (by rw[<-u2.1 o,<-f];exact n)⟩) (λ y c=>by grind[y7,y0]) (alq m hL (λ q=>e (g x q)) j) h;have s:x∈k9 x N:=(y7 _ _ _).2 (.inl rfl);refine⟨λ y c=>I.a y (y0 _ c),λ y c=>?_,λ y c=>?_,λ y c=>?_,λ y c=>I.h y ((y7 _ _ _).2 (.inr c)),I.i,by have:=I.e;grind[ae7],I.c,I.f⟩
    ·rcases I.g y c with q|q;all_goals grind[y7,y0]
    ·rcases xR.1 c with rfl|c;exact I.a _ (by simp);exact I.d y c
    ·rcases I.b y c with q|q;rcases xM.1 q with q|q;grind;rw[u2.1 q];exact .inr (I.h _ s);grind
theorem akH:∀{l A N:List St},A.Nodup->b8 l A N=none->∃K:List St,K.Nodup/\4000<K.length/\∀z∈K,z∈A\/z∈l
 | [],A,N,_,h=>by cases h|x::r,A,N,hd,h=>by
  unfold b8 at h;by_cases e:x∈A;rw[decide_eq_true e]at h;have⟨K,a,b,c⟩:=akH hd h;grind;rw[decide_eq_false e,cond_false]at h;have f:(A++ [x]).Nodup:=by grind
  cases d:decide (4000<A.length+1)with
  |true=>grind|false=>rw[d,cond_false]at h;have⟨K,a,b,c⟩:=akH f h;grind
def agU(p:Pl)(s:St):=∃K:List St,K.Nodup/\4000<K.length/\∀z∈K,∃j,Rc p s j z
structure fV(p:Pl)(s:St)(A:List St)(out:List (List St))(fin:Prop):Prop where
 a:∀i c x,out[i]?=some c->x∈c->Rc p s i x/\a8 p x=0/\x∈A
 e:∀x∈A,∃(i:Nat)(c:List St),out[i]?=some c/\x∈c
 g:∀(i j:Nat) c d x,out[i]?=some c->x∈c->out[j]?=some d->x∈d->i=j
 k:∀i c x m,out[i]?=some c->x∈c->mv p x m=0->i+1<out.length\/fin->∃j d,j<=i+1/\out[j]?=some d/\ap p x m∈d
 f:out.length<=A.length/\A.length<=4000
 b:∀c∈out,c.length<=4000/\c≠[]/\c.Pairwise Lt
 h:A.Nodup
 n:∃c,out[0]?=some c/\s∈c
theorem fV.q{p s A A' r L0 last}(I:fV p s A (L0++ [last]) False)(h:b8 (last.flatMap (tg p)) A []=some (A',r))(T:A'.length<=4000):(r=[]->fV p s A' (L0++ [last]) True)/\(r≠[]->fV p s A' ((L0++ [last])++ [r]) False):=by
 have w:(L0++ [last])[L0.length]?=some last:=by simp
 have Y:∀x∈last,a8 p x=0:=λ x l=>(I.a _ _ _ w l).2.1;have Q:∀e∈last.flatMap (tg p),uv p e:=λ e V=>by
  grind[adq]
 have J:=afr Q (by simp) I.h (by simp) zh h;have new:∀x∈r,∃y m,y∈last/\mv p y m=0/\x=ap p y m/\x∉A:=λ x l=>by
  rcases J.g x l with q|⟨ab,q⟩
  all_goals grind[x9]
 have G:=J.e;simp[y2,za]at G;have Z:=I.f;constructor;intro e;subst e;simp[y2,za]at G;have K:∀x∈A',x∈A:=λ x l=>(J.b x l).elim id (by simp);refine {a:=λ i c x o l=>?_,e:=λ x l=>I.e x (K x l),g:=I.g,k:=λ i c x m o l u _=>?_,f:=by omega,b:=I.b,h:=J.c,n:=I.n};have:=I.a i c x o l;exact⟨this.1,this.2.1,J.a _ this.2.2⟩;have S:=(u1.1 o).1;rcases zj (i+1) (L0++ [last]).length with t|t;exact I.k i c x m o l u (.inl t);have C:i=L0.length:=by grind
 subst C;rw[w]at o;cases o;have⟨j,d,M,N⟩:=I.e _ (K _ (J.d (ap p x m) (w6.2 ⟨x,l,vo.2 ⟨m,x9.2 u,rfl⟩⟩)))
 grind
 intro H;have aa:=x0.2 H;have old:∀{i:Nat}{c},(L0++ [last])[i]?=some c->((L0++ [last])++ [r])[i]?=some c:=λ {i c} o=>by
  grind
 have v:∀{i:Nat}{c},((L0++ [last])++ [r])[i]?=some c->(L0++ [last])[i]?=some c\/i=L0.length+1/\c=r:=λ {i c} o=>by
  grind
 have U:((L0++ [last])++ [r])[L0.length+1]?=some r:=by simp
 have L:∀x∈A',∃(i:Nat)(c:List St),((L0++ [last])++ [r])[i]?=some c/\x∈c:=λ x l=>by
  rcases J.b x l with q|q;have⟨i,c,a,b⟩:=I.e x q;grind
  grind
 refine {a:=λ i c x o l=>?_,e:=L,g:=λ i j c d x P z t B=>?_,k:=λ i c x m o l u W=>?_,f:=by grind,b:=λ c R=>?_,h:=J.c,n:=?_};rcases v o with q|⟨rfl,rfl⟩;have:=I.a i c x q l;exact⟨this.1,this.2.1,J.a _ this.2.2⟩;obtain⟨y,m,O,F,rfl,_⟩:=new x l;have:=I.a _ _ _ w O;exact⟨⟨y,m,this.1,F,rfl⟩,x7 this.2.1 F,J.i _ l⟩;rcases v P with q|⟨rfl,rfl⟩;rcases v t with E|⟨rfl,rfl⟩;exact I.g i j c d x q z E B;have⟨_,_,_,_,_,D⟩:=new x B;exact absurd (I.a _ _ _ q z).2.2 D;rcases v t with E|⟨rfl,rfl⟩;have⟨_,_,_,_,_,D⟩:=new x z;exact absurd (I.a _ _ _ E B).2.2 D;rfl;have X:i+1<L0.length+2:=by
  grind
 rcases v o with q|⟨rfl,rfl⟩;have S:=(u1.1 q).1;rcases zj (i+1) (L0++ [last]).length with t|t;have⟨j,d,a,b,e⟩:=I.k i c x m q l u (.inl t);grind;have C:i=L0.length:=by grind
 subst C;rw[w]at q;cases q;have⟨j,d,M,N⟩:=L _ (J.d (ap p x m) (w6.2 ⟨x,l,vo.2 ⟨m,x9.2 u,rfl⟩⟩))
 grind
 omega;rcases xM.1 R with q|q;exact I.b c q;rw[u2.1 q];exact⟨by omega,H,J.f⟩;have⟨c,a,b⟩:=I.n;grind
theorem fV.r{p s A L0 last}(I:fV p s A (L0++ [last]) False)(h:b8 (last.flatMap (tg p)) A []=none):agU p s:=by have⟨K,a,b,c⟩:=akH I.h h;refine⟨K,a,b,λ z k=>?_⟩;rcases c z k with q|q;have⟨i,d,e,f⟩:=I.e z q;exact⟨i,(I.a _ _ _ e f).1⟩;have⟨y,j,q⟩:=w6.1 q;obtain⟨m,g,rfl⟩:=vo.1 q;exact⟨L0.length+1,y,m,(I.a _ _ _ (by simp) j).1,x9.1 g,rfl⟩
theorem amh{n}(r:5000<=n){p}(hp:jg p){s}(k0):∀m A d(last:List St),fV p s A (d++ [last]) False->4001-A.length<m->(agU p s/\cq (abJ n) m (p.1,p.2,d++ [last],A,()) (k0,())=k0 (false,[],()))\/∃A' j,fV p s A' j True/\cq (abJ n) m (p.1,p.2,d++ [last],A,()) (k0,())=k0 (true,j,())
 |0,A,d,last,I,h=>by omega|m+1,A,d,last,I,h=>by
  have w:(d++ [last])[d.length]?=some last:=by simp
  have t:∀x∈last,a8 p x=0:=λ x g=>(I.a _ _ _ w g).2.1;have y:=(I.b last (by simp)).1;have z:=I.f;have v:aG (d++ [last]) (qK .i64 ((kX (d++ [last]):Int)- 1))=some last:=by rw[show qK _ _=d.length by grind[kX,nu]];trivial
  have l:RI p A []:=⟨z.2,by simp,λ e f=>by have⟨i,c,a,b⟩:=I.e e f;exact F1 (bh (I.a _ _ _ a b).2.1).2,by simp⟩;rw[cq];simp only[abJ];rw[v];simp[rZ];rw[amq r hp _ _ y t A l];cases e:b8 _ A _ with|none=>exact .inl ⟨I.r e,rfl⟩|some q=>
   have⟨A',k⟩:=q;have R:=ah4 (λ e f=>by
    grind[adq]) l e;have u:=(afr (λ e f=>by
    have⟨x,g,f⟩:=w6.1 f;exact adq (t x g) e f) (by simp) I.h (by simp) zh e).e;simp[y2,za]at u;have⟨D,B⟩:=I.q e R.a;by_cases o:k=[];grind;have C:=x0.2 o;simp only;rw[show ((kX k:Int)==0)=false by grind,cond_false,zG (by grind),rZ];exact amh r hp _ m _ _ _ (B o) (by omega)
theorem v78{n}(r:5000<=n){p}(hp:jg p){s}(o:a8 p s=0):(agU p s/\K3 n p s=some ([],false))\/∃A L,fV p s A L True/\K3 n p s=some (L,true):=by
 have I:fV p s [s] ([]++ [[s]]) False:={
  a:=λ i c x l q=>by match i,l with|0,l=>cases l;obtain rfl:=u2.1 q;trivial|i+1,l=>trivial
  e:=λ x q=> ⟨0,_,rfl,q⟩
  g:=λ i j c d x h1 _ h2 _=>by grind
  k:=λ i c x m l _ _ h=>by grind
  f:=by simp
  b:=by simp
  h:=by simp
  n:= ⟨_,rfl,by simp⟩};unfold K3;rw[MK n s (by have:=(F1 (bh o).2).c;have:=(aaK (bh o).1).2.1;omega) (by have:=(F1 (bh o).2).w;have:=(aaK (bh o).1).2.1;omega)];grind[amh,h1,h2]
theorem ajp{α:Type}[DecidableEq α]:∀{K A:List α},K.Nodup->(∀z∈K,z∈A)->K.length<=A.length
 | [],_,_,_=>by simp|x::K,A,h,hs=>by have⟨c,a⟩:=List.nodup_cons.1 h;have d:=hs x (.head _);have e:=ajp (K:=K) (A:=A.erase x) a λ z b=>(List.mem_erase_of_ne (by grind)).2 (hs z (.tail _ b));grind
theorem fV.l{p s A L}(I:fV p s A L True):∀{j:Nat}{x:St},Rc p s j x->∃i c,L[i]?=some c/\x∈c/\i<=j|0,x,h=>by cases h;have⟨c,a,b⟩:=I.n;grind|j+1,x,⟨y,m,f,g,e⟩=>by subst e;have⟨i,c,l,n,o⟩:=I.l f;have⟨k,d,a,b,c⟩:=I.k i c y m l n g (.inr trivial);grind
theorem fV.o{p s A L}(I:fV p s A L True){i x}:(∃c,L[i]?=some c/\x∈c)↔alm p s i x:=by constructor;rintro⟨c,a,b⟩;refine⟨(I.a _ _ _ a b).1,λ j h=>?_⟩;have⟨k,d,e,f,g⟩:=I.l h;have:=I.g _ _ _ _ _ a b e f;omega;rintro⟨a,b⟩;have⟨k,d,e,f,g⟩:=I.l a;have:=b k (I.a _ _ _ e f).1;grind
theorem akC{α:Type}{R}(g:∀a b,R a b->R b a->False):∀{l m:List α},l.Pairwise R->m.Pairwise R->(∀x,x∈l↔x∈m)->l=m
 | [],[],_,_,_=>rfl| [],y::m,_,_,h=>absurd ((h y).2 (.head _)) (by simp)|x::l,[],_,_,h=>absurd ((h x).1 (.head _)) (by simp)|x::l,y::m,h1,h2,h=>by
  have⟨j,c⟩:=ym.1 h1;have⟨k,d⟩:=ym.1 h2;have e:x=y:=by rcases xR.1 ((h x).1 (.head _)) with e|e;exact e;rcases xR.1 ((h y).2 (.head _)) with f|f;all_goals grind
  subst e;rw[akC g c d λ z=> ⟨λ i=>?_,λ i=>?_⟩];all_goals grind
theorem amj{a b}(h:a.length=b.length)(c):eR (a++c) (b++c)=eR a b:=by grind[JJ,NQ,eR]
theorem aml{p}(h6:p.1.length<=6){a b}(e:uv p a)(f:uv p b):eR (ry (nd a)) (ry (nd b))=eR (kS a) (kS b):=by
 have c:=e.c;have g:=e.w;have d:=f.c;have h:=f.w;have q:∀{l m:List Int},l.length=p.1.length->m.length=p.1.length->eR (l6 (i6 l)) (l6 (i6 m))=eR l m:=λ {l m} i j=>by grind[ahH,amj]
 show eR (l6 (i6 _)++l6 (i6 _)) (l6 (i6 _)++l6 (i6 _))=eR (a.1++a.2) (b.1++b.2);rw[JJ (l:=l6 (i6 a.1)) (l':=l6 (i6 b.1)) _ _ rfl,JJ _ _ (c.trans d.symm),q c d,q g h]
theorem an9(a b)(h:wH a b)(h2:wH b a):False:=by have:=xG (l:=ry a) (m:=ry b) rfl;unfold wH at*;omega
theorem aoj{p s}(m:a8 p s=0){r L}(I:nZ p s r L []){A M}(J:fV p s A M True):L=M.map (·.map nd):=by
 have n:=(aaK (bh m).1).2.1;have mem:∀i z,(∃c,L[i]?=some c/\z∈c)↔∃x,nd x=z/\∃d,M[i]?=some d/\x∈d:=λ i z=>(I.l m).trans (exists_congr λ x=>and_congr_right λ _=>J.o.symm);refine List.ext_getElem? λ i=>?_;rw[y9];cases e:L[i]? with
 |none=>cases f:M[i]? with|none=>rfl|some d=>have⟨x,j⟩:=BP d (J.b d (u0 f)).2.1;have⟨c,k,l⟩:=(mem i (nd x)).2 ⟨x,rfl,d,f,j⟩;grind
 |some c=>have⟨_,t,u⟩:=I.g c (u0 e);have⟨z,g⟩:=BP c t;have⟨v,_,d,f,_⟩:=(mem i z).1 ⟨c,e,g⟩;rw[f];simp[z1,Option.some.injEq];refine akC an9 u ?_ λ z=>?_;rw[zt];refine (J.b d (u0 f)).2.2.imp_of_mem λ {a b} o q h=>?_;have:=aml n (F1 (bh (J.a _ _ _ f o).2.1).2) (F1 (bh (J.a _ _ _ f q).2.1).2);show eR _ _<0;rw[this];exact h;constructor;intro g;obtain⟨x,rfl,d2,k,l⟩:=(mem i z).1 ⟨c,e,g⟩;grind;intro g;obtain⟨x,j,rfl⟩:=vo.1 g;have⟨c2,k,l⟩:=(mem i (nd x)).2 ⟨x,rfl,d,f,j⟩;grind
theorem am4{p s}(l:a8 p s=0){A M}(J:fV p s A M True)(h:Big p s):False:=by
 have⟨K,a,b,c⟩:=h;have:=ajp (A:=A.map nd) a λ z k=>by obtain⟨j,x,e,_,rfl⟩:=c z k;have⟨i,d,f,g,_⟩:=J.l e;exact vo.2 ⟨x,(J.a _ _ _ f g).2.2,rfl⟩
 have:=J.f;grind
theorem ano{p s}(l:a8 p s=0){r L}(I:nZ p s r L [])(h:agU p s):False:=by
 have q:=(aaK (bh l).1).2.1;have⟨K,a,b,c⟩:=h;have f:∀z∈K,a8 p z=0/\nd z∈r.map (·.1):=λ z k=>by have⟨j,m⟩:=c z k;have⟨h2,i,d,n,o,_⟩:=I.e l m;have⟨_,_,_,_,v,h5,_⟩:=I.a _ _ _ n o;grind[h2,Nx,h5]
 have:(K.map nd).Nodup:=zt.2 (S1 (λ {x y} g u t e=>t (al4 q (F1 (bh (f x g).1).2) (F1 (bh (f y u).1).2) e)) a);have:=ajp this λ z k=>by obtain⟨x,g,rfl⟩:=vo.1 k;exact (f x g).2
 have:=I.b;simp at*;omega
theorem alW{n}(l)(h:l.length<=1000):Gu n l=some l:=by grind[Gu,zG]
theorem aly{l m}(h:l.length=m)(h6:m<=6):(l6 (i6 l)).take m=l:=by grind[ahH,List.take_left]
theorem aog{n p s}(c:uv p s)(h6:p.1.length<=6):yw n (nd s) (p.1.length:Int)=some s:=by have a:=c.c;have b:=c.w;unfold yw;rw[show kZ _ 6=some _ from if_pos (by omega)];simp[rZ,Int.toNat_natCast];rw[show[(nd s).1.1,(nd s).1.2.1,(nd s).1.2.2.1,(nd s).1.2.2.2.1,(nd s).1.2.2.2.2.1,(nd s).1.2.2.2.2.2]=l6 (i6 _)from rfl,show[(nd s).2.1,(nd s).2.2.1,(nd s).2.2.2.1,(nd s).2.2.2.2.1,(nd s).2.2.2.2.2.1,(nd s).2.2.2.2.2.2]=l6 (i6 _)from rfl,aly a h6,aly b h6,alW _ (by omega),alW _ (by omega)];rfl
theorem anX{n}(q:5000<=n){p}(h6:p.1.length<=6)(c:List St)(l:c.length<=4000)(m:∀x∈c,uv p x)(L:List (List ND))(t i)(out:List (List St))(k0):cq (ace n) n (L,t,i,c.map nd,(kX (c.map nd):Int),0,p.1,p.2,out,[],()) (k0,())=k0 (L,t,i,p.1,p.2,out,c,()):=by
 rw[zl];refine abv (n:=n) c (λ k(o:List St)=>(L,t,i,c.map nd,(c.length:Int),(k:Int),p.1,p.2,out,o,())) (λ k o r=>k0 (L,t,i,p.1,p.2,out,o++r,())) (λ k o=>o=c.take k) (by unfold vj;omega) ?_ ?_ _ rfl (by omega);intro k o x r d f g h a j b again s;subst b;have e:aG (c.map nd) (k:Int)=some (nd x):=by grind[oR]
 simp[ace,a,cond_true,e,rZ];grind[IY,aog,u0,zG,BD];grind[ace]
theorem anz{n}(m:5000<=n){p}(h6:p.1.length<=6)(M:List (List St))(j:M.length<=4000)(l:∀c∈M,c.length<=4000/\∀x∈c,uv p x)(k0):cq (K8 n) n (M.map (·.map nd),(kX (M.map (·.map nd)):Int),0,p.1,p.2,[],()) (k0,())=k0 (M,()):=by
 rw[zl];refine abv (n:=n) M (λ k(o:List (List St))=>(M.map (·.map nd),(M.length:Int),(k:Int),p.1,p.2,o,())) (λ k o r=>k0 (o++r,())) (λ k o=>o=M.take k) (by unfold vj;omega) ?_ ?_ _ rfl (by omega);intro k o x r b d f g h i a again q;subst a;have e:aG (M.map (·.map nd)) (k:Int)=some (x.map nd):=by grind[oR]
 grind[u0,K8,anX,zG,BD];grind[K8]
theorem v79{n}(y:5000<=n){p}(h6:p.1.length<=6)(M:List (List St))(w:M.length<=4000)(g:∀c∈M,c.length<=4000/\∀x∈c,uv p x):s79 n M M=some true:=by unfold s79;rw[show((kX M:Int) !=kX M)=false by simp,cond_false];refine iy M (λ i=>(M,M,(i:Int),())) (λ i r=>some _) (by unfold vj;omega) ?_ ?_ (by omega);intro i c r j b l d e m again z;have h:=g c (u0 b);simp only[afY,e,cond_true,d,rZ];rw[show((kX c:Int) !=kX c)=false by simp,cond_false];refine (iy (n:=n) c (λ k=>(M,M,(i:Int),(k:Int),())) (λ k r=>again (M,M,qK .i64 (i+1),())) (by unfold vj;omega) ?_ ?_ (by omega)).trans (by grind);intro k x r q f s t u v o A;have a:=h.2 x (u0 f);have B:=a.c;have C:=a.w;grind[adp,alX,decide_eq_true,vE];grind[adp];grind[afY]
abbrev has(v:Int)(a:Nat)(x:St):=aY x.1 v==(a:Int)
theorem amO{n}(u:5000<=n){p}(L)(i:Nat)(c:List St)(e:aG L (i:Int)=some c)(t:c.length<=4000)(h:∀x∈c,uv p x)(v:Int)(h0:0<=v)(h1:v<p.1.length)(a:Nat)(out:List Int)(f)(k0):cq (abY n) n (v,L,(a:Int),f,(i:Int),0,p.1,p.2,out,()) (k0,())=k0 (v,L,(a:Int),f||c.any (has v a),(i:Int),p.1,p.2,out,()):=by refine abv (n:=n) c (λ k f=>(v,L,(a:Int),f,(i:Int),(k:Int),p.1,p.2,out,())) (λ k f r=>k0 (v,L,a,f||r.any _,i,p.1,p.2,out,())) (λ _ _=>True) (by unfold vj;omega) ?_ ?_ f trivial (by omega);intro k f x r l b m o d s _ again w;have j:=h x (u0 b);have q:=j.c;have g:aG x.1 v=some (aY x.1 v):=ov h0 (by omega);simp[abY,e,rZ,d,cond_true,bI];grind;grind[abY]
theorem aod{n}(j:5000<=n){p}(M:List (List St))(q:M.length<=4000)(i:∀c∈M,c.length<=4000/\∀x∈c,uv p x)(v:Int)(h0:0<=v)(h1:v<p.1.length)(a:Nat)(out:List Int)(k0):cq (aa1 n) n (v,M,(a:Int),false,0,p.1,p.2,out,()) (k0,())=k0 (v,M,(a:Int),M.any (·.any (has v a)),p.1,p.2,out,()):=by refine (abv (n:=n) M (λ k f=>(v,M,(a:Int),f,(k:Int),p.1,p.2,out,())) (λ k f r=>k0 (v,M,a,f||r.any (·.any (has v a)),p.1,p.2,out,())) (λ _ _=>True) (by unfold vj;omega) ?_ ?_ _ trivial (by omega)).trans rfl;intro k f x r m d o e g h _ again l;have b:=i x (u0 d);simp[aa1,g,cond_true];rw[amO j M k x e b.1 b.2 v h0 h1,h,l _ trivial];grind;grind[aa1]
def y8(M:List (List St))(v:Int)(S:Nat):=((wz 0 (S+1)).filter λ a=>M.any (·.any (has v a))).map (λ a:Nat=>(a:Int))
theorem akx{n}(g:5000<=n){p}(M:List (List St))(b:M.length<=4000)(f:∀c∈M,c.length<=4000/\∀x∈c,uv p x)(v:Int)(h0:0<=v)(h1:v<p.1.length){S:Nat}(d:zu p v=(S:Int))(i:S<=50)(k0):∀m a(out:List Int),out.length<=a->a<=S+1->S+1-a<m->cq (adH n) m (v,M,(a:Int),p.1,p.2,out,()) (k0,())=k0 (out++((wz a (S+1-a)).filter λ a=>M.any (·.any (has v a))).map (λ a:Nat=>(a:Int)),())
 |0,a,out,_,_,h=>by omega|m+1,a,out,r,o,h=>by
  have⟨e,j,k⟩:=agA (p:=p) h0 h1;rw[cq];simp[adH];rw[j,rZ,k,d];by_cases q:a<=S;rw[decide_eq_true (by omega),cond_true,aod g M b f v h0 h1,abh (by omega)];have w:qK .i64 ((a:Int)+1)=((a+1:Nat):Int):=by grind[nu]
  simp;cases l:M.any _ with
  |true=>simp[cond_true];rw[zG (by grind),rZ,w,akx g M b f v h0 h1 d i _ m _ _ (by grind) (by omega) (by omega),HY];grind|false=>simp[cond_false];rw[w,akx g M b f v h0 h1 d i _ m _ _ (by omega) (by omega) (by omega),HY];grind
  rw[decide_eq_false (by omega),cond_false,show S+1-a=0 by omega];simp
theorem amB{l:List Int}(p:l.Pairwise (·<=·)):(yt l).Pairwise (·<·)/\∀x,x∈yt l↔x∈l:=by
 have h:∀j,j<l.length->∃x,l[j]?=some x/\l.toArray[j]! =x:=λ j f=> ⟨l[j],vL f,by grind⟩;have mono:∀i j,i<=j->j<l.length->l.toArray[i]!<=l.toArray[j]!:=λ i j n f=>by grind[Nat.lt_or_eq_of_le,List.pairwise_iff_getElem,u1]
 have key:∀m,m<=l.length->(y4 l.toArray m).Pairwise (·<·)/\(∀x∈y4 l.toArray m,∃j,j<m/\l.toArray[j]! =x)/\∀j,j<m->l.toArray[j]!∈y4 l.toArray m:=by
  intro m
  induction m with|zero=>simp_all[y4]|succ m k=>intro o;have⟨a,b,c⟩:=k (by omega);rw[Go.Lib.compactUpTo_succ];cases e:B2 l.toArray m with
   |true=>
    rw[if_pos rfl];have e2:m=0\/l.toArray[m]!≠l.toArray[m- 1]!:=by grind[B2]
    refine⟨D1.2 ⟨a,by simp,λ x d y q=>?_⟩,λ x d=>?_,λ j f=>?_⟩
    all_goals grind[u2,h1,h2,e2,zj,y0]|false=>
    grind[e2,B2,h1,h2,zj]
 have⟨a,b,c⟩:=key l.length (S3 _);refine⟨a,λ x=> ⟨λ d=>?_,λ d=>?_⟩⟩;obtain⟨j,h1,rfl⟩:=b x d;grind;obtain⟨j,h1,rfl⟩:=List.mem_iff_getElem.1 d;have⟨y,h2,g⟩:=h j h1;rw[vL h1]at h2;cases h2;rw[<-g];exact c j h1
theorem amv{n o T}(hT:T.Pairwise (·<·))(j:o≠[])(i:∀x,x∈o↔x∈T)(k:o.length<=5000):((z7 n o).bind λ l=>(zZ n l).bind λ e=>some (e,(0:Int)))=some (T,0):=by have hp:=List.mergeSort_perm o (λ x y=>decide (x<=y));have d:(o.mergeSort (λ x y=>decide (x<=y))).Pairwise (·<=·):=(List.pairwise_mergeSort (le:=λ x y:Int=>decide (x<=y)) (λ a b c g h2=>by grind) (λ a b=>by grind) o).imp (λ h=>by grind);have⟨f,c2⟩:=amB d;unfold z7 zZ;rw[show o.isEmpty=false by grind,cond_false,zG (by omega)];simp only[rZ];rw[zG (by rw[hp.length_eq];omega),rZ,rZ];grind[akC,h2,trans]
theorem alp{α:Type}:∀{l:List α}{i:Nat}{z:α},l[i]?=some z->(z::l.eraseIdx i).Perm l| [],_,_,h=>by trivial|x::l,0,z,h=>by simp_all|x::l,i+1,z,h=>((List.Perm.swap x z _).trans ((alp (l:=l) (i:=i) (by trivial)).cons x))
abbrev vl(v:Int)(z:FD):=aY (l6 z.1.1) v
theorem alw{n}(v)(h0:0<=v)(h6:v<6){R}(k0):∀m(out:List Int)(it:Rm),it.length<m->out.length+it.length<=5000->(∀o,o.Perm (out++it.map (vl v))->k0 (o,())=some R)->cq (aao n) m (v,out,it,()) (k0,())=some R
 |0,out,it,h,_,_=>by omega|m+1,out,it,h,f,a=>by rw[cq];simp[aao];refine aor (λ e=>a out (by grind)) λ i z b=>?_;have d:=(u1.1 b).1;have g:aG (l6 z.1.1) v=some (vl v z):=ov h0 (by trivial);rw[akU h0 h6,rZ];refine(congrArg (λ q=>Option.bind q _) g).trans ?_;rw[rZ,zG (by grind),rZ];refine alw v h0 h6 k0 m _ _ (by grind) (by grind) λ o c=>a o (c.trans ?_);have q:=(alp b).map (vl v);grind
theorem v81{n}(f:5000<=n){p}(s:St)(M:List (List St))(a:M.length<=4000)(e:∀c∈M,c.length<=4000/\∀x∈c,uv p x)(v:Int)(h0:0<=v)(h1:v<p.1.length){S:Nat}(b:zu p v=(S:Int))(d:S<=50)(h78:K3 n p s=some (M,true)):s81 n p s v=some (y8 M v S,true):=by unfold s81;rw[h78];exact akx f M a e v h0 h1 b d _ n 0 _ (by simp) (by omega) (by omega)
theorem ann(M)(v)(S):(y8 M v S).Pairwise (·<·):=by grind[y8,List.pairwise_lt_range']
theorem anN{M v}{S:Nat}{x}(h:∀c∈M,∀y∈c,0<=aY y.1 v/\aY y.1 v<=(S:Int)):x∈y8 M v S↔∃c∈M,∃y∈c,aY y.1 v=x:=by unfold y8;simp only[vo,List.mem_filter,Gw,List.any_eq_true,beq_iff_eq];constructor;grind;rintro⟨c,d,y,e,rfl⟩;have⟨a,b⟩:=h c d y e;exact⟨(aY y.1 v).toNat,by grind,by omega⟩
theorem v31{n}(a:1000<=n){p}(hp:jg p)(s:St):s31 n p s=some (a8 p s):=by grind[s31,a8,xy,v46,sM,Mc,bne,mQ]
theorem v69{n}(d:200000<=n){p}(hp:jg p){s}(e:a8 p s=0):K4 n p s=(Qs n p (nd s)).bind λ a=>bif !a.2 then some (([]:List (List St)),8)else a.1.bind λ b=>cq (K8 n) n (b.2,(kX b.2:Int),0,p.1,p.2,([]:List (List St)),()) (λ(c,_)=>some (c,0),()):=by grind[K4,v95]
theorem v77{n}(e:200000<=n){p}(hp:jg p)(s:St)(v):s77 n p s v=bif jh [a8 p s,ia (cy v 0 ((p.1.length:Int)- 1)) 6] !=0 then some ([],jh [a8 p s,ia (cy v 0 ((p.1.length:Int)- 1)) 6])else(Qs n p (bif a8 p s==0 then nd s else(z6,z6))).bind λ a=>bif !a.2 then some (([]:List Int),8)else a.1.bind λ d=>cq (aao n) n (v,([]:List Int),d.1,()) (λ(c,_)=>(z7 n c).bind λ l=>(zZ n l).bind λ b=>some (b,0),()):=by unfold s77;rw[v95 (by omega) hp];simp[rZ];rw[SF (by have:=hp.v;omega),Ra,rZ,tP,rZ,BO (by omega),rZ]
theorem akY{p x}(b:uv p x)(h6:p.1.length<=6){v:Int}(h0:0<=v)(h1:v<p.1.length):aY (l6 (nd x).1) v=aY x.1 v:=by have a:=b.c;show aY (l6 (i6 _)) v=_;grind[ahH,aY,Bu]
theorem anb(M)(v)(S):(y8 M v S).length<=S+1:=by grind[y8,zl,Sh,List.length_filter_le]
theorem amr{n}(a:200000<=n){p}(hp:jg p){s}(b:a8 p s≠0):K4 n p s=some ([],a8 p s):=by grind[K4,v95,a8]
theorem am9(k)(p:Pl)(s:St)(v:Int):s14 (k+200000) p s v=some true:=by
 generalize J:k+200000=n;have q:200000<=n:=by omega
 have N:FJ n=some true:=by grind[acS]
 unfold s14;have⟨b,C,T⟩:=v18 (n:=n) (by omega) p;have⟨O,R,U⟩:=v20 n s;rw[N,rZ,C,R];simp[jv,rZ,vE,cond_false];cases b with
 |false=>rfl
 |true=>
  cases O with
  |false=>rfl
  |true=>
   have hp:=T rfl;have⟨ab,ac⟩:=U rfl
   simp[vE];rw[v22 n hp,MK n s (by omega) (by omega)];simp[rZ];rw[v31 (by omega) hp]
   by_cases f:a8 p s=0
   have F:=(aaK (bh f).1).2.1;rw[v69 q hp f,v77 q hp,f];simp[rZ,beq_self_eq_true,cond_true,bne_self_eq_false,cond_false];rw[v80 (n:=n) hp v];rcases anu q hp f with⟨j,D⟩|⟨r,L,j,D⟩;rcases v78 (n:=n) (by omega) hp f with⟨w1,w2⟩|⟨A,M,w1,w2⟩;rw[D,w2];cases e:cy v 0 ((p.1.length:Int)- 1)<;>rfl
   grind[am4]
   rcases v78 (n:=n) (by omega) hp f with⟨w1,w2⟩|⟨A,M,w1,w2⟩
   grind[ano]
   have eM:=aoj f j w1;subst eM;have B:M.length<=4000:=by have:=w1.f;omega
   have K:∀c∈M,∀x∈c,a8 p x=0:=λ c d x m=>by
    have⟨i,I⟩:=D3 d;exact (w1.a i c x I m).2.1
   have d:∀c∈M,c.length<=4000/\∀x∈c,uv p x:=λ c d=> ⟨(w1.b c d).1,λ x m=>(F1 (bh (K c d x m)).2)⟩;rw[D,w2];simp only[rZ,vE,cond_false];rw[anz (by omega) F M B d];simp[rZ,bne_self_eq_false,Ls,x3,bI,cond_true];rw[v79 (by omega) F M B d];simp[rZ,vE,cond_false];cases e:cy v 0 _ with
   |false=>rfl
   |true=>
    have g:0<=v/\v<p.1.length:=by
     grind[cy]
    have⟨S,G⟩:=Int.eq_ofNat_of_zero_le (a:=zu p v) (by have:=(z8 (bh f).1).1 v g.1 g.2;omega);have Q:S<=50:=by have:=(z8 (bh f).1).1 v g.1 g.2;omega
    have C:∀c∈M,∀y∈c,0<=aY y.1 v/\aY y.1 v<=(S:Int):=λ c d y W=>by
     rw[<-G];exact zY (bh (K c d y W)).2 g.1 g.2
    have P:=v81 (n:=n) (by omega) s M B d v g.1 g.2 G Q w2;have e77:cq (aao n) n (v,([]:List Int),r,()) (λ(Z,_)=>(z7 n Z).bind λ l=>(zZ n l).bind λ Y=>some (Y,(0:Int)),())=some (y8 M v S,0):=by
     refine alw v g.1 (by omega) _ n [] r (by have:=j.b;omega) (by have:=j.b;grind) λ o t=>?_;simp[List.nil_append]at t;refine amv (ann _ _ _) ?_ (λ x=>?_) (by rw[t.length_eq,zl];have:=j.b;omega);have⟨w,a,_⟩:=j.k;intro u;subst u;have:=t.length_eq;simp at this;have:r= []:=by grind
     subst this;cases a;rw[t.mem_iff,anN C,vo];constructor;rintro⟨z,X,rfl⟩;have J:mg r z.1≠none:=λ h=>Nx.1 h (vo.2 ⟨z,X,rfl⟩);have⟨w,V⟩:=y3.1 J;have⟨i,c,h1,h2⟩:=j.d _ _ V
     grind[h1,Option.map_eq_some_iff,h2,u0,akY]
     rintro⟨c,H,x,m,rfl⟩;have⟨i,I⟩:=D3 H;have aa:=(d c H).2 x m;have⟨_,_,_,_,w,h5,_⟩:=j.a i (c.map nd) (nd x) (by grind) (vo.2 ⟨x,m,rfl⟩)
     grind[nd,Nx,h5,akY]
    rw[P];simp[rZ,vE,cond_false];rw[show jh _=0 from rfl];grind[bne_self_eq_false,e77,v82,anb,vj]
   have E:(a8 p s !=0)=true:=by grind
   have u:jh [a8 p s,ia (cy v 0 ((p.1.length:Int)- 1)) 6]=a8 p s:=by grind[jh]
   rw[amr q hp f,v77 q hp,u,E];simp[rZ,cond_true,E,beq_self_eq_true,ag];rfl
end
end Go.Abs.R
namespace Go.Rs
open Go.ChangeShapes Go.Conc Go.Proofs
theorem acj:ownKnob Tryz.prog.godebug=none:=by kernel_rfl
theorem RY:laidOutB Tryz.prog=true:=by kernel_rfl
theorem Gv:TP.globals.size=3:=by kernel_rfl
theorem VJ(g)(h:g<3):(((begin TP (λ _ _=>0) default).world.heap[g]?).bind Obj.row?).isSome=true:=by match g,h with|0,_=>exact(by kernel_rfl:(((begin TP (λ _ _=>0) default).world.heap[0]?).bind Obj.row?).isSome=true)|1,_=>exact(by kernel_rfl:(((begin TP (λ _ _=>0) default).world.heap[1]?).bind Obj.row?).isSome=true)|2,_=>exact(by kernel_rfl:(((begin TP (λ _ _=>0) default).world.heap[2]?).bind Obj.row?).isSome=true)
theorem V2(w)(c:w.ShapedOpen TP):TP.globals.size<=w.heap.size/\vx w:=by
 have key:∀g,g<3->∃cs t,w.heap[g]?=some (.cells cs t):=λ g a=>by have⟨⟨z,t⟩,d⟩:=A2.1 (VJ g a);have⟨cs,b,_⟩:=c.1 g z t (by rw[Gv];exact a) d;exact⟨cs,t,b⟩
 refine⟨?_,λ g a=>?_⟩;have⟨cs,t,h⟩:=key 2 (by omega);have:=(y5.1 h).1;rw[Gv];omega;have a:Nat.blt g TP.globals.size=true:=a;rw[Gv]at a;have⟨cs,t,h⟩:=key g (by simpa using a);exact S8 h
end Go.Rs
namespace Go
theorem Rs.ajf(d){p s c}(kinds)(e)(a)(b g) (l:c.holds p s) (w:c.wfByText s=true) (v:c.laidByTextAt d p kinds e) (u:c.start= .entering) (r:c.noBlocks=false/\c.again=false) (o:p.checked.prog.mainIs=some (a.1,a.2.toList)) (q:(!a.1&&a.2.isEmpty&&!b)=false) (n:∀f fn,p.checked.prog.funcNamed c.func=some f->p.checked.prog.funcs[f]?=some fn->b=p.checked.prog.looks []/\∀(j:Nat)t,fn.params[j]?=some t->p.checked.prog.wantsStandIn t=false) (m:g=c.goesBy p.checked.prog):Claim7.holds p (.plain s) {stood:={row:=c,standIns:= [],harness:=a,looks:=b},kinds:= [],alts:= [],goes:=g,laidByText:=true,laidKinds:=kinds,laidTests:=e,laidLooks:=d}:=by
 have i:I0 {stood:={row:=c,standIns:= [],harness:=a,looks:=b},kinds:= []}=false:=by simpa[I0]using q
 have key:=Claim7.tied_new_at d kinds e (Claim7.new_of_sixth l a b u r o i n) w;refine⟨?_,(λ D k=>by cases k),v,(λ h=>by cases h),m⟩;exact key
end Go
