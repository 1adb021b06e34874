/- For every input: criaderalaw09.RoundLayers returns true on every schedule, without a data race, and its arguments read afterwards as before; where two of Go's tables start as the program's text lays them. No further condition. -/
import Derived.Test.YtbppbacfffndaaaGreatDoorL6
import Derived.Test.YtbppbacfffndaaaGreatDoorL7
set_option linter.all false
open Go.Proofs.Tryz renaming prog->kX,f14->qK,checked->rZ,func14->u1
open Option.some renaming inj->u0
open Go.Proofs.YtbppbacfffndaaaGreatDoor.Rows renaming roundLayersSpec->u2
open Go renaming laidMetH->vi
open Go.ChangeSpec renaming witness_shaped->vj
open Go.MakeChecks renaming laidMetH_plain->vo
namespace Go.Proofs.YtbppbacfffndaaaGreatDoor
open Go.Abs Go.ChangeShapes Go.RowKit Go.WideShapes
section
local instance:Abs.Dr:= ⟨false⟩
theorem roundLayers_lifted(os:Os)(i:os.Started)(H:Type)(enc:TypeId×Value->H):
 ReturnsInLeavingWide {} rZ os 14 .any (λ w args=>(Rows.roundLayersSpec.pre enc kX qK Rows.roundLayersRow.domain false w args/\vi kX Rows.roundLayersRow.laid w)/\sizedMet enc kX qK (OpenSpec.ofChange u2) false w args)
  (Rows.roundLayersSpec.post enc kX qK false true false false):=by
 refine Go.Rs.ab6 (C:=rZ) (X:=λ w _=>vi kX Rows.roundLayersRow.laid w) (λ _ _ _ e h=>h.of_heap e) rfl (f:=14) (r:=6) (fn:=qK) (s:=u2) (Ts:= [25,28,3]) (tb:=4) (nn:=12) (ins:=(R.ahM 0).c) (g:=λ n x=>R.s14 n x.1 x.2.1 x.2.2) Go.Rs.acj i (by kernel_rfl) u1 (Go.Rs.Jt u1 (by kernel_rfl) (by decide)) (by decide) (by kernel_rfl) (by kernel_rfl)
  (vj (enc:=enc) (C:=rZ) (os:=os) (X:=λ w _=>vi kX Rows.roundLayersRow.laid w) false (World.laidAll kX os Rows.roundLayersRow.laid) #[.agg #[.slice none 0 0,.slice none 0 0],.agg #[.slice none 0 0,.slice none 0 0],.int .i64 0] 8 (World.laidAll_os _ _ _)
   (World.shaped_of_ZipB (by kernel_rfl) (by kernel_rfl)) (by kernel_rfl) (by kernel_rfl) (by kernel_rfl)
   (by rw[vo _ _ _ (by kernel_rfl)];exact laidMet_laidAll _ (by kernel_rfl) (by kernel_rfl)))
  (by kernel_rfl) (by kernel_rfl) (by kernel_rfl) Go.Rs.RY Go.Rs.V2 (by kernel_rfl) (by kernel_rfl) (by kernel_rfl) rfl (λ d h=>?_) (λ n=>R.alN n) (λ x _=> ⟨0+200000,R.am9 0 x.1 x.2.1 x.2.2⟩)
 match d,h with
 | [a,b,c],_=>rfl
theorem roundLayers_holds:Rows.RoundLayersSaid:=
 OpenClaim.holds_of_wide_leaving 14 qK rfl rfl rfl rfl rfl rfl rfl ⟨rfl,rfl,rfl,rfl,rfl⟩ rfl rfl rfl rfl rfl (by kernel_rfl) u1 (by unfold joinedFacts;rw[i1,i2,i3,i4,show laidOutB Tryz.pinned.checked.prog=true from Go.Rs.RY,i6,i7,i8];kernel_rfl)
  (of_decide_eq_true (by kernel_rfl)) (by unfold Func.isWrapper;first| (rw[if_pos (by decide+kernel)];kernel_rfl)| (rw[if_neg (by decide+kernel)];exact⟨rfl,rfl⟩))
  (λ os a H enc _=>roundLayers_lifted os a H enc)
end
section
local instance:Abs.Dr:= ⟨false⟩
theorem roundLayers_card:Rows.RoundLayersCardSaid:=
 Rs.ajf .later [.data,.pinned] true (true,"a6ae03c699be718f40ee4a3edf2a1af2bd4942371d156b56abf5ee72d641c4f3") false true roundLayers_holds c1 roundLayers_row_tie rfl ⟨rfl,rfl⟩ c2 rfl
  (λ f fn c d=>by
   obtain rfl:f=14:=u0 ((show Tryz.prog.funcNamed "criadera/criaderalaw09.RoundLayers" =some 14 by kernel_rfl).symm.trans c)|>.symm;obtain rfl:fn=Tryz.f14:=(u0 (Tryz.func14.symm.trans d)).symm;exact⟨c4,λ j t a=>by
    rw[Tryz.params14]at a;have e:t∈[25,28,3]:=by simpa using Array.mem_of_getElem? a
    have b:([25,28,3].all λ u=>!Tryz.prog.wantsStandIn u)=true:=by kernel_rfl
    exact(show Tryz.prog.wantsStandIn t=false by simpa using List.all_eq_true.1 b t e)⟩)
  c3
end
end Go.Proofs.YtbppbacfffndaaaGreatDoor
