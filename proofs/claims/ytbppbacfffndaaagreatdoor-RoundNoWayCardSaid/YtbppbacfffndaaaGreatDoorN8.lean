/- For every input: criaderalaw09.RoundNoWay returns true on every schedule, without a data race, and its arguments read afterwards as before; where two of Go's tables start as the program's text lays them. No further condition. -/
import Derived.Test.YtbppbacfffndaaaGreatDoorN6
import Derived.Test.YtbppbacfffndaaaGreatDoorN7
set_option linter.all false
open Go.Proofs.Tryz renaming prog->fV,f15->k9,checked->u0,func15->u2
open Option.some renaming inj->u1
open Go.Proofs.YtbppbacfffndaaaGreatDoor.Rows renaming roundNoWaySpec->u5
open Go renaming laidMetH->vi
open Go.ChangeSpec renaming witness_shaped->vj
open Go.MakeChecks renaming laidMetH_plain->vo
namespace Go.Proofs.YtbppbacfffndaaaGreatDoor
open Go.Abs Go.ChangeShapes Go.RowKit Go.WideShapes
section
local instance:Abs.Dr:= ⟨false⟩
theorem roundNoWay_lifted(os:Os)(e:os.Started)(H:Type)(enc:TypeId×Value->H):
 ReturnsInLeavingWide {} u0 os 15 .any (λ w args=>(Rows.roundNoWaySpec.pre enc fV k9 Rows.roundNoWayRow.domain false w args/\vi fV Rows.roundNoWayRow.laid w)/\sizedMet enc fV k9 (OpenSpec.ofChange u5) false w args)
  (Rows.roundNoWaySpec.post enc fV k9 false true false false):=by
 refine Go.Rs.ab6 (C:=u0) (X:=λ w _=>vi fV Rows.roundNoWayRow.laid w) (λ _ _ _ d h=>h.of_heap d) rfl (f:=15) (r:=4) (fn:=k9) (s:=u5) (Ts:= [25,30]) (tb:=4) (nn:=12) (ins:=(R.SL 0).c) (g:=λ n x=>R.s15 n x.1 x.2) Go.Rs.acj e (by kernel_rfl) u2 (Go.Rs.Jt u2 (by kernel_rfl) (by decide)) (by decide) (by kernel_rfl) (by kernel_rfl)
  (vj (enc:=enc) (C:=u0) (os:=os) (X:=λ w _=>vi fV Rows.roundNoWayRow.laid w) false (World.laidAll fV os Rows.roundNoWayRow.laid) #[.agg #[.slice none 0 0,.slice none 0 0],.agg #[.slice none 0 0,.slice none 0 0,.slice none 0 0,.slice none 0 0]] 8 (World.laidAll_os _ _ _)
   (World.shaped_of_ZipB (by kernel_rfl) (by kernel_rfl)) (by kernel_rfl) (by kernel_rfl) (by kernel_rfl)
   (by rw[vo _ _ _ (by kernel_rfl)];exact laidMet_laidAll _ (by kernel_rfl) (by kernel_rfl)))
  (by kernel_rfl) (by kernel_rfl) (by kernel_rfl) Go.Rs.RY Go.Rs.V2 (by kernel_rfl) (by kernel_rfl) (by kernel_rfl) rfl (λ c h=>?_) (λ n=>R.alB n) (λ x _=> ⟨0+200000,R.aqo 0 x.1 x.2⟩)
 match c,h with
 | [a,b],_=>rfl
theorem roundNoWay_holds:Rows.RoundNoWaySaid:=
 OpenClaim.holds_of_wide_leaving 15 k9 rfl rfl rfl rfl rfl rfl rfl ⟨rfl,rfl,rfl,rfl,rfl⟩ rfl rfl rfl rfl rfl (by kernel_rfl) u2 (by unfold joinedFacts;rw[i1,i2,i3,i4,show laidOutB Tryz.pinned.checked.prog=true from Go.Rs.RY,i6,i7,i8];kernel_rfl)
  (of_decide_eq_true (by kernel_rfl)) (by unfold Func.isWrapper;first| (rw[if_pos (by decide+kernel)];kernel_rfl)| (rw[if_neg (by decide+kernel)];exact⟨rfl,rfl⟩))
  (λ os a H enc _=>roundNoWay_lifted os a H enc)
end
section
local instance:Abs.Dr:= ⟨false⟩
theorem roundNoWay_card:Rows.RoundNoWayCardSaid:=
 Rs.ajf .later [.data,.pinned] true (true,"a6ae03c699be718f40ee4a3edf2a1af2bd4942371d156b56abf5ee72d641c4f3") false true roundNoWay_holds c1 roundNoWay_row_tie rfl ⟨rfl,rfl⟩ c2 rfl
  (λ f fn c d=>by
   obtain rfl:f=15:=u1 ((show Tryz.prog.funcNamed "criadera/criaderalaw09.RoundNoWay" =some 15 by kernel_rfl).symm.trans c)|>.symm;obtain rfl:fn=Tryz.f15:=(u1 (Tryz.func15.symm.trans d)).symm;exact⟨c4,λ j t a=>by
    rw[Tryz.params15]at a;have e:t∈[25,30]:=by simpa using Array.mem_of_getElem? a
    have b:([25,30].all λ u=>!Tryz.prog.wantsStandIn u)=true:=by kernel_rfl
    exact(show Tryz.prog.wantsStandIn t=false by simpa using List.all_eq_true.1 b t e)⟩)
  c3
end
end Go.Proofs.YtbppbacfffndaaaGreatDoor
