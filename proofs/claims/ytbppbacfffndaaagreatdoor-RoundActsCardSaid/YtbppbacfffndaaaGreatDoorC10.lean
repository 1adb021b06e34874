/- For every input: criaderalaw09.RoundActs returns true on every schedule, without a data race, and its arguments read afterwards as before; where two of Go's tables start as the program's text lays them. No further condition. -/
import Derived.Test.YtbppbacfffndaaaGreatDoorC8
import Derived.Test.YtbppbacfffndaaaGreatDoorC9
set_option linter.all false
open Go.Proofs.Tryz renaming prog->wy,checked->wS,f4->xf,func4->AT
open Option.some renaming inj->zS
open Go.Proofs.YtbppbacfffndaaaGreatDoor.Rows renaming roundActsSpec->BP
open Go renaming laidMetH->C8
open Go.ChangeSpec renaming witness_shaped->Ez
open Go.MakeChecks renaming laidMetH_plain->EX
namespace Go.Proofs.YtbppbacfffndaaaGreatDoor
open Go.Abs Go.ChangeShapes Go.RowKit Go.WideShapes
section
local instance:Abs.Dr:= ⟨false⟩
theorem roundActs_lifted(os:Os)(i:os.Started)(H:Type)(enc:TypeId×Value->H):
 ReturnsInLeavingWide {} wS os 4 .any (λ w args=>(Rows.roundActsSpec.pre enc wy xf Rows.roundActsRow.domain false w args/\C8 wy Rows.roundActsRow.laid w)/\sizedMet enc wy xf (OpenSpec.ofChange BP) false w args)
  (Rows.roundActsSpec.post enc wy xf false true false false):=by
 refine Go.Rs.ab6 (C:=wS) (X:=λ w _=>C8 wy Rows.roundActsRow.laid w) (λ _ _ _ e h=>h.of_heap e) rfl (f:=4) (r:=6) (fn:=xf) (s:=BP) (Ts:= [25,28,46]) (tb:=4) (nn:=12) (ins:=(R.ae7 0).c) (g:=λ n x=>R.s4 n x.1 x.2.1 x.2.2) Go.Rs.acj i (by kernel_rfl) AT (Go.Rs.Jt AT (by kernel_rfl) (by decide)) (by decide) (by kernel_rfl) (by kernel_rfl)
  (Ez (enc:=enc) (C:=wS) (os:=os) (X:=λ w _=>C8 wy Rows.roundActsRow.laid w) false (World.laidAll wy os Rows.roundActsRow.laid) #[.agg #[.slice none 0 0,.slice none 0 0],.agg #[.slice none 0 0,.slice none 0 0],.slice none 0 0] 8 (World.laidAll_os _ _ _)
   (World.shaped_of_ZipB (by kernel_rfl) (by kernel_rfl)) (by kernel_rfl) (by kernel_rfl) (by kernel_rfl)
   (by rw[EX _ _ _ (by kernel_rfl)];exact laidMet_laidAll _ (by kernel_rfl) (by kernel_rfl)))
  (by kernel_rfl) (by kernel_rfl) (by kernel_rfl) Go.Rs.RY Go.Rs.V2 (by kernel_rfl) (by kernel_rfl) (by kernel_rfl) rfl (λ d h=>?_) (λ n=>R.ahM n) (λ x _=> ⟨0+2000,R.akE 0 x.1 x.2.1 x.2.2⟩)
 match d,h with
 | [a,b,c],_=>rfl
theorem roundActs_holds:Rows.RoundActsSaid:=
 OpenClaim.holds_of_wide_leaving 4 xf rfl rfl rfl rfl rfl rfl rfl ⟨rfl,rfl,rfl,rfl,rfl⟩ rfl rfl rfl rfl rfl (by kernel_rfl) AT (by unfold joinedFacts;rw[i1,i2,i3,i4,show laidOutB Tryz.pinned.checked.prog=true from Go.Rs.RY,i6,i7,i8];kernel_rfl)
  (of_decide_eq_true (by kernel_rfl)) (by unfold Func.isWrapper;first| (rw[if_pos (by decide+kernel)];kernel_rfl)| (rw[if_neg (by decide+kernel)];exact⟨rfl,rfl⟩))
  (λ os a H enc _=>roundActs_lifted os a H enc)
end
section
local instance:Abs.Dr:= ⟨false⟩
theorem roundActs_card:Rows.RoundActsCardSaid:=
 Rs.ajf .later [.data,.pinned] true (true,"a6ae03c699be718f40ee4a3edf2a1af2bd4942371d156b56abf5ee72d641c4f3") false true roundActs_holds c1 roundActs_row_tie rfl ⟨rfl,rfl⟩ c2 rfl
  (λ f fn c d=>by
   obtain rfl:f=4:=zS ((show Tryz.prog.funcNamed "criadera/criaderalaw09.RoundActs" =some 4 by kernel_rfl).symm.trans c)|>.symm;obtain rfl:fn=Tryz.f4:=(zS (Tryz.func4.symm.trans d)).symm;exact⟨c4,λ j t a=>by
    rw[Tryz.params4]at a;have e:t∈[25,28,46]:=by simpa using Array.mem_of_getElem? a
    have b:([25,28,46].all λ u=>!Tryz.prog.wantsStandIn u)=true:=by kernel_rfl
    exact(show Tryz.prog.wantsStandIn t=false by simpa using List.all_eq_true.1 b t e)⟩)
  c3
end
end Go.Proofs.YtbppbacfffndaaaGreatDoor
