/- For every input: criaderalaw09.RoundClosed returns true on every schedule, without a data race, and its arguments read afterwards as before; where two of Go's tables start as the program's text lays them. No further condition. -/
import Derived.Test.YtbppbacfffndaaaGreatDoorQc8
import Derived.Test.YtbppbacfffndaaaGreatDoorQc9
set_option linter.all false
open Go.Proofs.Tryz renaming prog->b2,f13->cr,checked->df,func13->dr
open Option.some renaming inj->dk
open Go.Proofs.YtbppbacfffndaaaGreatDoor.Rows renaming roundClosedSpec->ea
open Go renaming laidMetH->eb
open Go.ChangeSpec renaming witness_shaped->ee
open Go.MakeChecks renaming laidMetH_plain->ef
namespace Go.Proofs.YtbppbacfffndaaaGreatDoor
open Go.Abs Go.ChangeShapes Go.RowKit Go.WideShapes
section
local instance:Abs.Dr:= ⟨false⟩
theorem roundClosed_lifted(os:Os)(i:os.Started)(H:Type)(enc:TypeId×Value->H):
 ReturnsInLeavingWide {} df os 13 .any (λ w args=>(Rows.roundClosedSpec.pre enc b2 cr Rows.roundClosedRow.domain false w args/\eb b2 Rows.roundClosedRow.laid w)/\sizedMet enc b2 cr (OpenSpec.ofChange ea) false w args)
  (Rows.roundClosedSpec.post enc b2 cr false true false false):=by
 refine Go.Rs.ab6 (C:=df) (X:=λ w _=>eb b2 Rows.roundClosedRow.laid w) (λ _ _ _ e h=>h.of_heap e) rfl (f:=13) (r:=6) (fn:=cr) (s:=ea) (Ts:= [25,30,114]) (tb:=4) (nn:=12) (ins:=(R.ajS 0).c) (g:=λ n x=>R.s13 n x.1 x.2.1 x.2.2) Go.Rs.acj i (by kernel_rfl) dr (Go.Rs.Jt dr (by kernel_rfl) (by decide)) (by decide) (by kernel_rfl) (by kernel_rfl)
  (ee (enc:=enc) (C:=df) (os:=os) (X:=λ w _=>eb b2 Rows.roundClosedRow.laid w) false (World.laidAll b2 os Rows.roundClosedRow.laid) #[.agg #[.slice none 0 0,.slice none 0 0],.agg #[.slice none 0 0,.slice none 0 0,.slice none 0 0,.slice none 0 0],.agg #[.slice none 0 0,.int .i64 0,.slice none 0 0]] 8 (World.laidAll_os _ _ _)
   (World.shaped_of_ZipB (by kernel_rfl) (by kernel_rfl)) (by kernel_rfl) (by kernel_rfl) (by kernel_rfl)
   (by rw[ef _ _ _ (by kernel_rfl)];exact laidMet_laidAll _ (by kernel_rfl) (by kernel_rfl)))
  (by kernel_rfl) (by kernel_rfl) (by kernel_rfl) Go.Rs.RY Go.Rs.V2 (by kernel_rfl) (by kernel_rfl) (by kernel_rfl) rfl (λ d h=>?_) (λ n=>R.amF n) (λ x _=> ⟨0+2000,R.anh 0 x.1 x.2.1 x.2.2⟩)
 match d,h with
 | [a,b,c],_=>rfl
theorem roundClosed_holds:Rows.RoundClosedSaid:=
 OpenClaim.holds_of_wide_leaving 13 cr rfl rfl rfl rfl rfl rfl rfl ⟨rfl,rfl,rfl,rfl,rfl⟩ rfl rfl rfl rfl rfl (by kernel_rfl) dr (by unfold joinedFacts;rw[i1,i2,i3,i4,show laidOutB Tryz.pinned.checked.prog=true from Go.Rs.RY,i6,i7,i8];kernel_rfl)
  (of_decide_eq_true (by kernel_rfl)) (by unfold Func.isWrapper;first| (rw[if_pos (by decide+kernel)];kernel_rfl)| (rw[if_neg (by decide+kernel)];exact⟨rfl,rfl⟩))
  (λ os a H enc _=>roundClosed_lifted os a H enc)
end
section
local instance:Abs.Dr:= ⟨false⟩
theorem roundClosed_card:Rows.RoundClosedCardSaid:=
 Rs.ajf .later [.data,.pinned] true (true,"a6ae03c699be718f40ee4a3edf2a1af2bd4942371d156b56abf5ee72d641c4f3") false true roundClosed_holds c1 roundClosed_row_tie rfl ⟨rfl,rfl⟩ c2 rfl
  (λ f fn c d=>by
   obtain rfl:f=13:=dk ((show Tryz.prog.funcNamed "criadera/criaderalaw09.RoundClosed" =some 13 by kernel_rfl).symm.trans c)|>.symm;obtain rfl:fn=Tryz.f13:=(dk (Tryz.func13.symm.trans d)).symm;exact⟨c4,λ j t a=>by
    rw[Tryz.params13]at a;have e:t∈[25,30,114]:=by simpa using Array.mem_of_getElem? a
    have b:([25,30,114].all λ u=>!Tryz.prog.wantsStandIn u)=true:=by kernel_rfl
    exact(show Tryz.prog.wantsStandIn t=false by simpa using List.all_eq_true.1 b t e)⟩)
  c3
end
end Go.Proofs.YtbppbacfffndaaaGreatDoor
