/- For every input: criaderalaw09.RoundTasks returns true on every schedule, without a data race, and its arguments read afterwards as before; where two of Go's tables start as the program's text lays them. No further condition. -/
import Derived.Test.YtbppbacfffndaaaGreatDoorJ8
import Derived.Test.YtbppbacfffndaaaGreatDoorJ9
set_option linter.all false
namespace Go.Proofs.YtbppbacfffndaaaGreatDoor
open Go.Abs Go.ChangeShapes Go.RowKit Go.WideShapes
section
local instance:Abs.Dr:= ⟨false⟩
theorem roundTasks_lifted(os:Os)(i:os.Started)(H:Type)(enc:TypeId×Value->H):
 ReturnsInLeavingWide {} Tryz.checked os 3 .any (λ w args=>(Rows.roundTasksSpec.pre enc Tryz.prog Tryz.f3 Rows.roundTasksRow.domain false w args/\laidMetH Tryz.prog Rows.roundTasksRow.laid w)/\sizedMet enc Tryz.prog Tryz.f3 (OpenSpec.ofChange Rows.roundTasksSpec) false w args)
  (Rows.roundTasksSpec.post enc Tryz.prog Tryz.f3 false true false false):=by
 refine Go.Rs.ab6 (C:=Tryz.checked) (X:=λ w _=>laidMetH Tryz.prog Rows.roundTasksRow.laid w) (λ _ _ _ e h=>h.of_heap e) rfl (f:=3) (r:=6) (fn:=Tryz.f3) (s:=Rows.roundTasksSpec) (Ts:= [25,30,28]) (tb:=4) (nn:=12) (ins:=(R.BP 0).c) (g:=λ n x=>R.s3 n x.1 x.2.1 x.2.2) Go.Rs.acj i (by kernel_rfl) Tryz.func3 (Go.Rs.Jt Tryz.func3 (by kernel_rfl) (by decide)) (by decide) (by kernel_rfl) (by kernel_rfl)
  (ChangeSpec.witness_shaped (enc:=enc) (C:=Tryz.checked) (os:=os) (X:=λ w _=>laidMetH Tryz.prog Rows.roundTasksRow.laid w) false (World.laidAll Tryz.prog os Rows.roundTasksRow.laid) #[.agg #[.slice none 0 0,.slice none 0 0],.agg #[.slice none 0 0,.slice none 0 0,.slice none 0 0,.slice none 0 0],.agg #[.slice none 0 0,.slice none 0 0]] 8 (World.laidAll_os _ _ _)
   (World.shaped_of_ZipB (by kernel_rfl) (by kernel_rfl)) (by kernel_rfl) (by kernel_rfl) (by kernel_rfl)
   (by rw[MakeChecks.laidMetH_plain _ _ _ (by kernel_rfl)];exact laidMet_laidAll _ (by kernel_rfl) (by kernel_rfl)))
  (by kernel_rfl) (by kernel_rfl) (by kernel_rfl) Go.Rs.RY Go.Rs.V2 (by kernel_rfl) (by kernel_rfl) (by kernel_rfl) rfl (λ d h=>?_) (λ n=>R.Tl n) (λ x _=> ⟨0+2000,R.ahc 0 x.1 x.2.1 x.2.2⟩)
 match d,h with
 | [a,b,c],_=>rfl
theorem roundTasks_holds:Rows.RoundTasksSaid:=
 OpenClaim.holds_of_wide_leaving 3 Tryz.f3 rfl rfl rfl rfl rfl rfl rfl ⟨rfl,rfl,rfl,rfl,rfl⟩ rfl rfl rfl rfl rfl (by kernel_rfl) Tryz.func3 (by unfold joinedFacts;rw[i1,i2,i3,i4,show laidOutB Tryz.pinned.checked.prog=true from Go.Rs.RY,i6,i7,i8];kernel_rfl)
  (of_decide_eq_true (by kernel_rfl)) (by unfold Func.isWrapper;first| (rw[if_pos (by decide+kernel)];kernel_rfl)| (rw[if_neg (by decide+kernel)];exact⟨rfl,rfl⟩))
  (λ os a H enc _=>roundTasks_lifted os a H enc)
end
section
local instance:Abs.Dr:= ⟨false⟩
theorem roundTasks_card:Rows.RoundTasksCardSaid:=
 Rs.ajf .later [.data,.pinned] true (true,"a6ae03c699be718f40ee4a3edf2a1af2bd4942371d156b56abf5ee72d641c4f3") false true roundTasks_holds c1 roundTasks_row_tie rfl ⟨rfl,rfl⟩ c2 rfl
  (λ f fn c d=>by
   obtain rfl:f=3:=Option.some.inj ((show Tryz.prog.funcNamed "criadera/criaderalaw09.RoundTasks" =some 3 by kernel_rfl).symm.trans c)|>.symm;obtain rfl:fn=Tryz.f3:=(Option.some.inj (Tryz.func3.symm.trans d)).symm;exact⟨c4,λ j t a=>by
    rw[Tryz.params3]at a;have e:t∈[25,30,28]:=by simpa using Array.mem_of_getElem? a
    have b:([25,30,28].all λ u=>!Tryz.prog.wantsStandIn u)=true:=by kernel_rfl
    exact(show Tryz.prog.wantsStandIn t=false by simpa using List.all_eq_true.1 b t e)⟩)
  c3
end
end Go.Proofs.YtbppbacfffndaaaGreatDoor
