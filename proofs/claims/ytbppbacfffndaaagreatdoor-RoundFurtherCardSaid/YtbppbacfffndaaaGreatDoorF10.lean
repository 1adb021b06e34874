/- For every input: criaderalaw09.RoundFurther returns true on every schedule, without a data race, and its arguments read afterwards as before; where two of Go's tables start as the program's text lays them. No further condition. -/
import Derived.Test.YtbppbacfffndaaaGreatDoorF8
import Derived.Test.YtbppbacfffndaaaGreatDoorF9
set_option linter.all false
open Go.Proofs.Tryz renaming prog->fH,checked->ov,f8->o5,func8->u5
open Option.some renaming inj->o7
open Go.Proofs.YtbppbacfffndaaaGreatDoor.Rows renaming roundFurtherSpec->r8
open Go renaming laidMetH->u6
open Go.ChangeSpec renaming witness_shaped->u7
open Go.MakeChecks renaming laidMetH_plain->u9
namespace Go.Proofs.YtbppbacfffndaaaGreatDoor
open Go.Abs Go.ChangeShapes Go.RowKit Go.WideShapes
section
local instance:Abs.Dr:= ⟨false⟩
theorem roundFurther_lifted(os:Os)(i:os.Started)(H:Type)(enc:TypeId×Value->H):
 ReturnsInLeavingWide {} ov os 8 .any (λ w args=>(Rows.roundFurtherSpec.pre enc fH o5 Rows.roundFurtherRow.domain false w args/\u6 fH Rows.roundFurtherRow.laid w)/\sizedMet enc fH o5 (OpenSpec.ofChange r8) false w args)
  (Rows.roundFurtherSpec.post enc fH o5 false true false false):=by
 refine Go.Rs.ab6 (C:=ov) (X:=λ w _=>u6 fH Rows.roundFurtherRow.laid w) (λ _ _ _ e h=>h.of_heap e) rfl (f:=8) (r:=6) (fn:=o5) (s:=r8) (Ts:= [25,30,3]) (tb:=4) (nn:=12) (ins:=(R.SL 0).c) (g:=λ n x=>R.s8 n x.1 x.2.1 x.2.2) Go.Rs.acj i (by kernel_rfl) u5 (Go.Rs.Jt u5 (by kernel_rfl) (by decide)) (by decide) (by kernel_rfl) (by kernel_rfl)
  (u7 (enc:=enc) (C:=ov) (os:=os) (X:=λ w _=>u6 fH Rows.roundFurtherRow.laid w) false (World.laidAll fH os Rows.roundFurtherRow.laid) #[.agg #[.slice none 0 0,.slice none 0 0],.agg #[.slice none 0 0,.slice none 0 0,.slice none 0 0,.slice none 0 0],.int .i64 0] 8 (World.laidAll_os _ _ _)
   (World.shaped_of_ZipB (by kernel_rfl) (by kernel_rfl)) (by kernel_rfl) (by kernel_rfl) (by kernel_rfl)
   (by rw[u9 _ _ _ (by kernel_rfl)];exact laidMet_laidAll _ (by kernel_rfl) (by kernel_rfl)))
  (by kernel_rfl) (by kernel_rfl) (by kernel_rfl) Go.Rs.RY Go.Rs.V2 (by kernel_rfl) (by kernel_rfl) (by kernel_rfl) rfl (λ d h=>?_) (λ n=>R.adH n) (λ x _=> ⟨0+200000,R.alM 0 x.1 x.2.1 x.2.2⟩)
 match d,h with
 | [a,b,c],_=>rfl
theorem roundFurther_holds:Rows.RoundFurtherSaid:=
 OpenClaim.holds_of_wide_leaving 8 o5 rfl rfl rfl rfl rfl rfl rfl ⟨rfl,rfl,rfl,rfl,rfl⟩ rfl rfl rfl rfl rfl (by kernel_rfl) u5 (by unfold joinedFacts;rw[i1,i2,i3,i4,show laidOutB Tryz.pinned.checked.prog=true from Go.Rs.RY,i6,i7,i8];kernel_rfl)
  (of_decide_eq_true (by kernel_rfl)) (by unfold Func.isWrapper;first| (rw[if_pos (by decide+kernel)];kernel_rfl)| (rw[if_neg (by decide+kernel)];exact⟨rfl,rfl⟩))
  (λ os a H enc _=>roundFurther_lifted os a H enc)
end
section
local instance:Abs.Dr:= ⟨false⟩
theorem roundFurther_card:Rows.RoundFurtherCardSaid:=
 Rs.ajf .later [.data,.pinned] true (true,"a6ae03c699be718f40ee4a3edf2a1af2bd4942371d156b56abf5ee72d641c4f3") false true roundFurther_holds c1 roundFurther_row_tie rfl ⟨rfl,rfl⟩ c2 rfl
  (λ f fn c d=>by
   obtain rfl:f=8:=o7 ((show Tryz.prog.funcNamed "criadera/criaderalaw09.RoundFurther" =some 8 by kernel_rfl).symm.trans c)|>.symm;obtain rfl:fn=Tryz.f8:=(o7 (Tryz.func8.symm.trans d)).symm;exact⟨c4,λ j t a=>by
    rw[Tryz.params8]at a;have e:t∈[25,30,3]:=by simpa using Array.mem_of_getElem? a
    have b:([25,30,3].all λ u=>!Tryz.prog.wantsStandIn u)=true:=by kernel_rfl
    exact(show Tryz.prog.wantsStandIn t=false by simpa using List.all_eq_true.1 b t e)⟩)
  c3
end
end Go.Proofs.YtbppbacfffndaaaGreatDoor
