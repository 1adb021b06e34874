/- For every input: criaderalaw09.RoundPlants returns true on every schedule, without a data race, and its arguments read afterwards as before; where two of Go's tables start as the program's text lays them. No further condition. -/
import Derived.Test.YtbppbacfffndaaaGreatDoorP8
import Derived.Test.YtbppbacfffndaaaGreatDoorP9
set_option linter.all false
open Go.Proofs.Tryz renaming prog->b2,checked->ea,f6->eb,func6->eg
open Option.some renaming inj->ee
open Go.Proofs.YtbppbacfffndaaaGreatDoor.Rows renaming roundPlantsSpec->ef
open Go renaming laidMetH->ei
open Go.ChangeSpec renaming witness_shaped->ej
open Go.MakeChecks renaming laidMetH_plain->en
namespace Go.Proofs.YtbppbacfffndaaaGreatDoor
open Go.Abs Go.ChangeShapes Go.RowKit Go.WideShapes
section
local instance:Abs.Dr:= ⟨false⟩
theorem roundPlants_lifted(os:Os)(i:os.Started)(H:Type)(enc:TypeId×Value->H):
 ReturnsInLeavingWide {} ea os 6 .any (λ w args=>(Rows.roundPlantsSpec.pre enc b2 eb Rows.roundPlantsRow.domain false w args/\ei b2 Rows.roundPlantsRow.laid w)/\sizedMet enc b2 eb (OpenSpec.ofChange ef) false w args)
  (Rows.roundPlantsSpec.post enc b2 eb false true false false):=by
 refine Go.Rs.ab6 (C:=ea) (X:=λ w _=>ei b2 Rows.roundPlantsRow.laid w) (λ _ _ _ e h=>h.of_heap e) rfl (f:=6) (r:=6) (fn:=eb) (s:=ef) (Ts:= [25,28,3]) (tb:=4) (nn:=12) (ins:=(R.aaE 0).c) (g:=λ n x=>R.s6 n x.1 x.2.1 x.2.2) Go.Rs.acj i (by kernel_rfl) eg (Go.Rs.Jt eg (by kernel_rfl) (by decide)) (by decide) (by kernel_rfl) (by kernel_rfl)
  (ej (enc:=enc) (C:=ea) (os:=os) (X:=λ w _=>ei b2 Rows.roundPlantsRow.laid w) false (World.laidAll b2 os Rows.roundPlantsRow.laid) #[.agg #[.slice none 0 0,.slice none 0 0],.agg #[.slice none 0 0,.slice none 0 0],.int .i64 0] 8 (World.laidAll_os _ _ _)
   (World.shaped_of_ZipB (by kernel_rfl) (by kernel_rfl)) (by kernel_rfl) (by kernel_rfl) (by kernel_rfl)
   (by rw[en _ _ _ (by kernel_rfl)];exact laidMet_laidAll _ (by kernel_rfl) (by kernel_rfl)))
  (by kernel_rfl) (by kernel_rfl) (by kernel_rfl) Go.Rs.RY Go.Rs.V2 (by kernel_rfl) (by kernel_rfl) (by kernel_rfl) rfl (λ d h=>?_) (λ n=>R.abw n) (λ x _=> ⟨0+2000,R.ac8 0 x.1 x.2.1 x.2.2⟩)
 match d,h with
 | [a,b,c],_=>rfl
theorem roundPlants_holds:Rows.RoundPlantsSaid:=
 OpenClaim.holds_of_wide_leaving 6 eb rfl rfl rfl rfl rfl rfl rfl ⟨rfl,rfl,rfl,rfl,rfl⟩ rfl rfl rfl rfl rfl (by kernel_rfl) eg (by unfold joinedFacts;rw[i1,i2,i3,i4,show laidOutB Tryz.pinned.checked.prog=true from Go.Rs.RY,i6,i7,i8];kernel_rfl)
  (of_decide_eq_true (by kernel_rfl)) (by unfold Func.isWrapper;first| (rw[if_pos (by decide+kernel)];kernel_rfl)| (rw[if_neg (by decide+kernel)];exact⟨rfl,rfl⟩))
  (λ os a H enc _=>roundPlants_lifted os a H enc)
end
section
local instance:Abs.Dr:= ⟨false⟩
theorem roundPlants_card:Rows.RoundPlantsCardSaid:=
 Rs.ajf .later [.data,.pinned] true (true,"a6ae03c699be718f40ee4a3edf2a1af2bd4942371d156b56abf5ee72d641c4f3") false true roundPlants_holds c1 roundPlants_row_tie rfl ⟨rfl,rfl⟩ c2 rfl
  (λ f fn c d=>by
   obtain rfl:f=6:=ee ((show Tryz.prog.funcNamed "criadera/criaderalaw09.RoundPlants" =some 6 by kernel_rfl).symm.trans c)|>.symm;obtain rfl:fn=Tryz.f6:=(ee (Tryz.func6.symm.trans d)).symm;exact⟨c4,λ j t a=>by
    rw[Tryz.params6]at a;have e:t∈[25,28,3]:=by simpa using Array.mem_of_getElem? a
    have b:([25,28,3].all λ u=>!Tryz.prog.wantsStandIn u)=true:=by kernel_rfl
    exact(show Tryz.prog.wantsStandIn t=false by simpa using List.all_eq_true.1 b t e)⟩)
  c3
end
end Go.Proofs.YtbppbacfffndaaaGreatDoor
