/- For every input: criaderalaw09.RoundSpills returns true on every schedule, without a data race, and its arguments read afterwards as before; where two of Go's tables start as the program's text lays them. No further condition. -/
import Derived.Test.YtbppbacfffndaaaGreatDoorS8
import Derived.Test.YtbppbacfffndaaaGreatDoorS9
set_option linter.all false
open Go.Proofs.Tryz renaming prog->kX,checked->qK,f9->rZ,func9->wS
open Option.some renaming inj->wy
open Go.Proofs.YtbppbacfffndaaaGreatDoor.Rows renaming roundSpillsSpec->wz
open Go renaming laidMetH->xf
open Go.ChangeSpec renaming witness_shaped->xl
open Go.MakeChecks renaming laidMetH_plain->xN
namespace Go.Proofs.YtbppbacfffndaaaGreatDoor
open Go.Abs Go.ChangeShapes Go.RowKit Go.WideShapes
section
local instance:Abs.Dr:= ⟨false⟩
theorem roundSpills_lifted(os:Os)(i:os.Started)(H:Type)(enc:TypeId×Value->H):
 ReturnsInLeavingWide {} qK os 9 .any (λ w args=>(Rows.roundSpillsSpec.pre enc kX rZ Rows.roundSpillsRow.domain false w args/\xf kX Rows.roundSpillsRow.laid w)/\sizedMet enc kX rZ (OpenSpec.ofChange wz) false w args)
  (Rows.roundSpillsSpec.post enc kX rZ false true false false):=by
 refine Go.Rs.ab6 (C:=qK) (X:=λ w _=>xf kX Rows.roundSpillsRow.laid w) (λ _ _ _ e h=>h.of_heap e) rfl (f:=9) (r:=6) (fn:=rZ) (s:=wz) (Ts:= [25,28,59]) (tb:=4) (nn:=12) (ins:=(R.adp 0).c) (g:=λ n x=>R.s9 n x.1 x.2.1 x.2.2) Go.Rs.acj i (by kernel_rfl) wS (Go.Rs.Jt wS (by kernel_rfl) (by decide)) (by decide) (by kernel_rfl) (by kernel_rfl)
  (xl (enc:=enc) (C:=qK) (os:=os) (X:=λ w _=>xf kX Rows.roundSpillsRow.laid w) false (World.laidAll kX os Rows.roundSpillsRow.laid) #[.agg #[.slice none 0 0,.slice none 0 0],.agg #[.slice none 0 0,.slice none 0 0],.slice none 0 0] 8 (World.laidAll_os _ _ _)
   (World.shaped_of_ZipB (by kernel_rfl) (by kernel_rfl)) (by kernel_rfl) (by kernel_rfl) (by kernel_rfl)
   (by rw[xN _ _ _ (by kernel_rfl)];exact laidMet_laidAll _ (by kernel_rfl) (by kernel_rfl)))
  (by kernel_rfl) (by kernel_rfl) (by kernel_rfl) Go.Rs.RY Go.Rs.V2 (by kernel_rfl) (by kernel_rfl) (by kernel_rfl) rfl (λ d h=>?_) (λ n=>R.ahM n) (λ x _=> ⟨0+2000,R.akr 0 x.1 x.2.1 x.2.2⟩)
 match d,h with
 | [a,b,c],_=>rfl
theorem roundSpills_holds:Rows.RoundSpillsSaid:=
 OpenClaim.holds_of_wide_leaving 9 rZ rfl rfl rfl rfl rfl rfl rfl ⟨rfl,rfl,rfl,rfl,rfl⟩ rfl rfl rfl rfl rfl (by kernel_rfl) wS (by unfold joinedFacts;rw[i1,i2,i3,i4,show laidOutB Tryz.pinned.checked.prog=true from Go.Rs.RY,i6,i7,i8];kernel_rfl)
  (of_decide_eq_true (by kernel_rfl)) (by unfold Func.isWrapper;first| (rw[if_pos (by decide+kernel)];kernel_rfl)| (rw[if_neg (by decide+kernel)];exact⟨rfl,rfl⟩))
  (λ os a H enc _=>roundSpills_lifted os a H enc)
end
section
local instance:Abs.Dr:= ⟨false⟩
theorem roundSpills_card:Rows.RoundSpillsCardSaid:=
 Rs.ajf .later [.data,.pinned] true (true,"a6ae03c699be718f40ee4a3edf2a1af2bd4942371d156b56abf5ee72d641c4f3") false true roundSpills_holds c1 roundSpills_row_tie rfl ⟨rfl,rfl⟩ c2 rfl
  (λ f fn c d=>by
   obtain rfl:f=9:=wy ((show Tryz.prog.funcNamed "criadera/criaderalaw09.RoundSpills" =some 9 by kernel_rfl).symm.trans c)|>.symm;obtain rfl:fn=Tryz.f9:=(wy (Tryz.func9.symm.trans d)).symm;exact⟨c4,λ j t a=>by
    rw[Tryz.params9]at a;have e:t∈[25,28,59]:=by simpa using Array.mem_of_getElem? a
    have b:([25,28,59].all λ u=>!Tryz.prog.wantsStandIn u)=true:=by kernel_rfl
    exact(show Tryz.prog.wantsStandIn t=false by simpa using List.all_eq_true.1 b t e)⟩)
  c3
end
end Go.Proofs.YtbppbacfffndaaaGreatDoor
