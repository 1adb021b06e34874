/- Part of a proof that the statement holds. No conditions. -/
import Derived.Test.YtbppbacfffndaaaGreatDoorTie
import Derived.Test.YtbppbacfffndaaaGreatDoorCards
import Derived.ProofKit
import Derived.OpenShut
import Derived.LaidMore
import Derived.Lay
import Derived.SevenTiedAt
import Derived.Stop.Joined
import Derived.Conc.Holds
set_option linter.all false
namespace Go.Proofs.YtbppbacfffndaaaGreatDoor
open Go.ChangeShapes Go.RowKit Go.WideShapes
theorem i1:Tryz.pinned.checked.prog.inPlace 15=Rows.roundNoWayRow.inPlace:=by kernel_rfl
theorem i2:Tryz.pinned.checked.prog.unfollowed 15=Rows.roundNoWayRow.unfollowed:=by kernel_rfl
theorem i3:Tryz.pinned.checked.prog.recurses 15=Rows.roundNoWayRow.recurses:=by kernel_rfl
theorem i4:Tryz.pinned.checked.prog.varsNamed 15=Rows.roundNoWayRow.named:=by kernel_rfl
theorem i6:Tryz.pinned.checked.prog.mayEnter=true:=by kernel_rfl
theorem i7:Tryz.pinned.checked.prog.liftsFinal=Rows.roundNoWayRow.lifted:=by kernel_rfl
theorem i8:Tryz.pinned.checked.prog.make=some Rows.roundNoWayRow.make:=by kernel_rfl
theorem c1:Rows.roundNoWayRow.wfByText (OpenSpec.ofChange Rows.roundNoWaySpec)=true:=by kernel_rfl
theorem c2:Tryz.pinned.checked.prog.mainIs=some (true, "a6ae03c699be718f40ee4a3edf2a1af2bd4942371d156b56abf5ee72d641c4f3".toList):=by kernel_rfl
theorem c3:true=Rows.roundNoWayRow.goesBy Tryz.pinned.checked.prog:=by kernel_rfl
theorem c4:false=Tryz.pinned.checked.prog.looks []:=by kernel_rfl
end Go.Proofs.YtbppbacfffndaaaGreatDoor
