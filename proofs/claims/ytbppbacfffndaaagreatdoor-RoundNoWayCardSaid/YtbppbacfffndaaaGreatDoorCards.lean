/-
  DERIVED. GIVEN WITH THE SEED: THE CARDS: each row of YtbppbacfffndaaaGreatDoorRows.lean that lists a variable, with what it lists TIED to the program's text (the seventh form; the later family's looks); each row that meets fmt, with fmt's text TOLD by the authors' own Lean function (tested against real Go, not proved from fmt's source: count such statements apart). THE CARD IS WHAT COUNTS. Prove the row's statement (the work); the ties are given (YtbppbacfffndaaaGreatDoorTie.lean); close each card by the builder's one call (the guide's Derived/Test/ToyasCard.lean, 'card_holds'). Laid BY PROGRAM, IN A SANDBOX (cutbox-door.mjs). By AI agents, Wed Nov 11 2026. No macro, syntax, notation, axiom, sorry.
-/
import Derived.Test.YtbppbacfffndaaaGreatDoorRows
import GoSem.ClaimSeven
namespace Go.Proofs.YtbppbacfffndaaaGreatDoor
namespace Rows

/-- THE TIED CARD OF 'criaderalaw09.RoundTasks'. -/
def roundTasksCard : Claim7 := { stood := { row := roundTasksRow, standIns := [], harness := (true, "a6ae03c699be718f40ee4a3edf2a1af2bd4942371d156b56abf5ee72d641c4f3"), looks := false }, kinds := [], alts := [], goes := true, laidByText := true, laidKinds := [.data, .pinned], laidTests := true, laidLooks := .later }
def RoundTasksCardSaid : Prop := Claim7.holds Tryz.pinned (.plain (OpenSpec.ofChange roundTasksSpec)) roundTasksCard

/-- THE TIED CARD OF 'criaderalaw09.RoundActs'. -/
def roundActsCard : Claim7 := { stood := { row := roundActsRow, standIns := [], harness := (true, "a6ae03c699be718f40ee4a3edf2a1af2bd4942371d156b56abf5ee72d641c4f3"), looks := false }, kinds := [], alts := [], goes := true, laidByText := true, laidKinds := [.data, .pinned], laidTests := true, laidLooks := .later }
def RoundActsCardSaid : Prop := Claim7.holds Tryz.pinned (.plain (OpenSpec.ofChange roundActsSpec)) roundActsCard

/-- THE TIED CARD OF 'criaderalaw09.RoundApplies'. -/
def roundAppliesCard : Claim7 := { stood := { row := roundAppliesRow, standIns := [], harness := (true, "a6ae03c699be718f40ee4a3edf2a1af2bd4942371d156b56abf5ee72d641c4f3"), looks := false }, kinds := [], alts := [], goes := true, laidByText := true, laidKinds := [.data, .pinned], laidTests := true, laidLooks := .later }
def RoundAppliesCardSaid : Prop := Claim7.holds Tryz.pinned (.plain (OpenSpec.ofChange roundAppliesSpec)) roundAppliesCard

/-- THE TIED CARD OF 'criaderalaw09.RoundPlants'. -/
def roundPlantsCard : Claim7 := { stood := { row := roundPlantsRow, standIns := [], harness := (true, "a6ae03c699be718f40ee4a3edf2a1af2bd4942371d156b56abf5ee72d641c4f3"), looks := false }, kinds := [], alts := [], goes := true, laidByText := true, laidKinds := [.data, .pinned], laidTests := true, laidLooks := .later }
def RoundPlantsCardSaid : Prop := Claim7.holds Tryz.pinned (.plain (OpenSpec.ofChange roundPlantsSpec)) roundPlantsCard

/-- THE TIED CARD OF 'criaderalaw09.RoundRuns'. -/
def roundRunsCard : Claim7 := { stood := { row := roundRunsRow, standIns := [], harness := (true, "a6ae03c699be718f40ee4a3edf2a1af2bd4942371d156b56abf5ee72d641c4f3"), looks := false }, kinds := [], alts := [], goes := true, laidByText := true, laidKinds := [.data, .pinned], laidTests := true, laidLooks := .later }
def RoundRunsCardSaid : Prop := Claim7.holds Tryz.pinned (.plain (OpenSpec.ofChange roundRunsSpec)) roundRunsCard

/-- THE TIED CARD OF 'criaderalaw09.RoundFurther'. -/
def roundFurtherCard : Claim7 := { stood := { row := roundFurtherRow, standIns := [], harness := (true, "a6ae03c699be718f40ee4a3edf2a1af2bd4942371d156b56abf5ee72d641c4f3"), looks := false }, kinds := [], alts := [], goes := true, laidByText := true, laidKinds := [.data, .pinned], laidTests := true, laidLooks := .later }
def RoundFurtherCardSaid : Prop := Claim7.holds Tryz.pinned (.plain (OpenSpec.ofChange roundFurtherSpec)) roundFurtherCard

/-- THE TIED CARD OF 'criaderalaw09.RoundSpills'. -/
def roundSpillsCard : Claim7 := { stood := { row := roundSpillsRow, standIns := [], harness := (true, "a6ae03c699be718f40ee4a3edf2a1af2bd4942371d156b56abf5ee72d641c4f3"), looks := false }, kinds := [], alts := [], goes := true, laidByText := true, laidKinds := [.data, .pinned], laidTests := true, laidLooks := .later }
def RoundSpillsCardSaid : Prop := Claim7.holds Tryz.pinned (.plain (OpenSpec.ofChange roundSpillsSpec)) roundSpillsCard

/-- THE TIED CARD OF 'criaderalaw09.RoundTexts'. -/
def roundTextsCard : Claim7 := { stood := { row := roundTextsRow, standIns := [], harness := (true, "a6ae03c699be718f40ee4a3edf2a1af2bd4942371d156b56abf5ee72d641c4f3"), looks := false }, kinds := [], alts := [], goes := true, laidByText := true, laidKinds := [.data, .pinned], laidTests := true, laidLooks := .later }
def RoundTextsCardSaid : Prop := Claim7.holds Tryz.pinned (.plain (OpenSpec.ofChange roundTextsSpec)) roundTextsCard

/-- THE TIED CARD OF 'criaderalaw09.RoundProofs'. -/
def roundProofsCard : Claim7 := { stood := { row := roundProofsRow, standIns := [], harness := (true, "a6ae03c699be718f40ee4a3edf2a1af2bd4942371d156b56abf5ee72d641c4f3"), looks := false }, kinds := [], alts := [], goes := true, laidByText := true, laidKinds := [.data, .pinned], laidTests := true, laidLooks := .later }
def RoundProofsCardSaid : Prop := Claim7.holds Tryz.pinned (.plain (OpenSpec.ofChange roundProofsSpec)) roundProofsCard

/-- THE TIED CARD OF 'criaderalaw09.RoundFewest'. -/
def roundFewestCard : Claim7 := { stood := { row := roundFewestRow, standIns := [], harness := (true, "a6ae03c699be718f40ee4a3edf2a1af2bd4942371d156b56abf5ee72d641c4f3"), looks := false }, kinds := [], alts := [], goes := true, laidByText := true, laidKinds := [.data, .pinned], laidTests := true, laidLooks := .later }
def RoundFewestCardSaid : Prop := Claim7.holds Tryz.pinned (.plain (OpenSpec.ofChange roundFewestSpec)) roundFewestCard

/-- THE TIED CARD OF 'criaderalaw09.RoundClosed'. -/
def roundClosedCard : Claim7 := { stood := { row := roundClosedRow, standIns := [], harness := (true, "a6ae03c699be718f40ee4a3edf2a1af2bd4942371d156b56abf5ee72d641c4f3"), looks := false }, kinds := [], alts := [], goes := true, laidByText := true, laidKinds := [.data, .pinned], laidTests := true, laidLooks := .later }
def RoundClosedCardSaid : Prop := Claim7.holds Tryz.pinned (.plain (OpenSpec.ofChange roundClosedSpec)) roundClosedCard

/-- THE TIED CARD OF 'criaderalaw09.RoundLayers'. -/
def roundLayersCard : Claim7 := { stood := { row := roundLayersRow, standIns := [], harness := (true, "a6ae03c699be718f40ee4a3edf2a1af2bd4942371d156b56abf5ee72d641c4f3"), looks := false }, kinds := [], alts := [], goes := true, laidByText := true, laidKinds := [.data, .pinned], laidTests := true, laidLooks := .later }
def RoundLayersCardSaid : Prop := Claim7.holds Tryz.pinned (.plain (OpenSpec.ofChange roundLayersSpec)) roundLayersCard

/-- THE TIED CARD OF 'criaderalaw09.RoundNoWay'. -/
def roundNoWayCard : Claim7 := { stood := { row := roundNoWayRow, standIns := [], harness := (true, "a6ae03c699be718f40ee4a3edf2a1af2bd4942371d156b56abf5ee72d641c4f3"), looks := false }, kinds := [], alts := [], goes := true, laidByText := true, laidKinds := [.data, .pinned], laidTests := true, laidLooks := .later }
def RoundNoWayCardSaid : Prop := Claim7.holds Tryz.pinned (.plain (OpenSpec.ofChange roundNoWaySpec)) roundNoWayCard

/-- THE TIED CARD OF 'criaderatop.TopRoundDay'. -/
def topRoundDayCard : Claim7 := { stood := { row := topRoundDayRow, standIns := [], harness := (true, "a6ae03c699be718f40ee4a3edf2a1af2bd4942371d156b56abf5ee72d641c4f3"), looks := false }, kinds := [], alts := [], goes := true, laidByText := true, laidKinds := [.data, .pinned], laidTests := true, laidLooks := .later }
def TopRoundDayCardSaid : Prop := Claim7.holds Tryz.pinned (.plain (OpenSpec.ofChange topRoundDaySpec)) topRoundDayCard

/-- THE SECOND FORM's CARD OF 'criaderalaw09.RoundTasks'. -/
def roundTasksUptoCard : Claim7 := { stood := { row := roundTasksUptoRow, standIns := [], harness := (true, "a6ae03c699be718f40ee4a3edf2a1af2bd4942371d156b56abf5ee72d641c4f3"), looks := false }, kinds := [], alts := [], goes := true, laidByText := true, laidKinds := [.data, .pinned], laidTests := true, laidLooks := .later }
def RoundTasksUptoCardSaid : Prop := Claim7.holds Tryz.pinned (.plain (OpenSpec.upto roundTasksSpec)) roundTasksUptoCard

/-- THE SECOND FORM's CARD OF 'criaderalaw09.RoundActs'. -/
def roundActsUptoCard : Claim7 := { stood := { row := roundActsUptoRow, standIns := [], harness := (true, "a6ae03c699be718f40ee4a3edf2a1af2bd4942371d156b56abf5ee72d641c4f3"), looks := false }, kinds := [], alts := [], goes := true, laidByText := true, laidKinds := [.data, .pinned], laidTests := true, laidLooks := .later }
def RoundActsUptoCardSaid : Prop := Claim7.holds Tryz.pinned (.plain (OpenSpec.upto roundActsSpec)) roundActsUptoCard

/-- THE SECOND FORM's CARD OF 'criaderalaw09.RoundApplies'. -/
def roundAppliesUptoCard : Claim7 := { stood := { row := roundAppliesUptoRow, standIns := [], harness := (true, "a6ae03c699be718f40ee4a3edf2a1af2bd4942371d156b56abf5ee72d641c4f3"), looks := false }, kinds := [], alts := [], goes := true, laidByText := true, laidKinds := [.data, .pinned], laidTests := true, laidLooks := .later }
def RoundAppliesUptoCardSaid : Prop := Claim7.holds Tryz.pinned (.plain (OpenSpec.upto roundAppliesSpec)) roundAppliesUptoCard

/-- THE SECOND FORM's CARD OF 'criaderalaw09.RoundPlants'. -/
def roundPlantsUptoCard : Claim7 := { stood := { row := roundPlantsUptoRow, standIns := [], harness := (true, "a6ae03c699be718f40ee4a3edf2a1af2bd4942371d156b56abf5ee72d641c4f3"), looks := false }, kinds := [], alts := [], goes := true, laidByText := true, laidKinds := [.data, .pinned], laidTests := true, laidLooks := .later }
def RoundPlantsUptoCardSaid : Prop := Claim7.holds Tryz.pinned (.plain (OpenSpec.upto roundPlantsSpec)) roundPlantsUptoCard

/-- THE SECOND FORM's CARD OF 'criaderalaw09.RoundRuns'. -/
def roundRunsUptoCard : Claim7 := { stood := { row := roundRunsUptoRow, standIns := [], harness := (true, "a6ae03c699be718f40ee4a3edf2a1af2bd4942371d156b56abf5ee72d641c4f3"), looks := false }, kinds := [], alts := [], goes := true, laidByText := true, laidKinds := [.data, .pinned], laidTests := true, laidLooks := .later }
def RoundRunsUptoCardSaid : Prop := Claim7.holds Tryz.pinned (.plain (OpenSpec.upto roundRunsSpec)) roundRunsUptoCard

/-- THE SECOND FORM's CARD OF 'criaderalaw09.RoundFurther'. -/
def roundFurtherUptoCard : Claim7 := { stood := { row := roundFurtherUptoRow, standIns := [], harness := (true, "a6ae03c699be718f40ee4a3edf2a1af2bd4942371d156b56abf5ee72d641c4f3"), looks := false }, kinds := [], alts := [], goes := true, laidByText := true, laidKinds := [.data, .pinned], laidTests := true, laidLooks := .later }
def RoundFurtherUptoCardSaid : Prop := Claim7.holds Tryz.pinned (.plain (OpenSpec.upto roundFurtherSpec)) roundFurtherUptoCard

/-- THE SECOND FORM's CARD OF 'criaderalaw09.RoundSpills'. -/
def roundSpillsUptoCard : Claim7 := { stood := { row := roundSpillsUptoRow, standIns := [], harness := (true, "a6ae03c699be718f40ee4a3edf2a1af2bd4942371d156b56abf5ee72d641c4f3"), looks := false }, kinds := [], alts := [], goes := true, laidByText := true, laidKinds := [.data, .pinned], laidTests := true, laidLooks := .later }
def RoundSpillsUptoCardSaid : Prop := Claim7.holds Tryz.pinned (.plain (OpenSpec.upto roundSpillsSpec)) roundSpillsUptoCard

/-- THE SECOND FORM's CARD OF 'criaderalaw09.RoundTexts'. -/
def roundTextsUptoCard : Claim7 := { stood := { row := roundTextsUptoRow, standIns := [], harness := (true, "a6ae03c699be718f40ee4a3edf2a1af2bd4942371d156b56abf5ee72d641c4f3"), looks := false }, kinds := [], alts := [], goes := true, laidByText := true, laidKinds := [.data, .pinned], laidTests := true, laidLooks := .later }
def RoundTextsUptoCardSaid : Prop := Claim7.holds Tryz.pinned (.plain (OpenSpec.upto roundTextsSpec)) roundTextsUptoCard

/-- THE SECOND FORM's CARD OF 'criaderalaw09.RoundProofs'. -/
def roundProofsUptoCard : Claim7 := { stood := { row := roundProofsUptoRow, standIns := [], harness := (true, "a6ae03c699be718f40ee4a3edf2a1af2bd4942371d156b56abf5ee72d641c4f3"), looks := false }, kinds := [], alts := [], goes := true, laidByText := true, laidKinds := [.data, .pinned], laidTests := true, laidLooks := .later }
def RoundProofsUptoCardSaid : Prop := Claim7.holds Tryz.pinned (.plain (OpenSpec.upto roundProofsSpec)) roundProofsUptoCard

/-- THE SECOND FORM's CARD OF 'criaderalaw09.RoundFewest'. -/
def roundFewestUptoCard : Claim7 := { stood := { row := roundFewestUptoRow, standIns := [], harness := (true, "a6ae03c699be718f40ee4a3edf2a1af2bd4942371d156b56abf5ee72d641c4f3"), looks := false }, kinds := [], alts := [], goes := true, laidByText := true, laidKinds := [.data, .pinned], laidTests := true, laidLooks := .later }
def RoundFewestUptoCardSaid : Prop := Claim7.holds Tryz.pinned (.plain (OpenSpec.upto roundFewestSpec)) roundFewestUptoCard

/-- THE SECOND FORM's CARD OF 'criaderalaw09.RoundClosed'. -/
def roundClosedUptoCard : Claim7 := { stood := { row := roundClosedUptoRow, standIns := [], harness := (true, "a6ae03c699be718f40ee4a3edf2a1af2bd4942371d156b56abf5ee72d641c4f3"), looks := false }, kinds := [], alts := [], goes := true, laidByText := true, laidKinds := [.data, .pinned], laidTests := true, laidLooks := .later }
def RoundClosedUptoCardSaid : Prop := Claim7.holds Tryz.pinned (.plain (OpenSpec.upto roundClosedSpec)) roundClosedUptoCard

/-- THE SECOND FORM's CARD OF 'criaderalaw09.RoundLayers'. -/
def roundLayersUptoCard : Claim7 := { stood := { row := roundLayersUptoRow, standIns := [], harness := (true, "a6ae03c699be718f40ee4a3edf2a1af2bd4942371d156b56abf5ee72d641c4f3"), looks := false }, kinds := [], alts := [], goes := true, laidByText := true, laidKinds := [.data, .pinned], laidTests := true, laidLooks := .later }
def RoundLayersUptoCardSaid : Prop := Claim7.holds Tryz.pinned (.plain (OpenSpec.upto roundLayersSpec)) roundLayersUptoCard

/-- THE SECOND FORM's CARD OF 'criaderalaw09.RoundNoWay'. -/
def roundNoWayUptoCard : Claim7 := { stood := { row := roundNoWayUptoRow, standIns := [], harness := (true, "a6ae03c699be718f40ee4a3edf2a1af2bd4942371d156b56abf5ee72d641c4f3"), looks := false }, kinds := [], alts := [], goes := true, laidByText := true, laidKinds := [.data, .pinned], laidTests := true, laidLooks := .later }
def RoundNoWayUptoCardSaid : Prop := Claim7.holds Tryz.pinned (.plain (OpenSpec.upto roundNoWaySpec)) roundNoWayUptoCard

/-- THE SECOND FORM's CARD OF 'criaderatop.TopRoundDay'. -/
def topRoundDayUptoCard : Claim7 := { stood := { row := topRoundDayUptoRow, standIns := [], harness := (true, "a6ae03c699be718f40ee4a3edf2a1af2bd4942371d156b56abf5ee72d641c4f3"), looks := false }, kinds := [], alts := [], goes := true, laidByText := true, laidKinds := [.data, .pinned], laidTests := true, laidLooks := .later }
def TopRoundDayUptoCardSaid : Prop := Claim7.holds Tryz.pinned (.plain (OpenSpec.upto topRoundDaySpec)) topRoundDayUptoCard
end Rows
end Go.Proofs.YtbppbacfffndaaaGreatDoor
