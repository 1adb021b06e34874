/-
  DERIVED. GIVEN WITH THE SEED: THE CARDS: each row of YtbcbiemjokpghaaDoorRows.lean that lists a variable, with what it lists TIED to the program's text (the seventh form; the later family's looks); each row that meets fmt, with fmt's text TOLD by the authors' own Lean function (tested against real Go, not proved from fmt's source: count such statements apart). THE CARD IS WHAT COUNTS. Prove the row's statement (the work); the ties are given (YtbcbiemjokpghaaDoorTie.lean); close each card by the builder's one call (the guide's Derived/Test/ToyasCard.lean, 'card_holds'). Laid BY PROGRAM, IN A SANDBOX (cutbox-door.mjs). By AI agents, Wed Nov 11 2026. No macro, syntax, notation, axiom, sorry.
-/
import Derived.Test.YtbcbiemjokpghaaDoorRows
import GoSem.ClaimSeven
namespace Go.Proofs.YtbcbiemjokpghaaDoor
namespace Rows

/-- THE TIED CARD OF 'criaderalaw07.TasteTexts'. -/
def tasteTextsCard : Claim7 := { stood := { row := tasteTextsRow, standIns := [], harness := (true, "ae02fd7e0ff1a2ab2b0816c87fb204dbfedbafcd77041e9d0f551aa4da4cc98f"), looks := false }, kinds := [], alts := [], laidByText := true, laidKinds := [.data, .pinned], laidTests := true, laidLooks := .later }
def TasteTextsCardSaid : Prop := Claim7.holds Tryd.pinned (.plain (OpenSpec.ofChange tasteTextsSpec)) tasteTextsCard

/-- THE SECOND FORM's CARD OF 'criaderalaw07.TasteTexts'. -/
def tasteTextsUptoCard : Claim7 := { stood := { row := tasteTextsUptoRow, standIns := [], harness := (true, "ae02fd7e0ff1a2ab2b0816c87fb204dbfedbafcd77041e9d0f551aa4da4cc98f"), looks := false }, kinds := [], alts := [], laidByText := true, laidKinds := [.data, .pinned], laidTests := true, laidLooks := .later }
def TasteTextsUptoCardSaid : Prop := Claim7.holds Tryd.pinned (.plain (OpenSpec.upto tasteTextsSpec)) tasteTextsUptoCard
end Rows
end Go.Proofs.YtbcbiemjokpghaaDoor
