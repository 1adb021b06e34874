/-
  No cell of these rows narrows 'for every input' (looked for: loops, veiled, ifaces, maps, wideKeys, modest, calm, conditions, laid).
  DERIVED. THE GIVEN ROWS OF THIS SEAT. 12 by the template 'for every input the law returns true; each argument reads behind the call as it read before'; 0 by the template 'total and deterministic' (their statements: YtbcbiemjokpghaaTotals.lean).
  GIVEN WITH THE SEED: the statements are not yours to turn. If you find one false, say at which input.
  Laid BY PROGRAM, IN A SANDBOX (cutbox-rows.mjs): the forced cells as the released guide's own fill.sh prints them over the translation a39c174fd5957590… (all of the seat's roots in one cut). By AI agents, Wed Nov 11 2026. No macro, syntax, notation, axiom, sorry.
-/
import Derived.Test.YtbcbiemjokpghaaChecked
import GoSem.Claim
import GoSem.ClaimJoined
import GoSem.ClaimMapViews
import Derived.JoinedTies
import Derived.KernelRfl
namespace Go.Proofs.Ytbcbiemjokpghaa
/- THE CELL 'sum', in the pinned program and in every row, IS THE sha256 OF THE DUMP (.gsa) THAT YtbcbiemjokpghaaProg.lean LOADS. Nothing in Lean hashes anything: it is a label: what it is worth is what the hold of that sum in a sandbox is worth. -/
noncomputable def Try.pinned : Pinned := { name := "ytbcbiemjokpghaa", sum := "a39c174fd59575906d3bfa9f4075ea530901de80df4c55595f8a7686dced3a90", checked := Try.checked }
namespace Rows
def none {H : Type} : Left H := { results := [], args := [] }

/-- 'criaderalaw07.TasteShortest': WHATEVER THE INPUT: true; the input reads as it did. -/
def tasteShortestSpec : ChangeSpec := { name := "tasteShortest", fn := fun _ => fun
  | [d1, d2, d3] => { results := [.lit (.bool true)], args := [d1, d2, d3] }
  | _ => none }
def tasteShortestRow : OpenClaim := { program := "ytbcbiemjokpghaa", sum := "a39c174fd59575906d3bfa9f4075ea530901de80df4c55595f8a7686dced3a90", func := "criadera/criaderalaw07.TasteShortest", spec := "tasteShortest", unfollowed := true, recurses := true, plainKeys := false, apart := false }
def TasteShortestSaid : Prop := tasteShortestRow.holds Try.pinned (OpenSpec.ofChange tasteShortestSpec)

/-- ITS FALSE NEIGHBOUR: 'it returns false'. Refute it at one input. -/
def tasteShortestWrong : ChangeSpec := { name := "tasteShortest", fn := fun _ => fun
  | [d1, d2, d3] => { results := [.lit (.bool false)], args := [d1, d2, d3] }
  | _ => none }
def TasteShortestWrongFalsely : Prop := tasteShortestRow.holds Try.pinned (OpenSpec.ofChange tasteShortestWrong)

/-- 'criaderalaw07.TasteMarks': WHATEVER THE INPUT: true; the input reads as it did. -/
def tasteMarksSpec : ChangeSpec := { name := "tasteMarks", fn := fun _ => fun
  | [d1, d2, d3] => { results := [.lit (.bool true)], args := [d1, d2, d3] }
  | _ => none }
def tasteMarksRow : OpenClaim := { program := "ytbcbiemjokpghaa", sum := "a39c174fd59575906d3bfa9f4075ea530901de80df4c55595f8a7686dced3a90", func := "criadera/criaderalaw07.TasteMarks", spec := "tasteMarks", unfollowed := true, recurses := true, plainKeys := false, apart := false }
def TasteMarksSaid : Prop := tasteMarksRow.holds Try.pinned (OpenSpec.ofChange tasteMarksSpec)

/-- ITS FALSE NEIGHBOUR: 'it returns false'. Refute it at one input. -/
def tasteMarksWrong : ChangeSpec := { name := "tasteMarks", fn := fun _ => fun
  | [d1, d2, d3] => { results := [.lit (.bool false)], args := [d1, d2, d3] }
  | _ => none }
def TasteMarksWrongFalsely : Prop := tasteMarksRow.holds Try.pinned (OpenSpec.ofChange tasteMarksWrong)

/-- 'criaderalaw07.TasteCounts': WHATEVER THE INPUT: true; the input reads as it did. -/
def tasteCountsSpec : ChangeSpec := { name := "tasteCounts", fn := fun _ => fun
  | [d1, d2] => { results := [.lit (.bool true)], args := [d1, d2] }
  | _ => none }
def tasteCountsRow : OpenClaim := { program := "ytbcbiemjokpghaa", sum := "a39c174fd59575906d3bfa9f4075ea530901de80df4c55595f8a7686dced3a90", func := "criadera/criaderalaw07.TasteCounts", spec := "tasteCounts", unfollowed := true, recurses := true, plainKeys := false, apart := false }
def TasteCountsSaid : Prop := tasteCountsRow.holds Try.pinned (OpenSpec.ofChange tasteCountsSpec)

/-- ITS FALSE NEIGHBOUR: 'it returns false'. Refute it at one input. -/
def tasteCountsWrong : ChangeSpec := { name := "tasteCounts", fn := fun _ => fun
  | [d1, d2] => { results := [.lit (.bool false)], args := [d1, d2] }
  | _ => none }
def TasteCountsWrongFalsely : Prop := tasteCountsRow.holds Try.pinned (OpenSpec.ofChange tasteCountsWrong)

/-- 'criaderalaw07.TasteBooks': WHATEVER THE INPUT: true; the input reads as it did. -/
def tasteBooksSpec : ChangeSpec := { name := "tasteBooks", fn := fun _ => fun
  | [d1, d2] => { results := [.lit (.bool true)], args := [d1, d2] }
  | _ => none }
def tasteBooksRow : OpenClaim := { program := "ytbcbiemjokpghaa", sum := "a39c174fd59575906d3bfa9f4075ea530901de80df4c55595f8a7686dced3a90", func := "criadera/criaderalaw07.TasteBooks", spec := "tasteBooks", unfollowed := true, recurses := true, plainKeys := false, apart := false }
def TasteBooksSaid : Prop := tasteBooksRow.holds Try.pinned (OpenSpec.ofChange tasteBooksSpec)

/-- ITS FALSE NEIGHBOUR: 'it returns false'. Refute it at one input. -/
def tasteBooksWrong : ChangeSpec := { name := "tasteBooks", fn := fun _ => fun
  | [d1, d2] => { results := [.lit (.bool false)], args := [d1, d2] }
  | _ => none }
def TasteBooksWrongFalsely : Prop := tasteBooksRow.holds Try.pinned (OpenSpec.ofChange tasteBooksWrong)

/-- 'criaderalaw07.TasteSheets': WHATEVER THE INPUT: true; the input reads as it did. -/
def tasteSheetsSpec : ChangeSpec := { name := "tasteSheets", fn := fun _ => fun
  | [d1, d2] => { results := [.lit (.bool true)], args := [d1, d2] }
  | _ => none }
def tasteSheetsRow : OpenClaim := { program := "ytbcbiemjokpghaa", sum := "a39c174fd59575906d3bfa9f4075ea530901de80df4c55595f8a7686dced3a90", func := "criadera/criaderalaw07.TasteSheets", spec := "tasteSheets", unfollowed := true, recurses := true, plainKeys := false, apart := false }
def TasteSheetsSaid : Prop := tasteSheetsRow.holds Try.pinned (OpenSpec.ofChange tasteSheetsSpec)

/-- ITS FALSE NEIGHBOUR: 'it returns false'. Refute it at one input. -/
def tasteSheetsWrong : ChangeSpec := { name := "tasteSheets", fn := fun _ => fun
  | [d1, d2] => { results := [.lit (.bool false)], args := [d1, d2] }
  | _ => none }
def TasteSheetsWrongFalsely : Prop := tasteSheetsRow.holds Try.pinned (OpenSpec.ofChange tasteSheetsWrong)

/-- 'criaderalaw07.TasteAgrees': WHATEVER THE INPUT: true; the input reads as it did. -/
def tasteAgreesSpec : ChangeSpec := { name := "tasteAgrees", fn := fun _ => fun
  | [d1, d2, d3] => { results := [.lit (.bool true)], args := [d1, d2, d3] }
  | _ => none }
def tasteAgreesRow : OpenClaim := { program := "ytbcbiemjokpghaa", sum := "a39c174fd59575906d3bfa9f4075ea530901de80df4c55595f8a7686dced3a90", func := "criadera/criaderalaw07.TasteAgrees", spec := "tasteAgrees", unfollowed := true, recurses := true, plainKeys := false, apart := false }
def TasteAgreesSaid : Prop := tasteAgreesRow.holds Try.pinned (OpenSpec.ofChange tasteAgreesSpec)

/-- ITS FALSE NEIGHBOUR: 'it returns false'. Refute it at one input. -/
def tasteAgreesWrong : ChangeSpec := { name := "tasteAgrees", fn := fun _ => fun
  | [d1, d2, d3] => { results := [.lit (.bool false)], args := [d1, d2, d3] }
  | _ => none }
def TasteAgreesWrongFalsely : Prop := tasteAgreesRow.holds Try.pinned (OpenSpec.ofChange tasteAgreesWrong)

/-- 'criaderalaw07.TastePanels': WHATEVER THE INPUT: true; the input reads as it did. -/
def tastePanelsSpec : ChangeSpec := { name := "tastePanels", fn := fun _ => fun
  | [d1, d2, d3] => { results := [.lit (.bool true)], args := [d1, d2, d3] }
  | _ => none }
def tastePanelsRow : OpenClaim := { program := "ytbcbiemjokpghaa", sum := "a39c174fd59575906d3bfa9f4075ea530901de80df4c55595f8a7686dced3a90", func := "criadera/criaderalaw07.TastePanels", spec := "tastePanels", unfollowed := true, recurses := true, plainKeys := false, apart := false }
def TastePanelsSaid : Prop := tastePanelsRow.holds Try.pinned (OpenSpec.ofChange tastePanelsSpec)

/-- ITS FALSE NEIGHBOUR: 'it returns false'. Refute it at one input. -/
def tastePanelsWrong : ChangeSpec := { name := "tastePanels", fn := fun _ => fun
  | [d1, d2, d3] => { results := [.lit (.bool false)], args := [d1, d2, d3] }
  | _ => none }
def TastePanelsWrongFalsely : Prop := tastePanelsRow.holds Try.pinned (OpenSpec.ofChange tastePanelsWrong)

/-- 'criaderalaw07.TasteMarked': WHATEVER THE INPUT: true; the input reads as it did. -/
def tasteMarkedSpec : ChangeSpec := { name := "tasteMarked", fn := fun _ => fun
  | [d1, d2, d3] => { results := [.lit (.bool true)], args := [d1, d2, d3] }
  | _ => none }
def tasteMarkedRow : OpenClaim := { program := "ytbcbiemjokpghaa", sum := "a39c174fd59575906d3bfa9f4075ea530901de80df4c55595f8a7686dced3a90", func := "criadera/criaderalaw07.TasteMarked", spec := "tasteMarked", unfollowed := true, recurses := true, plainKeys := false, apart := false }
def TasteMarkedSaid : Prop := tasteMarkedRow.holds Try.pinned (OpenSpec.ofChange tasteMarkedSpec)

/-- ITS FALSE NEIGHBOUR: 'it returns false'. Refute it at one input. -/
def tasteMarkedWrong : ChangeSpec := { name := "tasteMarked", fn := fun _ => fun
  | [d1, d2, d3] => { results := [.lit (.bool false)], args := [d1, d2, d3] }
  | _ => none }
def TasteMarkedWrongFalsely : Prop := tasteMarkedRow.holds Try.pinned (OpenSpec.ofChange tasteMarkedWrong)

/-- 'criaderalaw07.TasteApart': WHATEVER THE INPUT: true; the input reads as it did. -/
def tasteApartSpec : ChangeSpec := { name := "tasteApart", fn := fun _ => fun
  | [d1, d2, d3] => { results := [.lit (.bool true)], args := [d1, d2, d3] }
  | _ => none }
def tasteApartRow : OpenClaim := { program := "ytbcbiemjokpghaa", sum := "a39c174fd59575906d3bfa9f4075ea530901de80df4c55595f8a7686dced3a90", func := "criadera/criaderalaw07.TasteApart", spec := "tasteApart", inPlace := ["internal/bytealg.IndexByteString", "internal/bytealg.IndexString"], unfollowed := true, recurses := true, named := ["internal/bytealg.MaxLen"], plainKeys := false, apart := false }
def TasteApartSaid : Prop := tasteApartRow.holds Try.pinned (OpenSpec.ofChange tasteApartSpec)

/-- ITS FALSE NEIGHBOUR: 'it returns false'. Refute it at one input. -/
def tasteApartWrong : ChangeSpec := { name := "tasteApart", fn := fun _ => fun
  | [d1, d2, d3] => { results := [.lit (.bool false)], args := [d1, d2, d3] }
  | _ => none }
def TasteApartWrongFalsely : Prop := tasteApartRow.holds Try.pinned (OpenSpec.ofChange tasteApartWrong)

/-- 'criaderalaw07.TasteLeast': WHATEVER THE INPUT: true; the input reads as it did. -/
def tasteLeastSpec : ChangeSpec := { name := "tasteLeast", fn := fun _ => fun
  | [d1, d2] => { results := [.lit (.bool true)], args := [d1, d2] }
  | _ => none }
def tasteLeastRow : OpenClaim := { program := "ytbcbiemjokpghaa", sum := "a39c174fd59575906d3bfa9f4075ea530901de80df4c55595f8a7686dced3a90", func := "criadera/criaderalaw07.TasteLeast", spec := "tasteLeast", inPlace := ["internal/bytealg.IndexByteString", "internal/bytealg.IndexString"], unfollowed := true, recurses := true, named := ["internal/bytealg.MaxLen"], plainKeys := false, apart := false }
def TasteLeastSaid : Prop := tasteLeastRow.holds Try.pinned (OpenSpec.ofChange tasteLeastSpec)

/-- ITS FALSE NEIGHBOUR: 'it returns false'. Refute it at one input. -/
def tasteLeastWrong : ChangeSpec := { name := "tasteLeast", fn := fun _ => fun
  | [d1, d2] => { results := [.lit (.bool false)], args := [d1, d2] }
  | _ => none }
def TasteLeastWrongFalsely : Prop := tasteLeastRow.holds Try.pinned (OpenSpec.ofChange tasteLeastWrong)

/-- 'criaderatop.TopTasteMarked': WHATEVER THE INPUT: true; the input reads as it did. -/
def topTasteMarkedSpec : ChangeSpec := { name := "topTasteMarked", fn := fun _ => fun
  | [d1, d2] => { results := [.lit (.bool true)], args := [d1, d2] }
  | _ => none }
def topTasteMarkedRow : OpenClaim := { program := "ytbcbiemjokpghaa", sum := "a39c174fd59575906d3bfa9f4075ea530901de80df4c55595f8a7686dced3a90", func := "criadera/criaderatop.TopTasteMarked", spec := "topTasteMarked", unfollowed := true, recurses := true, plainKeys := false, apart := false }
def TopTasteMarkedSaid : Prop := topTasteMarkedRow.holds Try.pinned (OpenSpec.ofChange topTasteMarkedSpec)

/-- ITS FALSE NEIGHBOUR: 'it returns false'. Refute it at one input. -/
def topTasteMarkedWrong : ChangeSpec := { name := "topTasteMarked", fn := fun _ => fun
  | [d1, d2] => { results := [.lit (.bool false)], args := [d1, d2] }
  | _ => none }
def TopTasteMarkedWrongFalsely : Prop := topTasteMarkedRow.holds Try.pinned (OpenSpec.ofChange topTasteMarkedWrong)

/-- 'criaderalaw07.TasteReaches': WHATEVER THE INPUT: true; the input reads as it did. -/
def tasteReachesSpec : ChangeSpec := { name := "tasteReaches", fn := fun _ => fun
  | [d1, d2] => { results := [.lit (.bool true)], args := [d1, d2] }
  | _ => none }
def tasteReachesRow : OpenClaim := { program := "ytbcbiemjokpghaa", sum := "a39c174fd59575906d3bfa9f4075ea530901de80df4c55595f8a7686dced3a90", func := "criadera/criaderalaw07.TasteReaches", spec := "tasteReaches", inPlace := ["internal/bytealg.IndexByteString", "internal/bytealg.IndexString"], unfollowed := true, recurses := true, named := ["internal/bytealg.MaxLen"], plainKeys := false, apart := false }
def TasteReachesSaid : Prop := tasteReachesRow.holds Try.pinned (OpenSpec.ofChange tasteReachesSpec)

/-- ITS FALSE NEIGHBOUR: 'it returns false'. Refute it at one input. -/
def tasteReachesWrong : ChangeSpec := { name := "tasteReaches", fn := fun _ => fun
  | [d1, d2] => { results := [.lit (.bool false)], args := [d1, d2] }
  | _ => none }
def TasteReachesWrongFalsely : Prop := tasteReachesRow.holds Try.pinned (OpenSpec.ofChange tasteReachesWrong)

/- THE SECOND FORM. 'bulk': how many values and letters a reading holds, each counted each time it is reached (what is shared counts as often as it is met; a slice's spare places count too). A statement '..UptoSaid' is the law's where the arguments, and the package variables that the reading takes, are together of bulk at most 1048576: NARROWER than '..Said'. Prove '..Said' where nothing that the law and all that it calls make is longer than what came in: it says more and counts as full. Else prove '..UptoSaid'. A law counts once. -/
mutual
def uptoBulk {H : Type} : DataW H → Nat
  | .lit (.string bytes) => bytes.length + 1
  | .lit _ => 1
  | .nil => 1
  | .ptr d => uptoBulk d + 1
  | .slice elems spare => uptoBulkAll elems + uptoBulkAll spare + 1
  | .agg parts => uptoBulkAll parts + 1
  | .iface _ d => uptoBulk d + 1
  | .map entries => uptoBulkEntries entries + 1
  | .held _ => 1
def uptoBulkAll {H : Type} : List (DataW H) → Nat
  | [] => 0
  | d :: r => uptoBulk d + uptoBulkAll r
def uptoBulkEntries {H : Type} : List (Lit × DataW H) → Nat
  | [] => 0
  | x :: r => uptoBulkEntry x + uptoBulkEntries r
def uptoBulkEntry {H : Type} : Lit × DataW H → Nat
  | (.string bytes, d) => bytes.length + uptoBulk d + 1
  | (_, d) => uptoBulk d + 1
 end
def uptoSmall : (H : Type) → List (DataW H) → Bool := fun _ ds => decide (uptoBulkAll ds ≤ 1048576)
def OpenSpec.upto (s : _root_.Go.ChangeSpec) : _root_.Go.OpenSpec := { _root_.Go.OpenSpec.ofChange s with cond := some uptoSmall }

/-- 'criaderalaw07.TasteShortest', WHERE WHAT IT READS IS OF BULK AT MOST 1048576: true; the input reads as it did. -/
def tasteShortestUptoRow : OpenClaim := { program := "ytbcbiemjokpghaa", sum := "a39c174fd59575906d3bfa9f4075ea530901de80df4c55595f8a7686dced3a90", func := "criadera/criaderalaw07.TasteShortest", spec := "tasteShortest", unfollowed := true, recurses := true, plainKeys := false, apart := false, narrowed := true }
def TasteShortestUptoSaid : Prop := tasteShortestUptoRow.holds Try.pinned (OpenSpec.upto tasteShortestSpec)

/-- 'criaderalaw07.TasteMarks', WHERE WHAT IT READS IS OF BULK AT MOST 1048576: true; the input reads as it did. -/
def tasteMarksUptoRow : OpenClaim := { program := "ytbcbiemjokpghaa", sum := "a39c174fd59575906d3bfa9f4075ea530901de80df4c55595f8a7686dced3a90", func := "criadera/criaderalaw07.TasteMarks", spec := "tasteMarks", unfollowed := true, recurses := true, plainKeys := false, apart := false, narrowed := true }
def TasteMarksUptoSaid : Prop := tasteMarksUptoRow.holds Try.pinned (OpenSpec.upto tasteMarksSpec)

/-- 'criaderalaw07.TasteCounts', WHERE WHAT IT READS IS OF BULK AT MOST 1048576: true; the input reads as it did. -/
def tasteCountsUptoRow : OpenClaim := { program := "ytbcbiemjokpghaa", sum := "a39c174fd59575906d3bfa9f4075ea530901de80df4c55595f8a7686dced3a90", func := "criadera/criaderalaw07.TasteCounts", spec := "tasteCounts", unfollowed := true, recurses := true, plainKeys := false, apart := false, narrowed := true }
def TasteCountsUptoSaid : Prop := tasteCountsUptoRow.holds Try.pinned (OpenSpec.upto tasteCountsSpec)

/-- 'criaderalaw07.TasteBooks', WHERE WHAT IT READS IS OF BULK AT MOST 1048576: true; the input reads as it did. -/
def tasteBooksUptoRow : OpenClaim := { program := "ytbcbiemjokpghaa", sum := "a39c174fd59575906d3bfa9f4075ea530901de80df4c55595f8a7686dced3a90", func := "criadera/criaderalaw07.TasteBooks", spec := "tasteBooks", unfollowed := true, recurses := true, plainKeys := false, apart := false, narrowed := true }
def TasteBooksUptoSaid : Prop := tasteBooksUptoRow.holds Try.pinned (OpenSpec.upto tasteBooksSpec)

/-- 'criaderalaw07.TasteSheets', WHERE WHAT IT READS IS OF BULK AT MOST 1048576: true; the input reads as it did. -/
def tasteSheetsUptoRow : OpenClaim := { program := "ytbcbiemjokpghaa", sum := "a39c174fd59575906d3bfa9f4075ea530901de80df4c55595f8a7686dced3a90", func := "criadera/criaderalaw07.TasteSheets", spec := "tasteSheets", unfollowed := true, recurses := true, plainKeys := false, apart := false, narrowed := true }
def TasteSheetsUptoSaid : Prop := tasteSheetsUptoRow.holds Try.pinned (OpenSpec.upto tasteSheetsSpec)

/-- 'criaderalaw07.TasteAgrees', WHERE WHAT IT READS IS OF BULK AT MOST 1048576: true; the input reads as it did. -/
def tasteAgreesUptoRow : OpenClaim := { program := "ytbcbiemjokpghaa", sum := "a39c174fd59575906d3bfa9f4075ea530901de80df4c55595f8a7686dced3a90", func := "criadera/criaderalaw07.TasteAgrees", spec := "tasteAgrees", unfollowed := true, recurses := true, plainKeys := false, apart := false, narrowed := true }
def TasteAgreesUptoSaid : Prop := tasteAgreesUptoRow.holds Try.pinned (OpenSpec.upto tasteAgreesSpec)

/-- 'criaderalaw07.TastePanels', WHERE WHAT IT READS IS OF BULK AT MOST 1048576: true; the input reads as it did. -/
def tastePanelsUptoRow : OpenClaim := { program := "ytbcbiemjokpghaa", sum := "a39c174fd59575906d3bfa9f4075ea530901de80df4c55595f8a7686dced3a90", func := "criadera/criaderalaw07.TastePanels", spec := "tastePanels", unfollowed := true, recurses := true, plainKeys := false, apart := false, narrowed := true }
def TastePanelsUptoSaid : Prop := tastePanelsUptoRow.holds Try.pinned (OpenSpec.upto tastePanelsSpec)

/-- 'criaderalaw07.TasteMarked', WHERE WHAT IT READS IS OF BULK AT MOST 1048576: true; the input reads as it did. -/
def tasteMarkedUptoRow : OpenClaim := { program := "ytbcbiemjokpghaa", sum := "a39c174fd59575906d3bfa9f4075ea530901de80df4c55595f8a7686dced3a90", func := "criadera/criaderalaw07.TasteMarked", spec := "tasteMarked", unfollowed := true, recurses := true, plainKeys := false, apart := false, narrowed := true }
def TasteMarkedUptoSaid : Prop := tasteMarkedUptoRow.holds Try.pinned (OpenSpec.upto tasteMarkedSpec)

/-- 'criaderalaw07.TasteApart', WHERE WHAT IT READS IS OF BULK AT MOST 1048576: true; the input reads as it did. -/
def tasteApartUptoRow : OpenClaim := { program := "ytbcbiemjokpghaa", sum := "a39c174fd59575906d3bfa9f4075ea530901de80df4c55595f8a7686dced3a90", func := "criadera/criaderalaw07.TasteApart", spec := "tasteApart", inPlace := ["internal/bytealg.IndexByteString", "internal/bytealg.IndexString"], unfollowed := true, recurses := true, named := ["internal/bytealg.MaxLen"], plainKeys := false, apart := false, narrowed := true }
def TasteApartUptoSaid : Prop := tasteApartUptoRow.holds Try.pinned (OpenSpec.upto tasteApartSpec)

/-- 'criaderalaw07.TasteLeast', WHERE WHAT IT READS IS OF BULK AT MOST 1048576: true; the input reads as it did. -/
def tasteLeastUptoRow : OpenClaim := { program := "ytbcbiemjokpghaa", sum := "a39c174fd59575906d3bfa9f4075ea530901de80df4c55595f8a7686dced3a90", func := "criadera/criaderalaw07.TasteLeast", spec := "tasteLeast", inPlace := ["internal/bytealg.IndexByteString", "internal/bytealg.IndexString"], unfollowed := true, recurses := true, named := ["internal/bytealg.MaxLen"], plainKeys := false, apart := false, narrowed := true }
def TasteLeastUptoSaid : Prop := tasteLeastUptoRow.holds Try.pinned (OpenSpec.upto tasteLeastSpec)

/-- 'criaderatop.TopTasteMarked', WHERE WHAT IT READS IS OF BULK AT MOST 1048576: true; the input reads as it did. -/
def topTasteMarkedUptoRow : OpenClaim := { program := "ytbcbiemjokpghaa", sum := "a39c174fd59575906d3bfa9f4075ea530901de80df4c55595f8a7686dced3a90", func := "criadera/criaderatop.TopTasteMarked", spec := "topTasteMarked", unfollowed := true, recurses := true, plainKeys := false, apart := false, narrowed := true }
def TopTasteMarkedUptoSaid : Prop := topTasteMarkedUptoRow.holds Try.pinned (OpenSpec.upto topTasteMarkedSpec)

/-- 'criaderalaw07.TasteReaches', WHERE WHAT IT READS IS OF BULK AT MOST 1048576: true; the input reads as it did. -/
def tasteReachesUptoRow : OpenClaim := { program := "ytbcbiemjokpghaa", sum := "a39c174fd59575906d3bfa9f4075ea530901de80df4c55595f8a7686dced3a90", func := "criadera/criaderalaw07.TasteReaches", spec := "tasteReaches", inPlace := ["internal/bytealg.IndexByteString", "internal/bytealg.IndexString"], unfollowed := true, recurses := true, named := ["internal/bytealg.MaxLen"], plainKeys := false, apart := false, narrowed := true }
def TasteReachesUptoSaid : Prop := tasteReachesUptoRow.holds Try.pinned (OpenSpec.upto tasteReachesSpec)

end Rows
end Go.Proofs.Ytbcbiemjokpghaa
