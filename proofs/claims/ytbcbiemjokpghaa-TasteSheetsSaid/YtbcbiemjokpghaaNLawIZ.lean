/- For every rule book and every sheet: criaderalaw07.TasteSheets returns true, and its arguments read afterwards as before. No condition. -/
import Derived.Test.YtbcbiemjokpghaaNLawI
import Derived.Test.YtbcbiemjokpghaaNAbsZB
import Derived.Test.YtbcbiemjokpghaaRows
import Derived.ProofKit
namespace Go.Proofs.Ytbcbiemjokpghaa
open Go Go.Abs Go.ChangeShapes Go.WideShapes Go.RowKit

theorem Try.own : ownKnob Try.prog.godebug = none := by kernel_rfl
theorem Try.laidOut : laidOutB Try.prog = true := by kernel_rfl

theorem tasteSheets_lifted (os : Os) (started : os.Started) (H : Type) (enc : TypeId × Value → H) :
    ReturnsInHanded {} Try.checked os 7 .any (Rows.tasteSheetsSpec.pre6 enc Try.prog Try.f7 Rows.tasteSheetsRow.domain false) (Rows.tasteSheetsSpec.post enc Try.prog Try.f7 false true false false) := by
  refine law_lifted (C := Try.checked) (Ts := [25, 66]) (tb := 4) (nn := 12) (ins := (s7_c 0).ins) (g := fun n x => s7 n x.1 x.2) Try.own started (by kernel_rfl) Try.func7
    (ChangeSpec.witness6 (enc := enc) (C := Try.checked) false ⟨#[], #[.agg #[.slice none 0 0, .int .i64 0, .slice none 0 0], .agg #[.string ⟨#[]⟩, .slice none 0 0]], []⟩ 8 (by kernel_rfl) (by kernel_rfl) (by kernel_rfl) (by kernel_rfl))
    (by kernel_rfl) (by kernel_rfl) (by kernel_rfl) Try.laidOut (by kernel_rfl) (by kernel_rfl) rfl (fun ds h => ?_) (fun n => s7_ok n) (fun x _ => taste_sheets x.1 x.2)
  match ds, h with
  | [a, b], _ => rfl

theorem tasteSheets_holds : Rows.TasteSheetsSaid :=
  OpenClaim.holds_of_wide 7 Try.f7 rfl rfl rfl rfl rfl rfl rfl ⟨rfl, rfl, rfl, rfl, rfl⟩ rfl rfl rfl rfl rfl (by kernel_rfl) Try.func7 (by kernel_rfl)
    (of_decide_eq_true (by kernel_rfl)) (by unfold Func.isWrapper; first | (rw [if_pos (by decide +kernel)]; kernel_rfl) | (rw [if_neg (by decide +kernel)]; exact ⟨rfl, rfl⟩))
    (fun os started H enc _ => tasteSheets_lifted os started H enc)

end Go.Proofs.Ytbcbiemjokpghaa
