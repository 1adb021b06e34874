/- For every input: criaderalaw07.TasteMarks returns true, and its arguments read afterwards as before. No condition. -/
import Derived.Test.YtbcbiemjokpghaaNLawQ
import Derived.Test.YtbcbiemjokpghaaNAbsZB
import Derived.Test.YtbcbiemjokpghaaRows
import Derived.ProofKit
namespace Go.Proofs.Ytbcbiemjokpghaa
open Go Go.Abs Go.ChangeShapes Go.WideShapes Go.RowKit

theorem Try.own : ownKnob Try.prog.godebug = none := by kernel_rfl
theorem Try.laidOut : laidOutB Try.prog = true := by kernel_rfl

theorem tasteMarks_lifted (os : Os) (started : os.Started) (H : Type) (enc : TypeId × Value → H) :
    ReturnsInHanded {} Try.checked os 4 .any (Rows.tasteMarksSpec.pre6 enc Try.prog Try.f4 Rows.tasteMarksRow.domain false) (Rows.tasteMarksSpec.post enc Try.prog Try.f4 false true false false) := by
  refine law_lifted (C := Try.checked) (Ts := [40, 3, 26]) (tb := 4) (nn := 12) (ins := (s4_c 0).ins) (g := fun n x => s4 n x.1 x.2.1 x.2.2) Try.own started (by kernel_rfl) Try.func4
    (ChangeSpec.witness6 (enc := enc) (C := Try.checked) false ⟨#[], #[.agg #[.int .i64 0, .int .i64 0, .slice none 0 0, .slice none 0 0], .int .i64 0, .slice none 0 0], []⟩ 8 (by kernel_rfl) (by kernel_rfl) (by kernel_rfl) (by kernel_rfl))
    (by kernel_rfl) (by kernel_rfl) (by kernel_rfl) Try.laidOut (by kernel_rfl) (by kernel_rfl) rfl (fun ds h => ?_) (fun n => s4_ok n) (fun x _ => taste_marks x.1 x.2.1 x.2.2)
  match ds, h with
  | [a, b, c], _ => rfl

theorem tasteMarks_holds : Rows.TasteMarksSaid :=
  OpenClaim.holds_of_wide 4 Try.f4 rfl rfl rfl rfl rfl rfl rfl ⟨rfl, rfl, rfl, rfl, rfl⟩ rfl rfl rfl rfl rfl (by kernel_rfl) Try.func4 (by kernel_rfl)
    (of_decide_eq_true (by kernel_rfl)) (by unfold Func.isWrapper; first | (rw [if_pos (by decide +kernel)]; kernel_rfl) | (rw [if_neg (by decide +kernel)]; exact ⟨rfl, rfl⟩))
    (fun os started H enc _ => tasteMarks_lifted os started H enc)

end Go.Proofs.Ytbcbiemjokpghaa
