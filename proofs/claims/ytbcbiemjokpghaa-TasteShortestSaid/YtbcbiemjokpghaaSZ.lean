/- For every input: criaderalaw07.TasteShortest returns true, and its arguments read afterwards as before. No condition. -/
import Derived.Test.YtbcbiemjokpghaaRows
import Derived.ProofKit
import Derived.Test.YtbcbiemjokpghaaS3
import Derived.Test.YtbcbiemjokpghaaS5
namespace Go.Proofs.Ytbcbiemjokpghaa
open Go Go.Abs Go.ChangeShapes Go.WideShapes Go.RowKit

theorem Try.own : ownKnob Try.prog.godebug = none := by kernel_rfl
theorem Try.laidOut : laidOutB Try.prog = true := by kernel_rfl

theorem tasteShortest_lifted (os : Os) (started : os.Started) (H : Type) (enc : TypeId × Value → H) :
    ReturnsInHanded {} Try.checked os 3 .any (Rows.tasteShortestSpec.pre6 enc Try.prog Try.f3 Rows.tasteShortestRow.domain false) (Rows.tasteShortestSpec.post enc Try.prog Try.f3 false true false false) := by
  refine law_lifted (C := Try.checked) (Ts := [25, 3, 26]) (tb := 4) (nn := 12) (ins := (s3_c 0).ins) (g := fun n x => s3 n x.1 x.2.1 x.2.2) Try.own started (by kernel_rfl) Try.func3
    (ChangeSpec.witness6 (enc := enc) (C := Try.checked) false ⟨#[], #[.agg #[.slice none 0 0, .int .i64 0, .slice none 0 0], .int .i64 0, .slice none 0 0], []⟩ 8 (by kernel_rfl) (by kernel_rfl) (by kernel_rfl) (by kernel_rfl))
    (by kernel_rfl) (by kernel_rfl) (by kernel_rfl) Try.laidOut (by kernel_rfl) (by kernel_rfl) rfl (fun ds h => ?_) (fun n => s3_ok n) (fun x _ => taste_shortest x.1 x.2.1 x.2.2)
  match ds, h with
  | [a, b, c], _ => rfl

theorem tasteShortest_holds : Rows.TasteShortestSaid :=
  OpenClaim.holds_of_wide 3 Try.f3 rfl rfl rfl rfl rfl rfl rfl ⟨rfl, rfl, rfl, rfl, rfl⟩ rfl rfl rfl rfl rfl (by kernel_rfl) Try.func3 (by kernel_rfl)
    (of_decide_eq_true (by kernel_rfl)) (by unfold Func.isWrapper; first | (rw [if_pos (by decide +kernel)]; kernel_rfl) | (rw [if_neg (by decide +kernel)]; exact ⟨rfl, rfl⟩))
    (fun os started H enc _ => tasteShortest_lifted os started H enc)

end Go.Proofs.Ytbcbiemjokpghaa
