/- For every input: criaderatop.TopGaugeTurned returns true, and its arguments read afterwards as before. No condition. -/
import Derived.Test.YtjjohhplkffhlaaRows
import Derived.ProofKit
import Derived.Test.YtjjohhplkffhlaaT3
namespace Go.Proofs.Ytjjohhplkffhlaa
open Go Go.Abs Go.ChangeShapes Go.WideShapes Go.RowKit

theorem Try.own : ownKnob Try.prog.godebug = none := by kernel_rfl
theorem Try.laidOut : laidOutB Try.prog = true := by kernel_rfl

theorem topGaugeTurned_lifted (os : Os) (started : os.Started) (H : Type) (enc : TypeId × Value → H) :
    ReturnsInHanded {} Try.checked os 3 .any (Rows.topGaugeTurnedSpec.pre6 enc Try.prog Try.f3 Rows.topGaugeTurnedRow.domain false) (Rows.topGaugeTurnedSpec.post enc Try.prog Try.f3 false true false false) := by
  refine law_lifted (C := Try.checked) (Ts := [24, 3]) (tb := 4) (nn := 12) (ins := (s3_c 0).ins) (g := fun n x => s3 n x.1 x.2) Try.own started (by kernel_rfl) Try.func3
    (ChangeSpec.witness6 (enc := enc) (C := Try.checked) false ⟨#[], #[.agg #[.string ⟨#[]⟩, .int .i64 0, .slice none 0 0], .int .i64 0], []⟩ 8 (by kernel_rfl) (by kernel_rfl) (by kernel_rfl) (by kernel_rfl))
    (by kernel_rfl) (by kernel_rfl) (by kernel_rfl) Try.laidOut (by kernel_rfl) (by kernel_rfl) rfl (fun ds h => ?_) (fun n => s3_ok n) (fun x _ => gauge_turned x.1 x.2)
  match ds, h with
  | [a, b], _ => rfl

theorem topGaugeTurned_holds : Rows.TopGaugeTurnedSaid :=
  OpenClaim.holds_of_wide 3 Try.f3 rfl rfl rfl rfl rfl rfl rfl ⟨rfl, rfl, rfl, rfl, rfl⟩ rfl rfl rfl rfl rfl (by kernel_rfl) Try.func3 (by kernel_rfl)
    (of_decide_eq_true (by kernel_rfl)) (by unfold Func.isWrapper; first | (rw [if_pos (by decide +kernel)]; kernel_rfl) | (rw [if_neg (by decide +kernel)]; exact ⟨rfl, rfl⟩))
    (fun os started H enc _ => topGaugeTurned_lifted os started H enc)

end Go.Proofs.Ytjjohhplkffhlaa
