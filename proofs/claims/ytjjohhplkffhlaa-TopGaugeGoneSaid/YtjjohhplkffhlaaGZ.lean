/- For every input: criaderatop.TopGaugeGone returns true, and its arguments read afterwards as before. No condition. -/
import Derived.Test.YtjjohhplkffhlaaRows
import Derived.ProofKit
import Derived.Test.YtjjohhplkffhlaaG3
import Derived.Test.YtjjohhplkffhlaaG4
namespace Go.Proofs.Ytjjohhplkffhlaa
open Go Go.Abs Go.ChangeShapes Go.WideShapes Go.RowKit

theorem Try.own : ownKnob Try.prog.godebug = none := by kernel_rfl
theorem Try.laidOut : laidOutB Try.prog = true := by kernel_rfl

theorem topGaugeGone_lifted (os : Os) (started : os.Started) (H : Type) (enc : TypeId × Value → H) :
    ReturnsInHanded {} Try.checked os 4 .any (Rows.topGaugeGoneSpec.pre6 enc Try.prog Try.f4 Rows.topGaugeGoneRow.domain false) (Rows.topGaugeGoneSpec.post enc Try.prog Try.f4 false true false false) := by
  refine law_lifted (C := Try.checked) (Ts := [41, 30, 3]) (tb := 4) (nn := 12) (ins := (s4_c 0).ins) (g := fun n x => s4 n x.1 x.2.1 x.2.2) Try.own started (by kernel_rfl) Try.func4
    (ChangeSpec.witness6 (enc := enc) (C := Try.checked) false ⟨#[], #[.agg #[.int .i64 0, .int .i64 0, .int .i64 0, .slice none 0 0, .slice none 0 0], .agg #[.int .i64 0, .int .i64 0], .int .i64 0], []⟩ 8 (by kernel_rfl) (by kernel_rfl) (by kernel_rfl) (by kernel_rfl))
    (by kernel_rfl) (by kernel_rfl) (by kernel_rfl) Try.laidOut (by kernel_rfl) (by kernel_rfl) rfl (fun ds h => ?_) (fun n => s4_ok n) (fun x _ => gauge_gone x.1 x.2.1 x.2.2)
  match ds, h with
  | [a, b, c], _ => rfl

theorem topGaugeGone_holds : Rows.TopGaugeGoneSaid :=
  OpenClaim.holds_of_wide 4 Try.f4 rfl rfl rfl rfl rfl rfl rfl ⟨rfl, rfl, rfl, rfl, rfl⟩ rfl rfl rfl rfl rfl (by kernel_rfl) Try.func4 (by kernel_rfl)
    (of_decide_eq_true (by kernel_rfl)) (by unfold Func.isWrapper; first | (rw [if_pos (by decide +kernel)]; kernel_rfl) | (rw [if_neg (by decide +kernel)]; exact ⟨rfl, rfl⟩))
    (fun os started H enc _ => topGaugeGone_lifted os started H enc)

end Go.Proofs.Ytjjohhplkffhlaa
