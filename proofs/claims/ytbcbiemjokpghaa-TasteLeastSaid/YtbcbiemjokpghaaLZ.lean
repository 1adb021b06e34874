/- For every input: criaderalaw07.TasteLeast returns true, and its arguments read afterwards as before. No condition. -/
import Derived.Test.YtbcbiemjokpghaaRows
import Derived.ProofKit
import Derived.Test.YtbcbiemjokpghaaL3
import Derived.Test.YtbcbiemjokpghaaL6
namespace Go.Proofs.Ytbcbiemjokpghaa
open Go Go.Abs Go.ChangeShapes Go.WideShapes Go.RowKit

theorem Try.own : ownKnob Try.prog.godebug = none := by kernel_rfl
theorem Try.laidOut : laidOutB Try.prog = true := by kernel_rfl

theorem tasteLeast_lifted (os : Os) (started : os.Started) (H : Type) (enc : TypeId × Value → H) :
    ReturnsInHanded {} Try.checked os 12 .any (Rows.tasteLeastSpec.pre6 enc Try.prog Try.f12 Rows.tasteLeastRow.domain false) (Rows.tasteLeastSpec.post enc Try.prog Try.f12 false true false false) := by
  refine law_lifted (C := Try.checked) (Ts := [25, 26]) (tb := 4) (nn := 12) (ins := (s12_c 0).ins) (g := fun n x => s12 n x.1 x.2) Try.own started (by kernel_rfl) Try.func12
    (ChangeSpec.witness6 (enc := enc) (C := Try.checked) false ⟨#[], #[.agg #[.slice none 0 0, .int .i64 0, .slice none 0 0], .slice none 0 0], []⟩ 8 (by kernel_rfl) (by kernel_rfl) (by kernel_rfl) (by kernel_rfl))
    (by kernel_rfl) (by kernel_rfl) (by kernel_rfl) Try.laidOut (by kernel_rfl) (by kernel_rfl) rfl (fun ds h => ?_) (fun n => s12_ok n) (fun x _ => taste_least x.1 x.2)
  match ds, h with
  | [a, b], _ => rfl

theorem tasteLeast_holds : Rows.TasteLeastSaid :=
  OpenClaim.holds_of_wide 12 Try.f12 rfl rfl rfl rfl rfl rfl rfl ⟨rfl, rfl, rfl, rfl, rfl⟩ rfl rfl rfl rfl rfl (by kernel_rfl) Try.func12 (by kernel_rfl)
    (of_decide_eq_true (by kernel_rfl)) (by unfold Func.isWrapper; first | (rw [if_pos (by decide +kernel)]; kernel_rfl) | (rw [if_neg (by decide +kernel)]; exact ⟨rfl, rfl⟩))
    (fun os started H enc _ => tasteLeast_lifted os started H enc)

end Go.Proofs.Ytbcbiemjokpghaa
