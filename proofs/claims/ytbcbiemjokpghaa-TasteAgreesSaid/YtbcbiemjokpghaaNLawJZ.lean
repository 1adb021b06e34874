/- For every panel and every two numbers: criaderalaw07.TasteAgrees returns true, and its arguments read afterwards as before. No condition. -/
import Derived.Test.YtbcbiemjokpghaaNLawJ2
import Derived.Test.YtbcbiemjokpghaaNAbsZB
import Derived.Test.YtbcbiemjokpghaaRows
import Derived.ProofKit
namespace Go.Proofs.Ytbcbiemjokpghaa
open Go Go.Abs Go.ChangeShapes Go.WideShapes Go.RowKit

theorem Try.own : ownKnob Try.prog.godebug = none := by kernel_rfl
theorem Try.laidOut : laidOutB Try.prog = true := by kernel_rfl

theorem tasteAgrees_lifted (os : Os) (started : os.Started) (H : Type) (enc : TypeId × Value → H) :
    ReturnsInHanded {} Try.checked os 8 .any (Rows.tasteAgreesSpec.pre6 enc Try.prog Try.f8 Rows.tasteAgreesRow.domain false) (Rows.tasteAgreesSpec.post enc Try.prog Try.f8 false true false false) := by
  refine law_lifted (C := Try.checked) (Ts := [40, 3, 3]) (tb := 4) (nn := 12) (ins := (s8_c 0).ins) (g := fun n x => s8 n x.1 x.2.1 x.2.2) Try.own started (by kernel_rfl) Try.func8
    (ChangeSpec.witness6 (enc := enc) (C := Try.checked) false ⟨#[], #[.agg #[.int .i64 0, .int .i64 0, .slice none 0 0, .slice none 0 0], .int .i64 0, .int .i64 0], []⟩ 8 (by kernel_rfl) (by kernel_rfl) (by kernel_rfl) (by kernel_rfl))
    (by kernel_rfl) (by kernel_rfl) (by kernel_rfl) Try.laidOut (by kernel_rfl) (by kernel_rfl) rfl (fun ds h => ?_) (fun n => s8_ok n) (fun x _ => taste_agrees x.1 x.2.1 x.2.2)
  match ds, h with
  | [a, b, c], _ => rfl

theorem tasteAgrees_holds : Rows.TasteAgreesSaid :=
  OpenClaim.holds_of_wide 8 Try.f8 rfl rfl rfl rfl rfl rfl rfl ⟨rfl, rfl, rfl, rfl, rfl⟩ rfl rfl rfl rfl rfl (by kernel_rfl) Try.func8 (by kernel_rfl)
    (of_decide_eq_true (by kernel_rfl)) (by unfold Func.isWrapper; first | (rw [if_pos (by decide +kernel)]; kernel_rfl) | (rw [if_neg (by decide +kernel)]; exact ⟨rfl, rfl⟩))
    (fun os started H enc _ => tasteAgrees_lifted os started H enc)

end Go.Proofs.Ytbcbiemjokpghaa
