/- For every rule book and every panel: criaderatop.TopTasteMarked returns true, and its arguments read afterwards as before. No condition. -/
import Derived.Test.YtbcbiemjokpghaaLawT
import Derived.Test.YtbcbiemjokpghaaAbsZB
import Derived.Test.YtbcbiemjokpghaaRows
import Derived.ProofKit
namespace Go.Proofs.Ytbcbiemjokpghaa
open Go Go.Abs Go.ChangeShapes Go.WideShapes Go.RowKit

theorem Try.own : ownKnob Try.prog.godebug = none := by kernel_rfl
theorem Try.laidOut : laidOutB Try.prog = true := by kernel_rfl

theorem topTasteMarked_lifted (os : Os) (started : os.Started) (H : Type) (enc : TypeId × Value → H) :
    ReturnsInHanded {} Try.checked os 13 .any (Rows.topTasteMarkedSpec.pre6 enc Try.prog Try.f13 Rows.topTasteMarkedRow.domain false) (Rows.topTasteMarkedSpec.post enc Try.prog Try.f13 false true false false) := by
  refine law_lifted (C := Try.checked) (Ts := [25, 40]) (tb := 4) (nn := 12) (ins := (s13_c 0).ins) (g := fun n x => s13 n x.1 x.2) Try.own started (by kernel_rfl) Try.func13
    (ChangeSpec.witness6 (enc := enc) (C := Try.checked) false ⟨#[], #[.agg #[.slice none 0 0, .int .i64 0, .slice none 0 0], .agg #[.int .i64 0, .int .i64 0, .slice none 0 0, .slice none 0 0]], []⟩ 8 (by kernel_rfl) (by kernel_rfl) (by kernel_rfl) (by kernel_rfl))
    (by kernel_rfl) (by kernel_rfl) (by kernel_rfl) Try.laidOut (by kernel_rfl) (by kernel_rfl) rfl (fun ds h => ?_) (fun n => s13_ok n) (fun x _ => top_taste_marked x.1 x.2)
  match ds, h with
  | [a, b], _ => rfl

theorem topTasteMarked_holds : Rows.TopTasteMarkedSaid :=
  OpenClaim.holds_of_wide 13 Try.f13 rfl rfl rfl rfl rfl rfl rfl ⟨rfl, rfl, rfl, rfl, rfl⟩ rfl rfl rfl rfl rfl (by kernel_rfl) Try.func13 (by kernel_rfl)
    (of_decide_eq_true (by kernel_rfl)) (by unfold Func.isWrapper; first | (rw [if_pos (by decide +kernel)]; kernel_rfl) | (rw [if_neg (by decide +kernel)]; exact ⟨rfl, rfl⟩))
    (fun os started H enc _ => topTasteMarked_lifted os started H enc)

end Go.Proofs.Ytbcbiemjokpghaa
