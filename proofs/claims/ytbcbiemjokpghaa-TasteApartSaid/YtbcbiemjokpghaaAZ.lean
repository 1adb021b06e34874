/- For every input: criaderalaw07.TasteApart returns true, and its arguments read afterwards as before. No condition. -/
import Derived.Test.YtbcbiemjokpghaaRows
import Derived.ProofKit
import Derived.Test.YtbcbiemjokpghaaA3
import Derived.Test.YtbcbiemjokpghaaA6
namespace Go.Proofs.Ytbcbiemjokpghaa
open Go Go.Abs Go.ChangeShapes Go.WideShapes Go.RowKit

theorem Try.own : ownKnob Try.prog.godebug = none := by kernel_rfl
theorem Try.laidOut : laidOutB Try.prog = true := by kernel_rfl

theorem tasteApart_lifted (os : Os) (started : os.Started) (H : Type) (enc : TypeId × Value → H) :
    ReturnsInHanded {} Try.checked os 11 .any (Rows.tasteApartSpec.pre6 enc Try.prog Try.f11 Rows.tasteApartRow.domain false) (Rows.tasteApartSpec.post enc Try.prog Try.f11 false true false false) := by
  refine law_lifted (C := Try.checked) (Ts := [25, 25, 26]) (tb := 4) (nn := 12) (ins := (s11_c 0).ins) (g := fun n x => s11 n x.1 x.2.1 x.2.2) Try.own started (by kernel_rfl) Try.func11
    (ChangeSpec.witness6 (enc := enc) (C := Try.checked) false ⟨#[], #[.agg #[.slice none 0 0, .int .i64 0, .slice none 0 0], .agg #[.slice none 0 0, .int .i64 0, .slice none 0 0], .slice none 0 0], []⟩ 8 (by kernel_rfl) (by kernel_rfl) (by kernel_rfl) (by kernel_rfl))
    (by kernel_rfl) (by kernel_rfl) (by kernel_rfl) Try.laidOut (by kernel_rfl) (by kernel_rfl) rfl (fun ds h => ?_) (fun n => s11_ok n) (fun x _ => taste_apart x.1 x.2.1 x.2.2)
  match ds, h with
  | [a, b, c], _ => rfl

theorem tasteApart_holds : Rows.TasteApartSaid :=
  OpenClaim.holds_of_wide 11 Try.f11 rfl rfl rfl rfl rfl rfl rfl ⟨rfl, rfl, rfl, rfl, rfl⟩ rfl rfl rfl rfl rfl (by kernel_rfl) Try.func11 (by kernel_rfl)
    (of_decide_eq_true (by kernel_rfl)) (by unfold Func.isWrapper; first | (rw [if_pos (by decide +kernel)]; kernel_rfl) | (rw [if_neg (by decide +kernel)]; exact ⟨rfl, rfl⟩))
    (fun os started H enc _ => tasteApart_lifted os started H enc)

end Go.Proofs.Ytbcbiemjokpghaa
