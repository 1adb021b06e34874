/- For every panel, every number and every share: criaderalaw07.TastePanels returns true, and its arguments read afterwards as before. No condition. -/
import Derived.Test.YtbcbiemjokpghaaNLawM
import Derived.Test.YtbcbiemjokpghaaNAbsZB
import Derived.Test.YtbcbiemjokpghaaRows
import Derived.ProofKit
namespace Go.Proofs.Ytbcbiemjokpghaa
open Go Go.Abs Go.ChangeShapes Go.WideShapes Go.RowKit

theorem Try.own : ownKnob Try.prog.godebug = none := by kernel_rfl
theorem Try.laidOut : laidOutB Try.prog = true := by kernel_rfl

theorem share_wide (p : Pan) (t : Int) (l : Int × Int) (h : wfL (s9_c 0).ins (p, t, l)) : l.2.natAbs < 2 ^ 64 := by
  obtain ⟨_, _, h⟩ := h
  obtain ⟨a, b⟩ := l
  have h2 : IntKind.min .i64 ≤ b ∧ b ≤ IntKind.max .i64 := h.2
  have e1 : IntKind.min .i64 = -9223372036854775808 := by decide
  have e2 : IntKind.max .i64 = 9223372036854775807 := by decide
  rw [e1, e2] at h2
  show b.natAbs < 2 ^ 64
  omega

theorem tastePanels_lifted (os : Os) (started : os.Started) (H : Type) (enc : TypeId × Value → H) :
    ReturnsInHanded {} Try.checked os 9 .any (Rows.tastePanelsSpec.pre6 enc Try.prog Try.f9 Rows.tastePanelsRow.domain false) (Rows.tastePanelsSpec.post enc Try.prog Try.f9 false true false false) := by
  refine law_lifted (C := Try.checked) (Ts := [40, 3, 79]) (tb := 4) (nn := 12) (ins := (s9_c 0).ins) (g := fun n x => s9 n x.1 x.2.1 x.2.2) Try.own started (by kernel_rfl) Try.func9
    (ChangeSpec.witness6 (enc := enc) (C := Try.checked) false ⟨#[], #[.agg #[.int .i64 0, .int .i64 0, .slice none 0 0, .slice none 0 0], .int .i64 0, .agg #[.int .i64 0, .int .i64 0]], []⟩ 8 (by kernel_rfl) (by kernel_rfl) (by kernel_rfl) (by kernel_rfl))
    (by kernel_rfl) (by kernel_rfl) (by kernel_rfl) Try.laidOut (by kernel_rfl) (by kernel_rfl) rfl (fun ds h => ?_) (fun n => s9_ok n) (fun x hx => taste_panels x.1 x.2.1 x.2.2 (share_wide x.1 x.2.1 x.2.2 hx))
  match ds, h with
  | [a, b, c], _ => rfl

theorem tastePanels_holds : Rows.TastePanelsSaid :=
  OpenClaim.holds_of_wide 9 Try.f9 rfl rfl rfl rfl rfl rfl rfl ⟨rfl, rfl, rfl, rfl, rfl⟩ rfl rfl rfl rfl rfl (by kernel_rfl) Try.func9 (by kernel_rfl)
    (of_decide_eq_true (by kernel_rfl)) (by unfold Func.isWrapper; first | (rw [if_pos (by decide +kernel)]; kernel_rfl) | (rw [if_neg (by decide +kernel)]; exact ⟨rfl, rfl⟩))
    (fun os started H enc _ => tastePanels_lifted os started H enc)

end Go.Proofs.Ytbcbiemjokpghaa
