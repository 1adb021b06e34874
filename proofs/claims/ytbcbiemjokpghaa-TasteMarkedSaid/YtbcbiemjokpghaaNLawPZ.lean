/- For every panel and every two shares: criaderalaw07.TasteMarked returns true, and its arguments read afterwards as before. No condition. -/
import Derived.Test.YtbcbiemjokpghaaNLawP
import Derived.Test.YtbcbiemjokpghaaNAbsZB
import Derived.Test.YtbcbiemjokpghaaRows
import Derived.ProofKit
namespace Go.Proofs.Ytbcbiemjokpghaa
open Go Go.Abs Go.ChangeShapes Go.WideShapes Go.RowKit

theorem Try.own : ownKnob Try.prog.godebug = none := by kernel_rfl
theorem Try.laidOut : laidOutB Try.prog = true := by kernel_rfl

theorem shares_wide (p : Pan) (f l : Int × Int) (h : wfL (s10_c 0).ins (p, f, l)) : f.2.natAbs < 2 ^ 64 ∧ l.2.natAbs < 2 ^ 64 := by
  obtain ⟨_, hf, h⟩ := h
  obtain ⟨a, b⟩ := l
  obtain ⟨c, d⟩ := f
  have h2 : IntKind.min .i64 ≤ b ∧ b ≤ IntKind.max .i64 := h.2
  have h3 : IntKind.min .i64 ≤ d ∧ d ≤ IntKind.max .i64 := hf.2
  have e1 : IntKind.min .i64 = -9223372036854775808 := by decide
  have e2 : IntKind.max .i64 = 9223372036854775807 := by decide
  rw [e1, e2] at h2 h3
  show d.natAbs < 2 ^ 64 ∧ b.natAbs < 2 ^ 64
  omega

theorem tasteMarked_lifted (os : Os) (started : os.Started) (H : Type) (enc : TypeId × Value → H) :
    ReturnsInHanded {} Try.checked os 10 .any (Rows.tasteMarkedSpec.pre6 enc Try.prog Try.f10 Rows.tasteMarkedRow.domain false) (Rows.tasteMarkedSpec.post enc Try.prog Try.f10 false true false false) := by
  refine law_lifted (C := Try.checked) (Ts := [40, 79, 79]) (tb := 4) (nn := 12) (ins := (s10_c 0).ins) (g := fun n x => s10 n x.1 x.2.1 x.2.2) Try.own started (by kernel_rfl) Try.func10
    (ChangeSpec.witness6 (enc := enc) (C := Try.checked) false ⟨#[], #[.agg #[.int .i64 0, .int .i64 0, .slice none 0 0, .slice none 0 0], .agg #[.int .i64 0, .int .i64 0], .agg #[.int .i64 0, .int .i64 0]], []⟩ 8 (by kernel_rfl) (by kernel_rfl) (by kernel_rfl) (by kernel_rfl))
    (by kernel_rfl) (by kernel_rfl) (by kernel_rfl) Try.laidOut (by kernel_rfl) (by kernel_rfl) rfl (fun ds h => ?_) (fun n => s10_ok n) (fun x hx => taste_marked x.1 x.2.1 x.2.2 (shares_wide x.1 x.2.1 x.2.2 hx).1 (shares_wide x.1 x.2.1 x.2.2 hx).2)
  match ds, h with
  | [a, b, c], _ => rfl

theorem tasteMarked_holds : Rows.TasteMarkedSaid :=
  OpenClaim.holds_of_wide 10 Try.f10 rfl rfl rfl rfl rfl rfl rfl ⟨rfl, rfl, rfl, rfl, rfl⟩ rfl rfl rfl rfl rfl (by kernel_rfl) Try.func10 (by kernel_rfl)
    (of_decide_eq_true (by kernel_rfl)) (by unfold Func.isWrapper; first | (rw [if_pos (by decide +kernel)]; kernel_rfl) | (rw [if_neg (by decide +kernel)]; exact ⟨rfl, rfl⟩))
    (fun os started H enc _ => tasteMarked_lifted os started H enc)

end Go.Proofs.Ytbcbiemjokpghaa
