/- For every rule book and every text: criaderalaw07.TasteTexts returns true, and its arguments read afterwards as before; where two tables of the library's start as the program's text lays them. No further condition. -/
import Derived.Test.YtbcbiemjokpghaaDoorTie
import Derived.Test.YtbcbiemjokpghaaDoorCards
import Derived.ProofKit
import Derived.OpenShut
import Derived.LaidMore
import Derived.Lay
import Derived.SevenTiedAt
import Derived.Stop.Joined
import Derived.Test.YtbcbiemjokpghaaDoorX4
import Derived.Test.YtbcbiemjokpghaaDoorX5
namespace Go.Proofs.YtbcbiemjokpghaaDoor
open Go Go.Abs Go.ChangeShapes Go.WideShapes Go.RowKit

theorem Tryd.own : ownKnob Tryd.prog.godebug = none := by kernel_rfl
theorem Tryd.laidOut : laidOutB Tryd.prog = true := by kernel_rfl

theorem tasteTexts_lifted (os : Os) (started : os.Started) (H : Type) (enc : TypeId × Value → H) :
    ReturnsInHanded {} Tryd.checked os 3 .any (fun w args => (Rows.tasteTextsSpec.pre enc Tryd.prog Tryd.f3 Rows.tasteTextsRow.domain false w args ∧ laidMetH Tryd.prog Rows.tasteTextsRow.laid w) ∧ sizedMet enc Tryd.prog Tryd.f3 (OpenSpec.ofChange Rows.tasteTextsSpec) false w args)
      (Rows.tasteTextsSpec.post enc Tryd.prog Tryd.f3 false true false false) := by
  refine law_liftedX (C := Tryd.checked) (X := fun w _ => laidMetH Tryd.prog Rows.tasteTextsRow.laid w) (fun _ _ _ hh h => h.of_heap hh) (Ts := [25, 9]) (tb := 4) (nn := 12) (ins := (s3_c 0).ins) (g := fun n x => s3 n x.1 x.2) Tryd.own started (by kernel_rfl) Tryd.func3
    (ChangeSpec.witness_shaped (enc := enc) (C := Tryd.checked) (os := os) (X := fun w _ => laidMetH Tryd.prog Rows.tasteTextsRow.laid w) false (World.laidAll Tryd.prog os Rows.tasteTextsRow.laid) #[.agg #[.slice none 0 0, .int .i64 0, .slice none 0 0], .string ⟨#[]⟩] 8 (World.laidAll_os _ _ _)
      (World.shaped_of_ZipB (by kernel_rfl) (by kernel_rfl)) (by kernel_rfl) (by kernel_rfl) (by kernel_rfl)
      (by rw [MakeChecks.laidMetH_plain _ _ _ (by kernel_rfl)]; exact laidMet_laidAll _ (by kernel_rfl) (by kernel_rfl)))
    (by kernel_rfl) (by kernel_rfl) (by kernel_rfl) Tryd.laidOut (by kernel_rfl) (by kernel_rfl) rfl (fun ds h => ?_) (fun n => s3_ok n) (fun x _ => taste_texts x.1 x.2)
  match ds, h with
  | [a, b], _ => rfl

theorem tasteTexts_holds : Rows.TasteTextsSaid :=
  OpenClaim.holds_of_wide 3 Tryd.f3 rfl rfl rfl rfl rfl rfl rfl ⟨rfl, rfl, rfl, rfl, rfl⟩ rfl rfl rfl rfl rfl (by kernel_rfl) Tryd.func3 (by kernel_rfl)
    (of_decide_eq_true (by kernel_rfl)) (by unfold Func.isWrapper; first | (rw [if_pos (by decide +kernel)]; kernel_rfl) | (rw [if_neg (by decide +kernel)]; exact ⟨rfl, rfl⟩))
    (fun os started H enc _ => tasteTexts_lifted os started H enc)

theorem tasteTexts_card : Rows.TasteTextsCardSaid :=
  Claim7.holds_tied_plain_at .later [] [.data, .pinned] true (true, "ae02fd7e0ff1a2ab2b0816c87fb204dbfedbafcd77041e9d0f551aa4da4cc98f") false tasteTexts_holds (fun _ h => by cases h) (by kernel_rfl) (fun _ h => by cases h) tasteTexts_row_tie rfl ⟨rfl, rfl⟩ (by kernel_rfl) rfl
    (fun f fn hf hfn => by
      obtain rfl : f = 3 := Option.some.inj ((show Tryd.prog.funcNamed "criadera/criaderalaw07.TasteTexts" = some 3 by kernel_rfl).symm.trans hf) |>.symm
      obtain rfl : fn = Tryd.f3 := (Option.some.inj (Tryd.func3.symm.trans hfn)).symm
      exact ⟨by kernel_rfl, fun j t ht => by
        rw [Tryd.params3] at ht
        have hm : t ∈ [25, 9] := by simpa using Array.mem_of_getElem? ht
        have hall : ([25, 9].all fun u => !Tryd.prog.wantsStandIn u) = true := by kernel_rfl
        exact (show Tryd.prog.wantsStandIn t = false by simpa using List.all_eq_true.1 hall t hm)⟩)
    (by kernel_rfl)

end Go.Proofs.YtbcbiemjokpghaaDoor
