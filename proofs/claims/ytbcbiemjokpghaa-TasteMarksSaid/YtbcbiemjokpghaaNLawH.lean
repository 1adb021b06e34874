/- awake; the reference's test of marks, and its walk; TasteBooks. -/
import Derived.Test.YtbcbiemjokpghaaNLawG
set_option linter.unusedSimpArgs false
set_option linter.unusedVariables false
namespace Go.Abs
open Go

theorem awake_ok (m : Nat) : s15 (m + 2000) = some true := by kernel_rfl

theorem marksErr_eq (b : Book) (l : List Int) : marksErr b l = bif !decide (l.length ≤ 40) then 8 else bif l.any (fun k => !inR k 0 ((b.1.length : Int) - 1)) then 6 else 0 := by
  unfold marksErr
  cases decide (l.length ≤ 40) <;> cases l.any (fun k => !inR k 0 ((b.1.length : Int) - 1)) <;> rfl

theorem v18 (n : Nat) (b : Book) (l : List Int) (hf : Fuel n) (hb : Lt n b.1) (hl : Lt n l) : s18 n b l = some (marksErr b l) := by
  rw [marksErr_eq]
  unfold s18
  rw [show decide (((List.length l : Nat) : Int) > (40 : Int)) = !decide (l.length ≤ 40) from dec_gt _ 40]
  cases hc : (!decide (l.length ≤ 40))
  · simp only [cond_false]
    refine list_loop0 l (fun i => (l, (i : Int), b.1, b.2.1, b.2.2, ())) (fun _ r => some (bif r.any (fun k => !inR k 0 ((b.1.length : Int) - 1)) then 6 else 0)) (hf.le hl) ?_ ?_ hl
    · intro i x r hi hx hd hg hlt hw again ih
      simp only [s18_l0, hlt, cond_true, hg, Option.bind_some, v19, lenPred hf hb, List.any_cons]
      cases inR x 0 ((b.1.length : Int) - 1)
      · rfl
      · simp only [Bool.not_true, cond_false, Bool.false_or, hw]
        exact ih
    · intro hlt again
      simp only [s18_l0, hlt, cond_false, List.any_nil]
  · rfl

theorem v40 (n : Nat) (b : Book) (l : List Int) (w : List Int) (hf : Fuel n) (hl : l.length + 1 < n) (hw : walkO b.2.2 b.2.1 l = some w) : s40 n b l = some w := by
  have hhi := hf.hi
  have hll : Lt n l := by unfold Lt; omega
  unfold s40
  refine (list_loop (A := List Int × Int) l (fun i a => (l, (i : Int), b.1, b.2.1, b.2.2, a.1 ++ [a.2], ())) (fun i a r => (walkO b.2.2 a.2 r).map (a.1 ++ ·)) (fun i a => a.1.length = i) (hf.le hll) ?_ ?_ ([], b.2.1) rfl hll).trans ?_
  · rintro i ⟨pre, k⟩ x r hi hx hd hg hlt hw' hinv again ih
    have h1 : pre.length = i := hinv
    have hlast : geti (pre ++ [k]) ((i : Nat) : Int) = some k := by rw [geti_nat, ← h1]; simp
    simp only [s40_l0, hlt, cond_true, hg, Option.bind_some, hw', hlast]
    simp only [walkO, stepTo]
    cases hc : geti b.2.2 k with
    | none => rfl
    | some c =>
      simp only [Option.bind_some]
      cases hm : geti c.2.1 x with
      | none => rfl
      | some k' =>
        have hch : chk ((pre ++ [k]).length + ([k'] : List Int).length) = some () := chk_ok (by simp; omega)
        simp only [Option.bind_some, hch]
        rw [ih (pre ++ [k], k') (by simp [h1])]
        simp [Option.map_map, Function.comp_def]
  · rintro ⟨pre, k⟩ hlt hinv again
    simp only [s40_l0, hlt, cond_false, walkO]
    rfl
  · rw [hw]; rfl

/-- A list of marks that is short, or a little too long. -/
def fewM (l : List Int) : Bool := decide (((List.length l : Nat) : Int) ≤ (12 : Int)) || (decide (((List.length l : Nat) : Int) > (40 : Int)) && decide (((List.length l : Nat) : Int) ≤ (42 : Int)))

theorem fewM_le {l : List Int} (h : fewM l = true) : l.length ≤ 42 := by
  simp only [fewM, Bool.or_eq_true, Bool.and_eq_true, decide_eq_true_eq] at h
  omega

theorem v36 (n : Nat) (l : List Int) : s36 n l = some (fewM l) := rfl

theorem taste_books (b : Book) (l : List Int) : ∃ n, s6 n b l = some true := by
  refine ⟨0 + 2000, ?_⟩
  generalize hm : (0 : Nat) = m
  have hm0 : m = 0 := hm.symm
  clear hm
  have hf : Fuel (m + 2000) := ⟨by omega, by omega⟩
  have ht := awake_ok m
  generalize hn : m + 2000 = n at *
  unfold s6
  simp only [ht, Option.bind_some, Bool.not_true, cond_false, show ((b.1, b.2.1, b.2.2) : Book) = b from rfl, v16 n b hf]
  cases c1 : fewB b
  · rfl
  · obtain ⟨hb, _⟩ := few_fit c1 hf
    simp only [Bool.not_true, Bool.not_false, part_true, v36, Option.bind_some, Bool.false_or]
    cases c2 : fewM l
    · rfl
    · have hl := fewM_le c2
      have hlt : Lt n l := by unfold Lt; omega
      have hl1 : l.length + 1 < n := by omega
      simp only [Bool.not_true, cond_false, v21 n b hf hb, Option.bind_some, v37 n b hf hb, v27 n l hf hlt, v39 n b hf hb, bne, beq_self_eq_true, Bool.or_self, v18 n b l hf hb.1 hlt]
      cases c3 : ((bookErr b).2 == 0)
      · have he : ((bif (bookErr b).2 == 0 then marksErr b l else (bookErr b).2) == 0) = false := by rw [c3]; exact c3
        rw [v38_bad n b l hf hb hlt he, c3]
        simp
      · have he0 : (bookErr b).2 = 0 := by simpa using c3
        simp only [cond_true]
        cases c4 : (marksErr b l == 0)
        · have he : ((bif (bookErr b).2 == 0 then marksErr b l else (bookErr b).2) == 0) = false := by rw [c3]; exact c4
          rw [v38_bad n b l hf hb hlt he, c3]
          simp
        · have hm0' : marksErr b l = 0 := by simpa using c4
          have hg := bookErr_good he0
          obtain ⟨w, hw, _⟩ := hg.walk l (marksErr_zero.1 hm0').2 b.2.1 hg.begin'
          obtain ⟨r, rfl, hr⟩ := walkO_ne hw
          rw [v38_ok n b l _ hf hb hl1 he0 hm0' hw]
          have hwl : IntKind.wrap .i64 ((l.length : Int) + 1) = (l.length : Int) + 1 := by rw [wrap_id] <;> omega
          simp only [Option.bind_some, Bool.not_true, cond_false, beq_self_eq_true, part_true, v40 n b l _ hf hl1 hw, v32 n (b.2.1 :: r) _ hf (by unfold Lt; simp; omega), hwl, Bool.true_and, List.length_cons, hr]
          simp
end Go.Abs
