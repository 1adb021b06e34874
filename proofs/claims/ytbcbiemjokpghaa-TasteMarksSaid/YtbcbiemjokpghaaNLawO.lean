/- The reference's mark. -/
import Derived.Test.YtbcbiemjokpghaaNLawN
set_option linter.unusedSimpArgs false
set_option linter.unusedVariables false
namespace Go.Abs
open Go

theorem foldl_ge : (r : List Int) → (a : Int) → a ≤ r.foldl imax a ∧ ∀ x ∈ r, x ≤ r.foldl imax a
  | [], a => ⟨Int.le_refl _, by simp⟩
  | y :: r, a => by
    obtain ⟨h1, h2⟩ := foldl_ge r (imax a y)
    have e : a ≤ imax a y ∧ y ≤ imax a y := by unfold imax; split <;> omega
    rw [List.foldl_cons]
    refine ⟨by omega, fun x hx => ?_⟩
    rcases List.mem_cons.1 hx with rfl | hx
    · omega
    · exact h2 x hx

theorem maxL_ge {l : List Int} : ∀ x ∈ l, x ≤ maxL l := by
  cases l with
  | nil => simp
  | cons a r =>
    intro x hx
    obtain ⟨h1, h2⟩ := foldl_ge r a
    rcases List.mem_cons.1 hx with rfl | hx
    · exact h1
    · exact h2 x hx

theorem idxF_eq {α : Type} {p : α → Bool} : (l : List α) → (i b : Nat) → (hb : b < l.length) → p l[b] = true → (∀ j (hj : j < b), p (l[j]'(by omega)) = false) → idxF p i l = ((i + b : Nat) : Int)
  | [], i, b, hb, _, _ => by simp at hb
  | x :: l, i, 0, hb, h1, h2 => by
    have : p x = true := h1
    simp only [idxF, this, cond_true, Nat.add_zero]
  | x :: l, i, b + 1, hb, h1, h2 => by
    have h0 : p x = false := h2 0 (by omega)
    have ih := idxF_eq (p := p) l (i + 1) b (by simpa using hb) (by simpa using h1) (fun j hj => by have := h2 (j + 1) (by omega); simpa using this)
    simp only [idxF, h0, cond_false, ih]
    omega

/-- The best of the first i, so far; and whether there is another as good. -/
structure BestOf (l : List Int) (i b : Nat) (tw : Bool) : Prop where
  bi : b < i
  il : i ≤ l.length
  top : ∀ j, j < i → l.getD j 0 ≤ l.getD b 0
  first : ∀ j, j < b → l.getD j 0 < l.getD b 0
  twice : tw = true ↔ ∃ j, b < j ∧ j < i ∧ l.getD j 0 = l.getD b 0

theorem BestOf.step {l : List Int} {i b : Nat} {tw : Bool} (h : BestOf l i b tw) (hi : i < l.length) :
    (l.getD i 0 > l.getD b 0 → BestOf l (i + 1) i false) ∧ (l.getD i 0 = l.getD b 0 → BestOf l (i + 1) b true) ∧ (l.getD i 0 < l.getD b 0 → BestOf l (i + 1) b tw) := by
  obtain ⟨h1, h2, h3, h4, h5⟩ := h
  refine ⟨fun hg => ⟨by omega, hi, fun j hj => ?_, fun j hj => ?_, by simp; omega⟩, fun he => ⟨by omega, hi, fun j hj => ?_, h4, by simp only [true_iff]; exact ⟨i, h1, by omega, he⟩⟩, fun hl => ⟨by omega, hi, fun j hj => ?_, h4, ?_⟩⟩
  · by_cases hji : j = i
    · subst hji; omega
    · have := h3 j (by omega); omega
  · have := h3 j hj; omega
  · by_cases hji : j = i
    · subst hji; omega
    · exact h3 j (by omega)
  · by_cases hji : j = i
    · subst hji; omega
    · exact h3 j (by omega)
  · rw [h5]
    constructor
    · rintro ⟨j, a1, a2, a3⟩
      exact ⟨j, a1, by omega, a3⟩
    · rintro ⟨j, a1, a2, a3⟩
      by_cases hji : j = i
      · subst hji; omega
      · exact ⟨j, a1, by omega, a3⟩

theorem BestOf.mark {l : List Int} {b : Nat} {tw : Bool} (h : BestOf l l.length b tw) : markOf l = bif tw || (l.getD b 0 == 0) then -1 else (b : Int) := by
  obtain ⟨h1, _, h3, h4, h5⟩ := h
  have gd : ∀ j (hj : j < l.length), l.getD j 0 = l[j] := fun j hj => by rw [List.getD_eq_getElem?_getD, List.getElem?_eq_getElem hj]; rfl
  have hm : maxL l = l[b] := by
    have a1 := maxL_ge l[b] (List.getElem_mem h1)
    obtain ⟨j, hj, hje⟩ := List.getElem_of_mem (maxL_mem (l := l) (by omega))
    have := h3 j hj
    rw [gd j hj, gd b h1, hje] at this
    omega
  have hi : idxF (fun x => maxL l == x) 0 l = ((b : Nat) : Int) := by
    have := idxF_eq (p := fun x => maxL l == x) l 0 b h1 (by simp [hm]) (fun j hj => by
      have := h4 j hj
      rw [gd j (by omega), gd b h1] at this
      rw [hm]
      simp
      omega)
    rw [Nat.zero_add] at this
    exact this
  have hany : ((l.drop (((b : Nat) : Int) + 1).toNat).any fun x => maxL l == x) = tw := by
    have e : (((b : Nat) : Int) + 1).toNat = b + 1 := by omega
    rw [e, Bool.eq_iff_iff, h5, List.any_eq_true]
    constructor
    · rintro ⟨x, hx, hx2⟩
      obtain ⟨j, hj, hje⟩ := List.getElem_of_mem hx
      rw [List.length_drop] at hj
      rw [List.getElem_drop] at hje
      refine ⟨b + 1 + j, by omega, by omega, ?_⟩
      rw [gd _ (by omega), gd b h1, hje, ← hm]
      exact (by simpa using hx2 : maxL l = x).symm
    · rintro ⟨j, a1, a2, a3⟩
      rw [gd j a2, gd b h1] at a3
      refine ⟨l[j], ?_, by rw [hm, a3]; simp⟩
      rw [List.mem_iff_getElem]
      refine ⟨j - (b + 1), by rw [List.length_drop]; omega, ?_⟩
      rw [List.getElem_drop]
      congr 1
      omega
  unfold markOf
  rw [hi, hany, hm, gd b h1]
  cases tw <;> cases h0 : (l[b] == 0) <;> rfl

theorem v34 (n : Nat) (hf : Fuel n) (p : Pan) (hp : GoodP p) (cask : Int) (ts : List Int) (hts : okTs p ts) (hl : ts.length ≤ 1000) : s34 n p cask ts = some (markOf (tab p.2.1.toNat (cnt p cask ts))) := by
  have hlo := hf.lo
  have hM := hp.marks
  unfold s34
  rw [show ((p.1, (p.2.1, (p.2.2.1, p.2.2.2))) : Pan) = p from rfl, v33 n hf p hp cask ts hts hl, Option.bind_some]
  have hlen := tab_len p.2.1.toNat (cnt p cask ts)
  generalize tab p.2.1.toNat (cnt p cask ts) = l at *
  have gd : ∀ j (hj : j < l.length), geti l (j : Int) = some (l.getD j 0) := fun j hj => by rw [geti_nat, List.getElem?_eq_getElem hj, List.getD_eq_getElem?_getD, List.getElem?_eq_getElem hj]; rfl
  have h0 : BestOf l (1 + 0) 0 false := ⟨by omega, by omega, fun j hj => by
    have : j = 0 := by omega
    subst this
    exact Int.le_refl _, fun j hj => by omega, by simp; omega⟩
  refine (count_loop (A := Nat × Bool) (l.length - 1) (fun j a => (l, (a.1 : Int), a.2, ((1 + j : Nat) : Int), ())) (fun j a => some (markOf l)) (fun j a => BestOf l (1 + j) a.1 a.2) (by unfold maxLen; omega) ?_ ?_ (0, false) h0 (by omega))
  · rintro j ⟨b, tw⟩ hj _ _ hinv again ih
    have hinv : BestOf l (1 + j) b tw := hinv
    have hji : 1 + j < l.length := by omega
    have hlt : decide (((1 + j : Nat) : Int) < ((List.length l : Nat) : Int)) = true := by rw [decide_eq_true_eq]; omega
    have hw : IntKind.wrap .i64 (((1 + j : Nat) : Int) + 1) = ((1 + (j + 1) : Nat) : Int) := by rw [wrap_id] <;> omega
    obtain ⟨q1, q2, q3⟩ := hinv.step hji
    simp only [s34_l0, hlt, cond_true, gd _ hji, gd b (by have := hinv.bi; omega), Option.bind_some, hw]
    cases c1 : (l.getD (1 + j) 0 == l.getD b 0)
    · have n1 : ¬ l.getD (1 + j) 0 = l.getD b 0 := by simpa using c1
      simp only [cond_false]
      cases c2 : decide (l.getD (1 + j) 0 > l.getD b 0)
      · have n2 : ¬ l.getD (1 + j) 0 > l.getD b 0 := by simpa using c2
        simp only [cond_false]
        exact ih (b, tw) (q3 (by omega))
      · simp only [cond_true]
        exact ih (1 + j, false) (q1 (by simpa using c2))
    · have n1 : l.getD (1 + j) 0 = l.getD b 0 := by simpa using c1
      have c2 : decide (l.getD (1 + j) 0 > l.getD b 0) = false := by rw [decide_eq_false_iff_not]; omega
      simp only [cond_true, c2, cond_false]
      exact ih (b, true) (q2 n1)
  · rintro ⟨b, tw⟩ _ hinv again
    have e : 1 + (l.length - 1) = l.length := by omega
    have hinv : BestOf l (1 + (l.length - 1)) b tw := hinv
    rw [e] at hinv
    have hlt : decide (((1 + (l.length - 1) : Nat) : Int) < ((List.length l : Nat) : Int)) = false := by rw [decide_eq_false_iff_not]; omega
    have hb := hinv.bi
    simp only [s34_l0, hlt, cond_false]
    rw [hinv.mark]
    cases tw
    · simp only [Bool.not_false, part_true, gd b hb, Option.bind_some, Bool.false_or]
      cases (l.getD b 0 == 0) <;> rfl
    · rfl

end Go.Abs
