/- Shares: the two tests of a share say the same. -/
import Derived.Test.YtbcbiemjokpghaaNLawJ2
set_option linter.unusedSimpArgs false
set_option linter.unusedVariables false
namespace Go.Abs
open Go

theorem qrem_int (a b : Int) (hb : b ≠ 0) : qrem a b = some (a.tmod b) := by
  unfold qrem
  rw [if_neg hb]

theorem euclid_zero {n : Nat} (k0 : Int × Unit → Option Int) (m : Nat) (a : Int) : loopG (s105_l0 n) (m + 1) (a, (0 : Int), ()) (k0, ()) = k0 (a, ()) := by
  rw [loopG]
  simp [s105_l0]

theorem euclid_step {n : Nat} (k0 : Int × Unit → Option Int) (m : Nat) (a b : Int) (hb : b ≠ 0) : loopG (s105_l0 n) (m + 1) (a, b, ()) (k0, ()) = loopG (s105_l0 n) m (b, a.tmod b, ()) (k0, ()) := by
  rw [loopG]
  have e : (b != (0 : Int)) = true := by simpa using hb
  simp only [s105_l0, e, cond_true, qrem_int a b hb, Option.bind_some]

/-- Two steps halve the smaller number: Euclid's way ends soon. -/
theorem euclid_some {n : Nat} (k0 : Int × Unit → Option Int) : ∀ (k m : Nat) (a b : Int), b.natAbs < 2 ^ k → 2 * k + 1 ≤ m → ∃ g, loopG (s105_l0 n) m (a, b, ()) (k0, ()) = k0 (g, ())
  | 0, m, a, b, hb, hm => by
    have : b = 0 := by
      have : b.natAbs < 1 := by simpa using hb
      omega
    subst this
    obtain ⟨m', rfl⟩ : ∃ m', m = m' + 1 := ⟨m - 1, by omega⟩
    exact ⟨a, euclid_zero k0 m' a⟩
  | k + 1, m, a, b, hb, hm => by
    obtain ⟨m', rfl⟩ : ∃ m', m = m' + 1 + 1 := ⟨m - 2, by omega⟩
    by_cases h0 : b = 0
    · subst h0
      exact ⟨a, euclid_zero k0 _ a⟩
    · rw [euclid_step k0 _ a b h0]
      by_cases h1 : a.tmod b = 0
      · rw [h1]
        exact ⟨b, euclid_zero k0 _ b⟩
      · rw [euclid_step k0 _ b _ h1]
        refine euclid_some k0 k m' _ _ ?_ (by omega)
        have e1 : (a.tmod b).natAbs = a.natAbs % b.natAbs := Int.natAbs_tmod a b
        have e2 : (b.tmod (a.tmod b)).natAbs = b.natAbs % (a.tmod b).natAbs := Int.natAbs_tmod b (a.tmod b)
        have hbp : 0 < b.natAbs := by omega
        have hrp : 0 < (a.tmod b).natAbs := by omega
        have hr : (a.tmod b).natAbs < b.natAbs := by rw [e1]; exact Nat.mod_lt _ hbp
        have h2 : b.natAbs % (a.tmod b).natAbs < (a.tmod b).natAbs := Nat.mod_lt _ hrp
        have h3 : b.natAbs % (a.tmod b).natAbs ≤ b.natAbs - (a.tmod b).natAbs := by
          rw [Nat.mod_eq_sub_mod (Nat.le_of_lt hr)]
          exact Nat.mod_le _ _
        rw [e2]
        have : 2 ^ (k + 1) = 2 * 2 ^ k := by rw [Nat.pow_succ]; omega
        omega

theorem v105_some (n : Nat) (hf : Fuel n) (a b : Int) (hb : b.natAbs < 2 ^ 64) : ∃ g, s105 n a b = some g := by
  have hlo := hf.lo
  unfold s105
  obtain ⟨g, h⟩ := euclid_some (n := n) (fun x => match x with | (a_2, _) => some (imax a_2 (IntKind.wrap .i64 (0 - a_2)))) 64 n a b hb (by omega)
  exact ⟨_, h⟩

/-- The two tests of a share. -/
theorem share_same (n : Nat) (hf : Fuel n) (f : Int × Int) (h : f.2.natAbs < 2 ^ 64) : ∃ e, s109 n f = some e ∧ s54 n f = some e := by
  obtain ⟨g, hg⟩ := v105_some n hf f.1 f.2 h
  unfold s109 s54 s111
  simp only [show ((f.1, f.2) : Int × Int) = f from rfl, v133, hg, v82, v81]
  by_cases h1 : f.2 < 1
  · have a1 : decide (f.2 < (1 : Int)) = true := by simpa using h1
    have a2 : decide (f.2 > (0 : Int)) = false := by simp; omega
    rw [a1, a2]
    exact ⟨3, rfl, rfl⟩
  · have a1 : decide (f.2 < (1 : Int)) = false := by simpa using h1
    have a2 : decide (f.2 > (0 : Int)) = true := by simp; omega
    rw [a1, a2]
    simp only [Bool.not_false, part_true, Option.bind_some, Bool.false_or, Bool.true_and, bne]
    cases h2 : (g == 1)
    · exact ⟨3, rfl, rfl⟩
    · simp only [Bool.not_true, cond_false]
      refine ⟨_, rfl, ?_⟩
      have e : (decide (f.1 < (0 : Int)) || decide (f.1 > f.2) || decide (f.2 > (1000000000 : Int))) = !(inR f.1 0 f.2 && decide (f.2 ≤ (1000000000 : Int))) := by
        rw [Bool.eq_iff_iff]
        simp only [Bool.or_eq_true, decide_eq_true_eq, Bool.not_eq_true', Bool.and_eq_false_iff, decide_eq_false_iff_not]
        have : inR f.1 0 f.2 = false ↔ ¬ (0 ≤ f.1 ∧ f.1 ≤ f.2) := by
          rw [← inR_iff]
          simp
        rw [this]
        omega
      rw [e]
      unfold unl
      cases inR f.1 0 f.2 && decide (f.2 ≤ (1000000000 : Int)) <;> rfl

end Go.Abs
