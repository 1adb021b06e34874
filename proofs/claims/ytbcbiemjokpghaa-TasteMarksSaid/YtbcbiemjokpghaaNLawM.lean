/- TastePanels, in plain words. -/
import Derived.Test.YtbcbiemjokpghaaNLawL
set_option linter.unusedSimpArgs false
set_option linter.unusedVariables false
namespace Go.Abs
open Go

theorem part_no {α : Type} (m : Option α) (d : α) : part false m d = some d := rfl

def oneErr (p : Pan) (e : Int) : Int := firstErr [(panErr p).2, e]

theorem v35_bad (n : Nat) (hf : Fuel n) (p : Pan) (hp : fitP n p) (hl : p.2.2.2.length ≤ 1000) (t : Int) (he : (oneErr p (unl (inR t 0 ((p.2.2.2.length : Int) - 1)) 6) == 0) = false) :
    s35 n p t = some ((0, 0), oneErr p (unl (inR t 0 ((p.2.2.2.length : Int) - 1)) 6)) := by
  have hlo := hf.lo
  unfold s35
  simp only [show ((p.1, (p.2.1, (p.2.2.1, p.2.2.2))) : Pan) = p from rfl, v89 n p hf hp, Option.bind_some, show ((p.1, p.2.1, p.2.2.1, p.2.2.2) : Pan) = p from rfl, v90 n p _ hl, v80 n [_, _] (by simp [maxLen]) (by simp; omega), bne]
  rw [show firstErr [(panErr p).2, unl (inR t 0 ((p.2.2.2.length : Int) - 1)) 6] = oneErr p (unl (inR t 0 ((p.2.2.2.length : Int) - 1)) 6) from rfl, he]
  rfl

theorem v35_ok (n : Nat) (hf : Fuel n) (p : Pan) (hp : fitP n p) (hg : GoodP p) (t : Int) (ht : 0 ≤ t ∧ t < (p.2.2.2.length : Int)) (he : oneErr p (unl (inR t 0 ((p.2.2.2.length : Int) - 1)) 6) = 0) :
    s35 n p t = some ((((steady p t).1 : Int), ((steady p t).2 : Int)), 0) := by
  have hlo := hf.lo
  unfold s35
  simp only [show ((p.1, (p.2.1, (p.2.2.1, p.2.2.2))) : Pan) = p from rfl, v89 n p hf hp, Option.bind_some, show ((p.1, p.2.1, p.2.2.1, p.2.2.2) : Pan) = p from rfl, v90 n p _ hg.tasters.2, v80 n [_, _] (by simp [maxLen]) (by simp; omega), bne]
  rw [show firstErr [(panErr p).2, unl (inR t 0 ((p.2.2.2.length : Int) - 1)) 6] = oneErr p (unl (inR t 0 ((p.2.2.2.length : Int) - 1)) 6) from rfl, he]
  simp only [beq_self_eq_true, Bool.not_true, cond_false, v91 n hf p hg t ht, Option.bind_some]

theorem v51_bad (n : Nat) (hf : Fuel n) (p : Pan) (hp : fitP n p) (least : Int × Int) (e : Int) (hs : s109 n least = some e) (he : (oneErr p e == 0) = false) : s51 n p least = some ([], oneErr p e) := by
  have hlo := hf.lo
  unfold s51
  simp only [show ((p.1, (p.2.1, (p.2.2.1, p.2.2.2))) : Pan) = p from rfl, v89 n p hf hp, Option.bind_some, show ((least.1, least.2) : Int × Int) = least from rfl, hs, v80 n [_, _] (by simp [maxLen]) (by simp; omega), bne]
  rw [show firstErr [(panErr p).2, e] = oneErr p e from rfl, he]
  rfl

theorem v51_ok (n : Nat) (hf : Fuel n) (p : Pan) (hp : fitP n p) (hg : GoodP p) (least : Int × Int) (hs : s109 n least = some 0) (he : (panErr p).2 = 0) : s51 n p least = some (steadiest p least, 0) := by
  have hlo := hf.lo
  unfold s51
  simp only [show ((p.1, (p.2.1, (p.2.2.1, p.2.2.2))) : Pan) = p from rfl, v89 n p hf hp, Option.bind_some, show ((least.1, least.2) : Int × Int) = least from rfl, hs, v80 n [_, _] (by simp [maxLen]) (by simp; omega), he]
  have e0 : (firstErr [(0 : Int), 0] != 0) = false := rfl
  rw [e0]
  simp only [cond_false, show ((p.1, p.2.1, p.2.2.1, p.2.2.2) : Pan) = p from rfl, v110 n hf p hg least, Option.bind_some]

theorem taste_panels (p : Pan) (t : Int) (least : Int × Int) (hle : least.2.natAbs < 2 ^ 64) : ∃ n, s9 n p t least = some true := by
  refine ⟨0 + 2000, ?_⟩
  generalize hm : (0 : Nat) = m
  have hm0 : m = 0 := hm.symm
  clear hm
  have hf : Fuel (m + 2000) := ⟨by omega, by omega⟩
  have ht := awake_ok m
  generalize hn : m + 2000 = n at *
  obtain ⟨e, hs, hs'⟩ := share_same n hf least hle
  unfold s9
  simp only [ht, Option.bind_some, Bool.not_true, cond_false, show ((p.1, (p.2.1, (p.2.2.1, p.2.2.2))) : Pan) = p from rfl, v24 n p hf]
  cases c1 : fewP p
  · rfl
  · obtain ⟨hp, l1, l2⟩ := fewP_fit c1 hf
    have hq : fitQ n p := ⟨hp.1, hp.2.1⟩
    simp only [Bool.not_true, cond_false, v26 n p hf hp, Option.bind_some, show ((p.1, p.2.1, p.2.2.1, p.2.2.2) : Pan) = p from rfl, show ((least.1, least.2) : Int × Int) = least from rfl, v50 n p hf hp, v52 n p hf hq, v30 n _ p.2.2.2.length (by omega), hs', bne]
    generalize hu : unl (inR t 0 ((p.2.2.2.length : Int) - 1)) 6 = u
    have hE : ∀ x, oneErr p x = bif (panErr p).2 == 0 then (bif x == 0 then 0 else x) else (panErr p).2 := fun x => rfl
    cases c3 : ((panErr p).2 == 0)
    · have h1 : ∀ x, oneErr p x = (panErr p).2 := fun x => by rw [hE, c3]; rfl
      rw [v35_bad n hf p hp (by omega) t (by rw [h1]; exact c3), v51_bad n hf p hp least e hs (by rw [h1]; exact c3), h1, h1]
      simp [c3]
    · have hpe : (panErr p).2 = 0 := by simpa using c3
      have hg := panErr_good hpe
      have h1 : ∀ x, oneErr p x = x := fun x => by
        rw [hE, c3]
        cases h : (x == 0)
        · rfl
        · simp only [cond_true]
          exact (by simpa using h : x = 0).symm
      have hst : (steadiest p least).length ≤ 1000 := (steadiest_ok p least hg.tasters.2).2
      have h51 : s51 n p least = some (bif e == 0 then steadiest p least else [], e) := by
        cases h : (e == 0)
        · rw [v51_bad n hf p hp least e hs (by rw [h1]; exact h), h1]
          rfl
        · have e0 : e = 0 := by simpa using h
          subst e0
          rw [v51_ok n hf p hp hg least hs hpe]
          rfl
      have h35 : s35 n p t = some (bif u == 0 then (((steady p t).1 : Int), ((steady p t).2 : Int)) else (0, 0), u) := by
        cases h : (u == 0)
        · rw [v35_bad n hf p hp (by omega) t (by rw [h1, hu]; exact h), h1, hu]
          rfl
        · have u0 : u = 0 := by simpa using h
          subst u0
          have rt := inR_iff.1 ((unl_zero (show (6 : Int) ≠ 0 by decide)).1 hu)
          rw [v35_ok n hf p hp hg t ⟨rt.1, by omega⟩ (by rw [h1, hu])]
          rfl
      rw [h51, h35]
      have h53 : u = 0 → s53 n p t = some (((steady p t).1 : Int), ((steady p t).2 : Int)) := fun u0 => by
        rw [u0] at hu
        have rt := inR_iff.1 ((unl_zero (show (6 : Int) ≠ 0 by decide)).1 hu)
        exact v53 n hf p hg t ⟨rt.1, by omega⟩
      simp only [Option.bind_some, beq_self_eq_true, Bool.not_true, Bool.or_self, cond_false]
      have fin : ∀ b : Bool, b = false → (bif b then some false else
          bif !(e == 0) then some (((List.length (bif e == 0 then steadiest p least else []) : Nat) : Int) == (0 : Int)) else
            (part (e == 0) (s55 n p least) []).bind fun x_12 => (part (e == 0) (s32 n (bif e == 0 then steadiest p least else []) x_12) false).bind fun x_13 => some ((e == 0) && x_13)) = some true := by
        rintro b rfl
        simp only [cond_false]
        cases h : (e == 0)
        · simp
        · simp only [Bool.not_true, cond_false, cond_true, part_true, v55 n hf p hg least, Option.bind_some, v32 n (steadiest p least) _ hf (by unfold Lt; have := hf.lo; omega), beq_self_eq_true, Bool.true_and]
      cases c4 : (u == 0)
      · simp only [Bool.not_false, Bool.true_and, Bool.false_and, Bool.and_false, Bool.not_true, Bool.or_false, cond_false, beq_self_eq_true, Bool.and_self, part_no, Option.bind_some]
        exact fin _ rfl
      · have u0 : u = 0 := by simpa using c4
        simp only [Bool.not_true, Bool.false_and, Bool.not_false, Bool.true_and, part_true, h53 u0, Option.bind_some, cond_true, Bool.false_or, beq_self_eq_true, Bool.and_self, Bool.or_self]
        exact fin _ rfl

end Go.Abs
