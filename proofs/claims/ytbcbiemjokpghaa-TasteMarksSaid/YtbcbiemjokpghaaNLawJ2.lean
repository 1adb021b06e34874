/- TasteAgrees, in plain words. -/
import Derived.Test.YtbcbiemjokpghaaNLawJ
set_option linter.unusedSimpArgs false
set_option linter.unusedVariables false
namespace Go.Abs
open Go

def fewP (p : Pan) : Bool := bif !decide (p.2.2.1.length ≤ 32) || !decide (p.2.2.2.length ≤ 10) then false else !(p.2.2.2.any fun l => !decide (l.length ≤ 32))

theorem v24_l0 (n : Nat) (hf : Fuel n) (p : Pan) (h1 : Lt n p.2.2.2) (k0 : Unit → Option Bool) (k1 : Bool × Unit → Option Bool) :
    loopG (s24_l0 n) n ((0 : Int), p.1, p.2.1, p.2.2.1, p.2.2.2, ()) (k0, k1, ()) = bif (p.2.2.2.any fun l => !decide (l.length ≤ 32)) then k1 (false, ()) else k0 () := by
  refine list_loop0 p.2.2.2 (fun i => ((i : Int), p.1, p.2.1, p.2.2.1, p.2.2.2, ())) (fun _ r => bif (r.any fun l => !decide (l.length ≤ 32)) then k1 (false, ()) else k0 ()) (hf.le h1) ?_ ?_ h1
  · intro i x r hi hx hd hg hlt hw again ih
    simp only [s24_l0, hlt, cond_true, hg, Option.bind_some, hw, show decide (((List.length x : Nat) : Int) > (32 : Int)) = !decide (x.length ≤ 32) from dec_gt _ 32, List.any_cons]
    cases decide (x.length ≤ 32)
    · rfl
    · simp only [Bool.not_true, cond_false, Bool.false_or]
      exact ih
  · intro hlt again
    simp only [s24_l0, hlt, cond_false, List.any_nil]

theorem v24 (n : Nat) (p : Pan) (hf : Fuel n) : s24 n p = some (fewP p) := by
  have hlo := hf.lo
  unfold s24 fewP
  rw [show decide (((List.length p.2.2.1 : Nat) : Int) > (32 : Int)) = !decide (p.2.2.1.length ≤ 32) from dec_gt _ 32, show decide (((List.length p.2.2.2 : Nat) : Int) > (10 : Int)) = !decide (p.2.2.2.length ≤ 10) from dec_gt _ 10]
  cases h1 : (!decide (p.2.2.1.length ≤ 32) || !decide (p.2.2.2.length ≤ 10))
  · simp only [Bool.or_eq_false_iff, Bool.not_eq_false', decide_eq_true_eq] at h1
    simp only [cond_false]
    rw [v24_l0 n hf p (by unfold Lt; omega)]
    cases p.2.2.2.any fun l => !decide (l.length ≤ 32) <;> rfl
  · rfl

theorem fewP_fit {p : Pan} (h : fewP p = true) {n : Nat} (hf : Fuel n) : fitP n p ∧ p.2.2.1.length ≤ 32 ∧ p.2.2.2.length ≤ 10 := by
  have hlo := hf.lo
  unfold fewP at h
  cases h1 : (!decide (p.2.2.1.length ≤ 32) || !decide (p.2.2.2.length ≤ 10))
  · rw [h1] at h
    simp only [cond_false, Bool.not_eq_true'] at h
    simp only [Bool.or_eq_false_iff, Bool.not_eq_false', decide_eq_true_eq] at h1
    refine ⟨⟨by unfold Lt; omega, by unfold Lt; omega, fun t ht => ?_⟩, h1⟩
    have := any_false h t ht
    rw [Bool.not_eq_false', decide_eq_true_eq] at this
    unfold Lt
    omega
  · rw [h1] at h
    cases h

theorem v30 (n : Nat) (i : Int) (L : Nat) (hL : L ≤ 1000) : s30 n i ((L : Nat) : Int) = some (unl (inR i 0 ((L : Int) - 1)) 6) := by
  unfold s30
  rw [v19, Option.bind_some, wrap_id (by omega) (by omega)]
  cases inR i 0 ((L : Int) - 1) <;> rfl

theorem taste_agrees (p : Pan) (a b : Int) : ∃ n, s8 n p a b = some true := by
  refine ⟨0 + 2000, ?_⟩
  generalize hm : (0 : Nat) = m
  have hm0 : m = 0 := hm.symm
  clear hm
  have hf : Fuel (m + 2000) := ⟨by omega, by omega⟩
  have ht := awake_ok m
  generalize hn : m + 2000 = n at *
  unfold s8
  simp only [ht, Option.bind_some, Bool.not_true, cond_false, show ((p.1, (p.2.1, (p.2.2.1, p.2.2.2))) : Pan) = p from rfl, v24 n p hf]
  cases c1 : fewP p
  · rfl
  · obtain ⟨hp, l1, l2⟩ := fewP_fit c1 hf
    have hq : fitQ n p := ⟨hp.1, hp.2.1⟩
    simp only [Bool.not_true, cond_false, v26 n p hf hp, Option.bind_some, show ((p.1, p.2.1, p.2.2.1, p.2.2.2) : Pan) = p from rfl, v29 n p hf hq, v30 n _ p.2.2.2.length (by omega), bne]
    have hE : agErr p a b = bif (panErr p).2 == 0 then (bif unl (inR a 0 ((p.2.2.2.length : Int) - 1)) 6 == 0 then (bif unl (inR b 0 ((p.2.2.2.length : Int) - 1)) 6 == 0 then 0 else unl (inR b 0 ((p.2.2.2.length : Int) - 1)) 6) else unl (inR a 0 ((p.2.2.2.length : Int) - 1)) 6) else (panErr p).2 := rfl
    cases c3 : ((panErr p).2 == 0)
    · rw [c3] at hE
      simp only [cond_false] at hE
      rw [v47_bad n hf p hp (by omega) a b (by rw [hE]; exact c3), hE]
      simp [c3]
    · rw [c3] at hE
      simp only [cond_true] at hE
      cases c4 : (unl (inR a 0 ((p.2.2.2.length : Int) - 1)) 6 == 0)
      · rw [c4] at hE
        simp only [cond_false] at hE
        rw [v47_bad n hf p hp (by omega) a b (by rw [hE]; exact c4), hE]
        simp [c4]
      · rw [c4] at hE
        simp only [cond_true] at hE
        cases c5 : (unl (inR b 0 ((p.2.2.2.length : Int) - 1)) 6 == 0)
        · rw [c5] at hE
          simp only [cond_false] at hE
          rw [v47_bad n hf p hp (by omega) a b (by rw [hE]; exact c5), hE]
          simp [c5]
        · rw [c5] at hE
          simp only [cond_true] at hE
          have hpe : (panErr p).2 = 0 := by simpa using c3
          have ua : unl (inR a 0 ((p.2.2.2.length : Int) - 1)) 6 = 0 := by simpa using c4
          have ub : unl (inR b 0 ((p.2.2.2.length : Int) - 1)) 6 = 0 := by simpa using c5
          have hg := panErr_good hpe
          have ra := inR_iff.1 ((unl_zero (show (6 : Int) ≠ 0 by decide)).1 ua)
          have rb := inR_iff.1 ((unl_zero (show (6 : Int) ≠ 0 by decide)).1 ub)
          have ha : 0 ≤ a ∧ a < (p.2.2.2.length : Int) := ⟨ra.1, by omega⟩
          have hb : 0 ≤ b ∧ b < (p.2.2.2.length : Int) := ⟨rb.1, by omega⟩
          have e2 : agErr p b a = 0 := by simp [agErr, firstErr, hpe, ua, ub]
          have e3 : agErr p a a = 0 := by simp [agErr, firstErr, hpe, ua]
          have hgl := hg.glasses
          have ea := (hg.each _ (tst_get ha).2).1
          have es : eqs (tst p a) (tst p a) = p.2.2.1.length := by rw [eqs_self, ea]
          rw [v47_ok n hf p hp hg a b hE ha hb, v47_ok n hf p hp hg b a e2 hb ha, v47_ok n hf p hp hg a a e3 ha ha, v48_ok n hf p hg a b ha hb, es, agree_self _ hgl.1, eqs_comm (tst p b) (tst p a)]
          simp [part, s49]

end Go.Abs
