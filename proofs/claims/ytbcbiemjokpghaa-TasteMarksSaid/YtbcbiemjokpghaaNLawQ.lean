/- TasteMarks: the errors of tasters; the law, in plain words. -/
import Derived.Test.YtbcbiemjokpghaaNLawO
set_option linter.unusedSimpArgs false
set_option linter.unusedVariables false
namespace Go.Abs
open Go

def prevOk (prev : Option Int) (x : Int) : Bool := match prev with
  | none => true
  | some y => decide (x > y)

def tsGo (L : Int) : Option Int → List Int → Int
  | _, [] => 0
  | prev, x :: r => bif unl (inR x 0 (L - 1)) 6 == 0 then (bif prevOk prev x then tsGo L (some x) r else 9) else unl (inR x 0 (L - 1)) 6

def PrevAt (l : List Int) (i : Nat) (prev : Option Int) : Prop := match prev with
  | none => i = 0
  | some y => 0 < i ∧ l[i - 1]? = some y

theorem v125 (n : Nat) (hf : Fuel n) (p : Pan) (l : List Int) (hL : p.2.2.2.length ≤ 1000) (hl : l.length ≤ 1000) : s125 n p l = some (tsGo (p.2.2.2.length : Int) none l) := by
  have hlo := hf.lo
  unfold s125
  refine list_loop (A := Option Int) l (fun i _ => (l, l, ((List.length l : Nat) : Int), (i : Int), p.1, p.2.1, p.2.2.1, p.2.2.2, ())) (fun i a r => some (tsGo (p.2.2.2.length : Int) a r)) (fun i a => PrevAt l i a) (by unfold maxLen; omega) ?_ ?_ none rfl (by omega)
  · intro i a x r hi hx hd hg hlt hw hinv again ih
    simp only [s125_l0, hlt, cond_true, hg, Option.bind_some, show ((p.1, (p.2.1, (p.2.2.1, p.2.2.2))) : Pan) = p from rfl, v90 n p x hL, v81, hw]
    have key : ∃ z, part (!((i : Int) == (0 : Int))) (geti l (imax (0 : Int) (IntKind.wrap .i64 ((i : Int) - (1 : Int))))) (0 : Int) = some z ∧ (((i : Int) == (0 : Int)) || decide (x > z)) = prevOk a x := by
      cases a with
      | none =>
        have : i = 0 := hinv
        subst this
        exact ⟨0, rfl, rfl⟩
      | some y =>
        obtain ⟨h0, hy⟩ := hinv
        have e1 : ((i : Int) == (0 : Int)) = false := by simp; omega
        have e2 : imax (0 : Int) (IntKind.wrap .i64 ((i : Int) - (1 : Int))) = ((i - 1 : Nat) : Int) := by
          rw [wrap_id (by omega) (by omega)]
          unfold imax
          split <;> omega
        refine ⟨y, ?_, ?_⟩
        · rw [e1, e2, geti_nat, hy]; rfl
        · rw [e1]; rfl
    obtain ⟨z, k1, k2⟩ := key
    rw [k1]
    simp only [Option.bind_some, k2, v80 n [_, _] (by simp [maxLen]) (by simp; omega), bne, tsGo]
    have hF : ∀ u w : Int, firstErr [u, w] = bif u == 0 then (bif w == 0 then 0 else w) else u := fun u w => rfl
    rw [hF]
    have hnext : PrevAt l (i + 1) (some x) := ⟨by omega, by simpa using hx⟩
    cases c1 : (unl (inR x 0 ((p.2.2.2.length : Int) - 1)) 6 == 0)
    · simp only [cond_false, c1, Bool.not_false, cond_true]
    · cases c2 : prevOk a x
      · rfl
      · simp only [cond_true]
        rw [show (unl true 9 : Int) = 0 from rfl]
        simp only [beq_self_eq_true, cond_true, Bool.not_true, cond_false]
        exact ih _ hnext
  · intro a hlt _ again
    simp only [s125_l0, hlt, cond_false, tsGo]

theorem v31 (n : Nat) (hf : Fuel n) (p : Pan) (l : List Int) (hL : p.2.2.2.length ≤ 1000) (hl : l.length ≤ 1000) : s31 n p l = some (tsGo (p.2.2.2.length : Int) none l) := by
  have hlo := hf.lo
  unfold s31
  refine list_loop (A := Option Int) l (fun i _ => (l, (i : Int), p.1, p.2.1, p.2.2.1, p.2.2.2, ())) (fun i a r => some (tsGo (p.2.2.2.length : Int) a r)) (fun i a => PrevAt l i a) (by unfold maxLen; omega) ?_ ?_ none rfl (by omega)
  · intro i a x r hi hx hd hg hlt hw hinv again ih
    simp only [s31_l0, hlt, cond_true, hg, Option.bind_some, v30 n x p.2.2.2.length hL, hw, bne, tsGo]
    have hnext : PrevAt l (i + 1) (some x) := ⟨by omega, by simpa using hx⟩
    cases c1 : (unl (inR x 0 ((p.2.2.2.length : Int) - 1)) 6 == 0)
    · rfl
    · simp only [Bool.not_true, cond_false, cond_true]
      cases a with
      | none =>
        have : i = 0 := hinv
        subst this
        simp only [prevOk, cond_true]
        exact ih _ hnext
      | some y =>
        obtain ⟨h0, hy⟩ := hinv
        have e1 : decide ((i : Int) > (0 : Int)) = true := by simp; omega
        have e2 : IntKind.wrap .i64 ((i : Int) - (1 : Int)) = ((i - 1 : Nat) : Int) := by rw [wrap_id (by omega) (by omega)]; omega
        have e3 : geti l ((i - 1 : Nat) : Int) = some y := by rw [geti_nat, hy]
        simp only [e1, part_true, e2, e3, Option.bind_some, Bool.true_and, prevOk]
        have e4 : decide (x ≤ y) = !decide (x > y) := by
          rw [Bool.eq_iff_iff]; simp
        rw [e4]
        cases decide (x > y)
        · rfl
        · simp only [Bool.not_true, cond_false, cond_true]
          exact ih _ hnext
  · intro a hlt _ again
    simp only [s31_l0, hlt, cond_false, tsGo]

theorem tsGo_ok {L : Int} : {l : List Int} → {a : Option Int} → tsGo L a l = 0 → ∀ t ∈ l, 0 ≤ t ∧ t < L
  | [], _, _, t, ht => by simp at ht
  | x :: r, a, h, t, ht => by
    unfold tsGo at h
    cases c1 : (unl (inR x 0 (L - 1)) 6 == 0)
    · rw [c1] at h
      simp only [cond_false] at h
      rw [h] at c1
      simp at c1
    · rw [c1] at h
      simp only [cond_true] at h
      cases c2 : prevOk a x
      · rw [c2] at h; simp at h
      · rw [c2] at h
        simp only [cond_true] at h
        rcases List.mem_cons.1 ht with rfl | ht
        · have := inR_iff.1 ((unl_zero (show (6 : Int) ≠ 0 by decide)).1 (by simpa using c1))
          omega
        · exact tsGo_ok h t ht

/-- All errors of a cask and tasters, the first one. -/
def mkErr (p : Pan) (cask : Int) (ts : List Int) : Int :=
  bif (panErr p).2 == 0 then (bif unl (inR cask 0 (p.1 - 1)) 6 == 0 then tsGo (p.2.2.2.length : Int) none ts else unl (inR cask 0 (p.1 - 1)) 6) else (panErr p).2

theorem v30c (n : Nat) (p : Pan) (hg : GoodP p) (c : Int) : s30 n c p.1 = some (unl (inR c 0 (p.1 - 1)) 6) := by
  have := hg.casks
  unfold s30
  rw [v19, Option.bind_some, wrap_id (by omega) (by omega)]
  cases inR c 0 (p.1 - 1) <;> rfl

theorem v86_bad0 (n : Nat) (hf : Fuel n) (p : Pan) (hp : fitP n p) (hL : p.2.2.2.length ≤ 1000) (c : Int) (ts : List Int) (hl : ts.length ≤ 1000) (he : ((panErr p).2 == 0) = false) :
    s86 n p c ts = some (p, (panErr p).2) := by
  have hlo := hf.lo
  unfold s86 s124
  simp only [show ((p.1, (p.2.1, (p.2.2.1, p.2.2.2))) : Pan) = p from rfl, v89 n p hf hp, Option.bind_some, show ((p.1, p.2.1, p.2.2.1, p.2.2.2) : Pan) = p from rfl, v82, v81, v125 n hf p ts hL hl, v80 n [_, _, _] (by simp [maxLen]) (by simp; omega)]
  simp only [firstErr, he, cond_false]

theorem v86 (n : Nat) (hf : Fuel n) (p : Pan) (hp : fitP n p) (hL : p.2.2.2.length ≤ 1000) (c : Int) (ts : List Int) (hl : ts.length ≤ 1000) : s86 n p c ts = some (p, mkErr p c ts) := by
  have hlo := hf.lo
  cases he : ((panErr p).2 == 0)
  · rw [v86_bad0 n hf p hp hL c ts hl he, mkErr, he]; rfl
  · have hg := panErr_good (by simpa using he)
    unfold s86
    simp only [show ((p.1, (p.2.1, (p.2.2.1, p.2.2.2))) : Pan) = p from rfl, v89 n p hf hp, Option.bind_some, show ((p.1, p.2.1, p.2.2.1, p.2.2.2) : Pan) = p from rfl, v124 n p c hg, v125 n hf p ts hL hl, v80 n [_, _, _] (by simp [maxLen]) (by simp; omega)]
    unfold mkErr
    simp only [firstErr, he, cond_true]
    cases c1 : (unl (inR c 0 (p.1 - 1)) 6 == 0)
    · rfl
    · simp only [cond_true]
      cases c2 : (tsGo (p.2.2.2.length : Int) none ts == 0)
      · rfl
      · simp only [cond_true]
        rw [show tsGo (p.2.2.2.length : Int) none ts = 0 by simpa using c2]

theorem v25 (n : Nat) (hf : Fuel n) (p : Pan) (hp : fitP n p) (hL : p.2.2.2.length ≤ 1000) (c : Int) (ts : List Int) (hl : ts.length ≤ 1000) :
    s25 n p c ts = some (bif mkErr p c ts == 0 then tab p.2.1.toNat (cnt p c ts) else [], mkErr p c ts) := by
  unfold s25
  rw [show ((p.1, (p.2.1, (p.2.2.1, p.2.2.2))) : Pan) = p from rfl, v86 n hf p hp hL c ts hl]
  simp only [Option.bind_some, bne]
  cases he : (mkErr p c ts == 0)
  · rfl
  · have h0 : mkErr p c ts = 0 := by simpa using he
    unfold mkErr at h0
    cases c3 : ((panErr p).2 == 0)
    · rw [c3] at h0; simp only [cond_false] at h0; rw [h0] at c3; simp at c3
    · have hg := panErr_good (by simpa using c3)
      rw [c3] at h0
      cases c4 : (unl (inR c 0 (p.1 - 1)) 6 == 0)
      · rw [c4] at h0; simp only [cond_false, cond_true] at h0; rw [h0] at c4; simp at c4
      · rw [c4] at h0
        simp only [cond_true] at h0
        have hts : okTs p ts := tsGo_ok h0
        simp only [Bool.not_true, cond_false, show ((p.1, p.2.1, p.2.2.1, p.2.2.2) : Pan) = p from rfl, v87 n hf p hg c ts hts hl, Option.bind_some, cond_true]
        rw [show mkErr p c ts = 0 by simpa using he]

theorem v28 (n : Nat) (hf : Fuel n) (p : Pan) (hp : fitP n p) (hL : p.2.2.2.length ≤ 1000) (c : Int) (ts : List Int) (hl : ts.length ≤ 1000) :
    s28 n p c ts = some (bif mkErr p c ts == 0 then (bif decide (markOf (tab p.2.1.toNat (cnt p c ts)) < 0) then (0, 12) else (markOf (tab p.2.1.toNat (cnt p c ts)), 0)) else (0, mkErr p c ts)) := by
  unfold s28
  rw [show ((p.1, (p.2.1, (p.2.2.1, p.2.2.2))) : Pan) = p from rfl, v86 n hf p hp hL c ts hl]
  simp only [Option.bind_some, bne]
  cases he : (mkErr p c ts == 0)
  · rfl
  · have h0 : mkErr p c ts = 0 := by simpa using he
    unfold mkErr at h0
    cases c3 : ((panErr p).2 == 0)
    · rw [c3] at h0; simp only [cond_false] at h0; rw [h0] at c3; simp at c3
    · have hg := panErr_good (by simpa using c3)
      rw [c3] at h0
      cases c4 : (unl (inR c 0 (p.1 - 1)) 6 == 0)
      · rw [c4] at h0; simp only [cond_false, cond_true] at h0; rw [h0] at c4; simp at c4
      · rw [c4] at h0
        simp only [cond_true] at h0
        have hts : okTs p ts := tsGo_ok h0
        simp only [Bool.not_true, cond_false, show ((p.1, p.2.1, p.2.2.1, p.2.2.2) : Pan) = p from rfl, v88 n hf p hg c ts hts hl, Option.bind_some, cond_true]
        cases decide (markOf (tab p.2.1.toNat (cnt p c ts)) < 0) <;> rfl

theorem taste_marks (p : Pan) (c : Int) (ts : List Int) : ∃ n, s4 n p c ts = some true := by
  refine ⟨0 + 2000, ?_⟩
  generalize hm : (0 : Nat) = m
  have hm0 : m = 0 := hm.symm
  clear hm
  have hf : Fuel (m + 2000) := ⟨by omega, by omega⟩
  have ht := awake_ok m
  generalize hn : m + 2000 = n at *
  unfold s4
  simp only [ht, Option.bind_some, Bool.not_true, cond_false, show ((p.1, (p.2.1, (p.2.2.1, p.2.2.2))) : Pan) = p from rfl, v24 n p hf, show decide (((List.length ts : Nat) : Int) > (10 : Int)) = !decide (ts.length ≤ 10) from dec_gt _ 10]
  cases c1 : fewP p
  · rfl
  · obtain ⟨hp, l1, l2⟩ := fewP_fit c1 hf
    have hq : fitQ n p := ⟨hp.1, hp.2.1⟩
    cases c2 : decide (ts.length ≤ 10)
    · rfl
    · have hl : ts.length ≤ 10 := by simpa using c2
      have hlt : Lt n ts := by unfold Lt; omega
      simp only [Bool.not_true, Bool.or_self, cond_false, v26 n p hf hp, Option.bind_some, show ((p.1, p.2.1, p.2.2.1, p.2.2.2) : Pan) = p from rfl, v27 n ts hf hlt, v29 n p hf hq, v25 n hf p hp (by omega) c ts (by omega), v28 n hf p hp (by omega) c ts (by omega), bne]
      have hE : mkErr p c ts = bif (panErr p).2 == 0 then (bif unl (inR c 0 (p.1 - 1)) 6 == 0 then tsGo (p.2.2.2.length : Int) none ts else unl (inR c 0 (p.1 - 1)) 6) else (panErr p).2 := rfl
      cases c3 : ((panErr p).2 == 0)
      · rw [c3] at hE
        simp only [cond_false] at hE
        rw [hE, c3]
        simp [c3]
      · have hpe : (panErr p).2 = 0 := by simpa using c3
        have hg := panErr_good hpe
        rw [c3] at hE
        simp only [cond_true] at hE
        simp only [cond_true, v30c n p hg c, Option.bind_some]
        cases c4 : (unl (inR c 0 (p.1 - 1)) 6 == 0)
        · rw [c4] at hE
          simp only [cond_false] at hE
          rw [hE, c4]
          simp [c4]
        · rw [c4] at hE
          simp only [cond_true] at hE
          simp only [cond_true, v31 n hf p ts (by omega) (by omega), Option.bind_some]
          rw [hE]
          cases c5 : (tsGo (p.2.2.2.length : Int) none ts == 0)
          · simp [c5]
          · have hts0 : tsGo (p.2.2.2.length : Int) none ts = 0 := by simpa using c5
            have hts : okTs p ts := tsGo_ok hts0
            have hml := tab_len p.2.1.toNat (cnt p c ts)
            have hM := hg.marks
            have hlo := hf.lo
            simp only [Bool.not_true, cond_false, cond_true, hts0, beq_self_eq_true, Bool.not_false, part_true, v33 n hf p hg c ts hts (by omega), v34 n hf p hg c ts hts (by omega), Option.bind_some, v32 n (tab p.2.1.toNat (cnt p c ts)) _ hf (by unfold Lt; omega), Bool.or_self]
            generalize markOf (tab p.2.1.toNat (cnt p c ts)) = k
            cases c6 : decide (k < 0)
            · have : decide (k ≥ 0) = true := by simp at c6 ⊢; omega
              simp [this, c6]
            · have : decide (k ≥ 0) = false := by simp at c6 ⊢; omega
              simp [this, c6]

end Go.Abs
