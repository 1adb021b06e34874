/- TasteMarked: parts. -/
import Derived.Test.YtbcbiemjokpghaaNLawO
set_option linter.unusedSimpArgs false
set_option linter.unusedVariables false
namespace Go.Abs
open Go

theorem v57 (n : Nat) (hf : Fuel n) (p : Pan) (hp : GoodP p) (least : Int × Int) : s57 n p least = some (marked p (steadiest p least)) := by
  have hlo := hf.lo
  have hc := hp.casks
  obtain ⟨g1, g2⟩ := steadiest_ok p least hp.tasters.2
  unfold s57
  rw [show ((p.1, (p.2.1, (p.2.2.1, p.2.2.2))) : Pan) = p from rfl, show ((least.1, least.2) : Int × Int) = least from rfl, v55 n hf p hp least, Option.bind_some]
  generalize steadiest p least = ts at *
  have hC : ((p.1.toNat : Nat) : Int) = p.1 := by omega
  refine (count_loop (A := List Int) p.1.toNat (fun i acc => (ts, (i : Int), p.1, p.2.1, p.2.2.1, p.2.2.2, acc, ())) (fun i acc => some (marked p ts))
    (fun i acc => acc = (List.range i).map fun (c : Nat) => markOf (tab p.2.1.toNat (cnt p (c : Int) ts))) (by unfold maxLen; omega) ?_ ?_ [] (by simp) (by omega))
  · intro i acc hi hlt hw hinv again ih
    rw [hC] at hlt
    have hal : acc.length = i := by rw [hinv]; simp
    have hch : ∀ x : Int, chk (acc.length + ([x] : List Int).length) = some () := fun x => chk_ok (by simp; omega)
    simp only [s57_l0, hlt, cond_true, show ((p.1, (p.2.1, (p.2.2.1, p.2.2.2))) : Pan) = p from rfl, v34 n hf p hp (i : Int) ts g1 g2, Option.bind_some, hw, hch]
    exact ih _ (by rw [List.range_succ, List.map_append, hinv]; rfl)
  · intro acc hlt hinv again
    rw [hC] at hlt
    have hE : decide (((p.1.toNat : Nat) : Int) < p.1) = false := by rw [hC]; exact hlt
    simp only [s57_l0, hE, cond_false]
    rw [hinv]
    rfl

theorem v56_bad (n : Nat) (hf : Fuel n) (p : Pan) (hp : fitP n p) (least : Int × Int) (e : Int) (hs : s109 n least = some e) (he : (oneErr p e == 0) = false) : s56 n p least = some ([], oneErr p e) := by
  have hlo := hf.lo
  unfold s56
  simp only [show ((p.1, (p.2.1, (p.2.2.1, p.2.2.2))) : Pan) = p from rfl, v89 n p hf hp, Option.bind_some, show ((least.1, least.2) : Int × Int) = least from rfl, hs, v80 n [_, _] (by simp [maxLen]) (by simp; omega), bne]
  rw [show firstErr [(panErr p).2, e] = oneErr p e from rfl, he]
  rfl

theorem v59 (n : Nat) (hf : Fuel n) (l : List Int) (x : Int) (h : Lt n l) : s59 n l x = some (l.any fun y => y == x) := by
  unfold s59
  refine list_loop0 l (fun i => (l, x, (i : Int), ())) (fun _ r => some (r.any fun y => y == x)) (hf.le h) ?_ ?_ h
  · intro i y r hi hx hd hg hlt hw again ih
    simp only [s59_l0, hlt, cond_true, hg, Option.bind_some, hw, List.any_cons]
    cases h : (y == x)
    · simp only [cond_false, Bool.false_or]
      exact ih
    · rfl
  · intro hlt again
    simp only [s59_l0, hlt, cond_false, List.any_nil]

theorem v10_l0 (n : Nat) (hf : Fuel n) (a b : List Int) (ha : Lt n a) (hb : Lt n b) (hsub : ∀ x ∈ b, x ∈ a) (k0 : Unit → Option Bool) (k1 : Bool × Unit → Option Bool) :
    loopG (s10_l0 n) n (a, b, (0 : Int), ()) (k0, k1, ()) = k0 () := by
  refine list_loop0 b (fun i => (a, b, (i : Int), ())) (fun _ _ => k0 ()) (hf.le hb) ?_ ?_ hb
  · intro i x r hi hx hd hg hlt hw again ih
    have hin : (a.any fun y => y == x) = true := List.any_eq_true.2 ⟨x, hsub x (List.mem_of_getElem? hx), by simp⟩
    simp only [s10_l0, hlt, cond_true, hg, Option.bind_some, hw, v59 n hf a x ha, hin, Bool.not_true, cond_false]
    exact ih
  · intro hlt again
    simp only [s10_l0, hlt, cond_false]

theorem share_good (n : Nat) (f : Int × Int) (h : s54 n f = some 0) : 1 ≤ f.2 ∧ f.2 ≤ 1000000000 ∧ 0 ≤ f.1 ∧ f.1 ≤ f.2 := by
  unfold s54 s111 at h
  by_cases h1 : f.2 > 0
  · have a2 : decide (f.2 > (0 : Int)) = true := by simpa using h1
    rw [a2] at h
    simp only [part_true, show ((f.1, f.2) : Int × Int) = f from rfl] at h
    cases hg : s133 n f.1 f.2 with
    | none => rw [hg] at h; cases h
    | some g =>
      rw [hg] at h
      simp only [Option.bind_some, Bool.true_and] at h
      cases h2 : (g == 1)
      · rw [h2] at h; cases h
      · rw [h2] at h
        simp only [Bool.not_true, cond_false] at h
        cases h3 : (decide (f.1 < (0 : Int)) || decide (f.1 > f.2) || decide (f.2 > (1000000000 : Int)))
        · simp only [Bool.or_eq_false_iff, decide_eq_false_iff_not] at h3
          omega
        · rw [h3] at h; cases h
  · have a2 : decide (f.2 > (0 : Int)) = false := by simpa using h1
    rw [a2] at h
    cases h

theorem steadyJ_le (h : Int × Int → Int × Int → Nat) (h1 : ∀ z w, h z w ≤ 1) : (l : ZZ) → steadyJ h l ≤ l.length * l.length
  | [] => by simp [steadyJ]
  | w :: r => by
    have e1 := sumN_le (fun z => h z w) (fun z => h1 z w) r
    have e2 := steadyJ_le h h1 r
    simp only [steadyJ, List.length_cons]
    have : (r.length + 1) * (r.length + 1) = r.length * r.length + 2 * r.length + 1 := by rw [Nat.add_mul, Nat.mul_add]; omega
    omega

theorem steady_le {p : Pan} (hp : GoodP p) (t : Int) : (steady p t).1 ≤ 1000000 ∧ (steady p t).2 ≤ 1000000 := by
  have hl : (p.2.2.1.zip (tst p t)).length ≤ 1000 := by have := hp.glasses; simp; omega
  have hm := Nat.mul_le_mul hl hl
  unfold steady
  rw [steadyI_nil, steadyI_nil]
  have a := steadyJ_le same1 same1_le (p.2.2.1.zip (tst p t))
  have b := steadyJ_le glass1 glass1_le (p.2.2.1.zip (tst p t))
  dsimp only
  omega

theorem mul_small {a b A B : Int} (ha : 0 ≤ a ∧ a ≤ A) (hb : 0 ≤ b ∧ b ≤ B) : 0 ≤ a * b ∧ a * b ≤ A * B := by
  refine ⟨Int.mul_nonneg ha.1 hb.1, ?_⟩
  exact Int.mul_le_mul ha.2 hb.2 hb.1 (by omega)

theorem steadiest_sub {p : Pan} (hp : GoodP p) {least more : Int × Int} (hl : 1 ≤ least.2 ∧ least.2 ≤ 1000000000 ∧ 0 ≤ least.1 ∧ least.1 ≤ least.2) (hm : 1 ≤ more.2 ∧ more.2 ≤ 1000000000 ∧ 0 ≤ more.1 ∧ more.1 ≤ more.2)
    (hle : least.1 * more.2 ≤ more.1 * least.2) : ∀ x ∈ steadiest p more, x ∈ steadiest p least := by
  intro x hx
  unfold steadiest at hx ⊢
  obtain ⟨k, hk, rfl⟩ := List.mem_map.1 hx
  obtain ⟨h1, h2⟩ := List.mem_filter.1 hk
  refine List.mem_map.2 ⟨k, List.mem_filter.2 ⟨h1, ?_⟩, rfl⟩
  obtain ⟨s1, s2⟩ := steady_le hp (k : Int)
  unfold isSteady at h2 ⊢
  have hS : 0 ≤ ((steady p (k : Int)).1 : Int) ∧ ((steady p (k : Int)).1 : Int) ≤ 1000000 := by omega
  have hG : 0 ≤ ((steady p (k : Int)).2 : Int) ∧ ((steady p (k : Int)).2 : Int) ≤ 1000000 := by omega
  generalize ((steady p (k : Int)).1 : Int) = S at *
  generalize ((steady p (k : Int)).2 : Int) = G at *
  have b1 := mul_small hS (show 0 ≤ more.2 ∧ more.2 ≤ 1000000000 by omega)
  have b2 := mul_small (show 0 ≤ more.1 ∧ more.1 ≤ 1000000000 by omega) hG
  have b3 := mul_small hS (show 0 ≤ least.2 ∧ least.2 ≤ 1000000000 by omega)
  have b4 := mul_small (show 0 ≤ least.1 ∧ least.1 ≤ 1000000000 by omega) hG
  rw [wrap_id (by omega) (by omega), wrap_id (by omega) (by omega), decide_eq_true_eq] at h2
  rw [wrap_id (by omega) (by omega), wrap_id (by omega) (by omega), decide_eq_true_eq]
  have c1 : (least.1 * more.2) * G ≤ (more.1 * least.2) * G := Int.mul_le_mul_of_nonneg_right hle hG.1
  have c2 : (more.1 * G) * least.2 ≤ (S * more.2) * least.2 := Int.mul_le_mul_of_nonneg_right h2 (by omega)
  have d1 : (least.1 * more.2) * G = (least.1 * G) * more.2 := by rw [Int.mul_assoc, Int.mul_comm more.2 G, ← Int.mul_assoc]
  have d2 : (more.1 * least.2) * G = (more.1 * G) * least.2 := by rw [Int.mul_assoc, Int.mul_comm least.2 G, ← Int.mul_assoc]
  have d3 : (S * more.2) * least.2 = (S * least.2) * more.2 := by rw [Int.mul_assoc, Int.mul_comm more.2 least.2, ← Int.mul_assoc]
  have : (least.1 * G) * more.2 ≤ (S * least.2) * more.2 := by rw [← d1, ← d3]; exact Int.le_trans c1 (by rw [d2]; exact c2)
  exact Int.le_of_mul_le_mul_right this (by omega)

theorem taste_marked (p : Pan) (least more : Int × Int) (hle : least.2.natAbs < 2 ^ 64) (hmo : more.2.natAbs < 2 ^ 64) : ∃ n, s10 n p least more = some true := by
  refine ⟨0 + 2000, ?_⟩
  generalize hm : (0 : Nat) = m
  have hm0 : m = 0 := hm.symm
  clear hm
  have hf : Fuel (m + 2000) := ⟨by omega, by omega⟩
  have ht := awake_ok m
  generalize hn : m + 2000 = n at *
  obtain ⟨e, hs, hs'⟩ := share_same n hf least hle
  obtain ⟨e2, hs2, hs2'⟩ := share_same n hf more hmo
  unfold s10
  simp only [ht, Option.bind_some, Bool.not_true, cond_false, show ((p.1, (p.2.1, (p.2.2.1, p.2.2.2))) : Pan) = p from rfl, v24 n p hf]
  cases c1 : fewP p
  · rfl
  · obtain ⟨hp, l1, l2⟩ := fewP_fit c1 hf
    have hq : fitQ n p := ⟨hp.1, hp.2.1⟩
    simp only [Bool.not_true, cond_false, v26 n p hf hp, Option.bind_some, show ((p.1, p.2.1, p.2.2.1, p.2.2.2) : Pan) = p from rfl, show ((least.1, least.2) : Int × Int) = least from rfl, show ((more.1, more.2) : Int × Int) = more from rfl, v29 n p hf hq, hs', hs2', bne]
    have hE : ∀ x, oneErr p x = bif (panErr p).2 == 0 then (bif x == 0 then 0 else x) else (panErr p).2 := fun x => rfl
    cases c3 : ((panErr p).2 == 0)
    · have h1 : ∀ x, oneErr p x = (panErr p).2 := fun x => by rw [hE, c3]; rfl
      rw [v56_bad n hf p hp least e hs (by rw [h1]; exact c3), h1]
      simp [c3]
    · have hpe : (panErr p).2 = 0 := by simpa using c3
      have hg := panErr_good hpe
      cases c4 : (e == 0)
      · have h1 : oneErr p e = e := by rw [hE, c3, c4]; rfl
        rw [v56_bad n hf p hp least e hs (by rw [h1]; exact c4), h1]
        simp [c4]
      · have e0 : e = 0 := by simpa using c4
        subst e0
        have hml : (marked p (steadiest p least)).length = p.1.toNat := by simp [marked]
        have hck := hg.casks
        simp only [cond_true, Bool.not_true, cond_false, v56_ok n hf p hp hpe least hs, Option.bind_some, beq_self_eq_true, Bool.not_false, part_true, v57 n hf p hg least, v32 n (marked p (steadiest p least)) _ hf (by unfold Lt; have := hf.lo; omega), Bool.or_self]
        cases c5 : (e2 == 0)
        · simp [part_no]
        · have e20 : e2 = 0 := by simpa using c5
          subst e20
          have g1 := share_good n least hs'
          have g2 := share_good n more hs2'
          have w1 := mul_small (show 0 ≤ more.1 ∧ more.1 ≤ 1000000000 by omega) (show 0 ≤ least.2 ∧ least.2 ≤ 1000000000 by omega)
          have w2 := mul_small (show 0 ≤ least.1 ∧ least.1 ≤ 1000000000 by omega) (show 0 ≤ more.2 ∧ more.2 ≤ 1000000000 by omega)
          have hs58 : s58 n more least = some (bif decide (more.1 * least.2 < least.1 * more.2) then -1 else bif decide (more.1 * least.2 > least.1 * more.2) then 1 else 0) := by
            unfold s58
            rw [wrap_id (by omega) (by omega), wrap_id (by omega) (by omega)]
            cases decide (more.1 * least.2 < least.1 * more.2) <;> cases decide (more.1 * least.2 > least.1 * more.2) <;> rfl
          simp only [Bool.not_true, Bool.not_false, part_true, hs58, Option.bind_some, Bool.false_or]
          cases c6 : decide (more.1 * least.2 < least.1 * more.2)
          · have hle2 : least.1 * more.2 ≤ more.1 * least.2 := by
              have := of_decide_eq_false c6
              omega
            have hsub := steadiest_sub hg g1 g2 hle2
            have q1 := (steadiest_ok p least hg.tasters.2).2
            have q2 := (steadiest_ok p more hg.tasters.2).2
            have hlo := hf.lo
            have fin : ∀ x : Int, decide (x < 0) = false → (bif decide (x < 0) then some true else (s51 n p least).bind fun x_11 => (s51 n p more).bind fun x_13 =>
                bif (!(x_11.2 == 0) || !(x_13.2 == 0)) then some false else loopG (s10_l0 n) n (x_11.1, x_13.1, (0 : Int), ()) (fun (_) => some true, fun (t6, _) => some t6, ())) = some true := by
              intro x hx
              rw [hx, v51_ok n hf p hp hg least hs hpe, v51_ok n hf p hp hg more hs2 hpe]
              simp only [cond_false, Option.bind_some, beq_self_eq_true, Bool.not_true, Bool.or_self]
              exact v10_l0 n hf _ _ (by unfold Lt; omega) (by unfold Lt; omega) hsub _ _
            simp only [cond_false]
            cases c7 : decide (more.1 * least.2 > least.1 * more.2)
            · exact fin 0 rfl
            · exact fin 1 rfl
          · rfl

end Go.Abs
