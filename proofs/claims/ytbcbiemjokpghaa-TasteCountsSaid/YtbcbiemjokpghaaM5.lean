/- Parts of one proof, joined: Steadiness counted from the other side; the tasters that are steady enough; TastePanels. TastePanels, in plain words. Counts, glass by glass; the reference's marks. The reference's mark. TasteMarks: the errors of tasters; the law, in plain words. TasteCounts: counts of the glasses turned round, and of all tasters; the law, in plain words. TasteCounts, in plain words. -/
import Derived.Test.YtbcbiemjokpghaaM4
set_option linter.unusedSimpArgs false
set_option linter.unusedVariables false
namespace Go.Abs
open Go

def steadyJ (h : Int × Int → Int × Int → Nat) : ZZ → Nat
  | [] => 0
  | w :: r => sumN (fun z => h z w) r + steadyJ h r

theorem sumN_add (f g : Int × Int → Nat) : (l : ZZ) → sumN (fun z => f z + g z) l = sumN f l + sumN g l
  | [] => rfl
  | z :: l => by rw [sumN_cons, sumN_cons, sumN_cons, sumN_add f g l]; omega

theorem steadyI_eq (h : Int × Int → Int × Int → Nat) : (l pre : ZZ) → steadyI h pre l = sumN (fun z => sumN (h z) pre) l + steadyJ h l
  | [], pre => rfl
  | z :: r, pre => by
    have e : (fun y => sumN (h y) (pre ++ [z])) = fun y => sumN (h y) pre + h y z := by
      funext y
      rw [sumN_snoc]
    rw [steadyI, steadyI_eq h r (pre ++ [z]), e, sumN_add, sumN_cons, steadyJ]
    omega

theorem sumN_zero : (l : ZZ) → sumN (fun _ => 0) l = 0
  | [] => rfl
  | z :: l => by rw [sumN_cons, sumN_zero l]

theorem steadyI_nil (h : Int × Int → Int × Int → Nat) (l : ZZ) : steadyI h [] l = steadyJ h l := by
  rw [steadyI_eq]
  have : (fun z => sumN (h z) []) = fun _ => 0 := by funext z; rfl
  rw [this, sumN_zero, Nat.zero_add]

theorem v53_l0_0 (n : Nat) (hf : Fuel n) (p : Pan) (l : List Int) (t4 t41 : Int) (i : Nat) (w : Int × Int) (e1 : l.length = p.2.2.1.length) (hl : p.2.2.1.length ≤ 1000) (hi : i < p.2.2.1.length) (hw : (p.2.2.1.zip l)[i]? = some w)
    (c d : Nat) (hc : c ≤ 1000000) (hd : d ≤ 1000000) (k0 : List Int × Int × Int × Int × List Int × List (List Int) × Int × Int × Int × Int × Unit → Option (Int × Int)) :
    loopG (s53_l0_0 n) n (l, (i : Int), ((i + 1 : Nat) : Int), p.1, p.2.1, p.2.2.1, p.2.2.2, t4, t41, (c : Int), (d : Int), ()) (k0, ()) =
      k0 (l, (i : Int), p.1, p.2.1, p.2.2.1, p.2.2.2, t4, t41, ((c + sumN (fun z => same1 z w) ((p.2.2.1.zip l).drop (i + 1)) : Nat) : Int), ((d + sumN (fun z => glass1 z w) ((p.2.2.1.zip l).drop (i + 1)) : Nat) : Int), ()) := by
  have hlo := hf.lo
  have hZ : (p.2.2.1.zip l).length = p.2.2.1.length := by simp [e1]
  have hwp := List.getElem?_zip_eq_some.1 hw
  have hgi : geti p.2.2.1 (i : Int) = some w.1 := by rw [geti_nat]; exact hwp.1
  have hli : geti l (i : Int) = some w.2 := by rw [geti_nat]; exact hwp.2
  have hdl : ((p.2.2.1.zip l).drop (i + 1)).length = p.2.2.1.length - (i + 1) := by rw [List.length_drop, hZ]
  refine (list_loop (A := Nat × Nat) ((p.2.2.1.zip l).drop (i + 1)) (fun j a => (l, (i : Int), ((i + 1 + j : Nat) : Int), p.1, p.2.1, p.2.2.1, p.2.2.2, t4, t41, (a.1 : Int), (a.2 : Int), ()))
    (fun j a r => k0 (l, (i : Int), p.1, p.2.1, p.2.2.1, p.2.2.2, t4, t41, ((a.1 + sumN (fun z => same1 z w) r : Nat) : Int), ((a.2 + sumN (fun z => glass1 z w) r : Nat) : Int), ())) (fun j a => a.1 ≤ 1000000 + j ∧ a.2 ≤ 1000000 + j)
    (by rw [hdl]; unfold maxLen; omega) ?_ ?_ (c, d) ⟨by simpa using hc, by simpa using hd⟩ (by rw [hdl]; omega)).trans (by simp)
  · rintro j ⟨c, d⟩ z r hj hx hdr _ _ _ ⟨hc, hd⟩ again ih
    rw [hdl] at hj
    dsimp only at hc hd
    rw [List.getElem?_drop] at hx
    have hx' := List.getElem?_zip_eq_some.1 hx
    have hgk : geti p.2.2.1 ((i + 1 + j : Nat) : Int) = some z.1 := by rw [geti_nat]; exact hx'.1
    have hlk : geti l ((i + 1 + j : Nat) : Int) = some z.2 := by rw [geti_nat]; exact hx'.2
    have hlt : decide (((i + 1 + j : Nat) : Int) < ((List.length l : Nat) : Int)) = true := by rw [decide_eq_true_eq]; omega
    have hw1 : IntKind.wrap .i64 (((i + 1 + j : Nat) : Int) + 1) = ((i + 1 + (j + 1) : Nat) : Int) := by rw [wrap_id] <;> omega
    have hwc : IntKind.wrap .i64 ((c : Int) + 1) = ((c + 1 : Nat) : Int) := by rw [wrap_id] <;> omega
    have hwd : IntKind.wrap .i64 ((d : Int) + 1) = ((d + 1 : Nat) : Int) := by rw [wrap_id] <;> omega
    simp only [s53_l0_0, hlt, cond_true, hgi, hgk, hli, hlk, Option.bind_some, hw1, hwc, hwd, sumN_cons]
    cases h1 : (w.1 != z.1)
    · have q1 : w.1 = z.1 := by simpa using h1
      simp only [cond_false]
      cases h2 : (w.2 == z.2)
      · have q2 : ¬ z.2 = w.2 := fun e => by rw [e] at h2; simp at h2
        simp only [cond_false]
        rw [ih (c, d + 1) ⟨by dsimp only; omega, by dsimp only; omega⟩]
        simp only [same1, glass1, q1, q2, and_false, if_false, if_true, Nat.zero_add, Nat.add_assoc]
      · have q2 : z.2 = w.2 := by have : w.2 = z.2 := by simpa using h2
                                  exact this.symm
        simp only [cond_true]
        rw [ih (c + 1, d + 1) ⟨by dsimp only; omega, by dsimp only; omega⟩]
        simp only [same1, glass1, q1, q2, and_self, if_true, Nat.add_assoc]
    · have q1 : ¬ w.1 = z.1 := by simpa using h1
      simp only [cond_true]
      rw [ih (c, d) ⟨by dsimp only; omega, by dsimp only; omega⟩]
      simp only [same1, glass1, q1, false_and, if_false, Nat.zero_add]
  · rintro ⟨c, d⟩ _ _ again
    have hlt : decide (((i + 1 + ((p.2.2.1.zip l).drop (i + 1)).length : Nat) : Int) < ((List.length l : Nat) : Int)) = false := by rw [decide_eq_false_iff_not, hdl]; omega
    simp only [s53_l0_0, hlt, cond_false]
    rfl

theorem v53 (n : Nat) (hf : Fuel n) (p : Pan) (hp : GoodP p) (t : Int) (ht : 0 ≤ t ∧ t < (p.2.2.2.length : Int)) : s53 n p t = some (((steady p t).1 : Int), ((steady p t).2 : Int)) := by
  have hlo := hf.lo
  obtain ⟨h1, h2⟩ := tst_get ht
  obtain ⟨e1, _⟩ := hp.each _ h2
  have hg := hp.glasses
  unfold s53
  rw [h1]
  simp only [Option.bind_some]
  unfold steady
  rw [steadyI_nil, steadyI_nil]
  generalize tst p t = l at *
  have hZ : (p.2.2.1.zip l).length = p.2.2.1.length := by simp [e1]
  refine (list_loop (A := Nat × Nat) (p.2.2.1.zip l) (fun i c => (l, (i : Int), p.1, p.2.1, p.2.2.1, p.2.2.2, (0 : Int), (0 : Int), (c.1 : Int), (c.2 : Int), ()))
    (fun i c r => some (((c.1 + steadyJ same1 r : Nat) : Int), ((c.2 + steadyJ glass1 r : Nat) : Int)))
    (fun i c => c.1 ≤ i * 1000 ∧ c.2 ≤ i * 1000) (by rw [hZ]; unfold maxLen; omega) ?_ ?_ (0, 0) (by simp) (by rw [hZ]; omega)).trans (by simp)
  · rintro i ⟨c, d⟩ z r hi hx hd _ hlt hw ⟨hc, hd'⟩ again ih
    rw [hZ] at hi
    dsimp only at hc hd'
    have hlt' : decide ((i : Int) < ((List.length l : Nat) : Int)) = true := by rw [decide_eq_true_eq]; omega
    have hdr : (p.2.2.1.zip l).drop (i + 1) = r := by
      have := congrArg List.tail hd
      rw [List.tail_drop] at this
      exact this
    simp only [s53_l0, hlt', cond_true, hw]
    rw [v53_l0_0 n hf p l _ _ i z e1 hg.2 hi hx c d (by omega) (by omega), hdr]
    have l1 := sumN_le (fun y => same1 y z) (fun y => same1_le y z) r
    have l2 := sumN_le (fun y => glass1 y z) (fun y => glass1_le y z) r
    have hr : r.length ≤ 1000 := by rw [← hdr, List.length_drop, hZ]; omega
    simp only [hw]
    rw [ih (c + sumN (fun y => same1 y z) r, d + sumN (fun y => glass1 y z) r) ⟨by dsimp only; omega, by dsimp only; omega⟩]
    simp only [steadyJ, Nat.add_assoc]
  · rintro ⟨c, d⟩ _ _ again
    have hlt' : decide ((((p.2.2.1.zip l).length : Nat) : Int) < ((List.length l : Nat) : Int)) = false := by rw [decide_eq_false_iff_not, hZ]; omega
    simp only [s53_l0, hlt', cond_false, steadyJ]
    rfl

theorem v55 (n : Nat) (hf : Fuel n) (p : Pan) (hp : GoodP p) (least : Int × Int) : s55 n p least = some (steadiest p least) := by
  have hlo := hf.lo
  have hT := hp.tasters
  unfold s55 steadiest
  refine (count_loop (A := List Int) p.2.2.2.length (fun i acc => ((i : Int), p.1, p.2.1, p.2.2.1, p.2.2.2, least.1, least.2, acc, ()))
    (fun i acc => some (((List.range p.2.2.2.length).filter (isSteady p least)).map fun t => ((t : Nat) : Int))) (fun i acc => acc = ((List.range i).filter (isSteady p least)).map fun t => ((t : Nat) : Int)) (by unfold maxLen; omega) ?_ ?_ [] (by simp) (by omega))
  · intro i acc hi hlt hw hinv again ih
    have e := v53 n hf p hp (i : Int) ⟨by omega, by omega⟩
    have hal : acc.length ≤ i := by
      rw [hinv, List.length_map]
      exact Nat.le_trans (List.length_filter_le _ _) (by simp)
    have hch : chk (acc.length + ([(i : Int)] : List Int).length) = some () := chk_ok (by simp; omega)
    simp only [s55_l0, hlt, cond_true, show ((p.1, (p.2.1, (p.2.2.1, p.2.2.2))) : Pan) = p from rfl, e, Option.bind_some, hw, hch]
    have hr : ((List.range (i + 1)).filter (isSteady p least)).map (fun t => ((t : Nat) : Int)) = acc ++ (bif isSteady p least i then [((i : Nat) : Int)] else []) := by
      rw [List.range_succ, List.filter_append, List.map_append, ← hinv]
      cases h : isSteady p least i <;> simp [h]
    have hd : decide (IntKind.wrap .i64 (((steady p i).1 : Int) * least.2) ≥ IntKind.wrap .i64 (least.1 * ((steady p i).2 : Int))) = isSteady p least i := rfl
    rw [hd]
    cases h : isSteady p least i
    · simp only [cond_false]
      exact ih acc (by rw [hr, h]; simp)
    · simp only [cond_true]
      exact ih (acc ++ [(i : Int)]) (by rw [hr, h]; rfl)
  · intro acc hlt hinv again
    simp only [s55_l0, hlt, cond_false, hinv]

end Go.Abs

set_option linter.unusedSimpArgs false
set_option linter.unusedVariables false
namespace Go.Abs
open Go

theorem part_no {α : Type} (m : Option α) (d : α) : part false m d = some d := rfl

def oneErr (p : Pan) (e : Int) : Int := firstErr [(panErr p).2, e]

theorem v35_bad (n : Nat) (hf : Fuel n) (p : Pan) (hp : fitP n p) (hl : p.2.2.2.length ≤ 1000) (t : Int) (he : (oneErr p (unl (inR t 0 ((p.2.2.2.length : Int) - 1)) 6) == 0) = false) :
    s35 n p t = some ((0, 0), oneErr p (unl (inR t 0 ((p.2.2.2.length : Int) - 1)) 6)) := by
  have hlo := hf.lo
  unfold s35
  simp only [show ((p.1, (p.2.1, (p.2.2.1, p.2.2.2))) : Pan) = p from rfl, v89 n p hf hp, Option.bind_some, show ((p.1, p.2.1, p.2.2.1, p.2.2.2) : Pan) = p from rfl, v90 n p _ hl, v80 n [_, _] (by simp [maxLen]) (by simp; omega), bne]
  rw [show firstErr [(panErr p).2, unl (inR t 0 ((p.2.2.2.length : Int) - 1)) 6] = oneErr p (unl (inR t 0 ((p.2.2.2.length : Int) - 1)) 6) from rfl, he]
  rfl

theorem v35_ok (n : Nat) (hf : Fuel n) (p : Pan) (hp : fitP n p) (hg : GoodP p) (t : Int) (ht : 0 ≤ t ∧ t < (p.2.2.2.length : Int)) (he : oneErr p (unl (inR t 0 ((p.2.2.2.length : Int) - 1)) 6) = 0) :
    s35 n p t = some ((((steady p t).1 : Int), ((steady p t).2 : Int)), 0) := by
  have hlo := hf.lo
  unfold s35
  simp only [show ((p.1, (p.2.1, (p.2.2.1, p.2.2.2))) : Pan) = p from rfl, v89 n p hf hp, Option.bind_some, show ((p.1, p.2.1, p.2.2.1, p.2.2.2) : Pan) = p from rfl, v90 n p _ hg.tasters.2, v80 n [_, _] (by simp [maxLen]) (by simp; omega), bne]
  rw [show firstErr [(panErr p).2, unl (inR t 0 ((p.2.2.2.length : Int) - 1)) 6] = oneErr p (unl (inR t 0 ((p.2.2.2.length : Int) - 1)) 6) from rfl, he]
  simp only [beq_self_eq_true, Bool.not_true, cond_false, v91 n hf p hg t ht, Option.bind_some]

theorem v51_bad (n : Nat) (hf : Fuel n) (p : Pan) (hp : fitP n p) (least : Int × Int) (e : Int) (hs : s109 n least = some e) (he : (oneErr p e == 0) = false) : s51 n p least = some ([], oneErr p e) := by
  have hlo := hf.lo
  unfold s51
  simp only [show ((p.1, (p.2.1, (p.2.2.1, p.2.2.2))) : Pan) = p from rfl, v89 n p hf hp, Option.bind_some, show ((least.1, least.2) : Int × Int) = least from rfl, hs, v80 n [_, _] (by simp [maxLen]) (by simp; omega), bne]
  rw [show firstErr [(panErr p).2, e] = oneErr p e from rfl, he]
  rfl

theorem v51_ok (n : Nat) (hf : Fuel n) (p : Pan) (hp : fitP n p) (hg : GoodP p) (least : Int × Int) (hs : s109 n least = some 0) (he : (panErr p).2 = 0) : s51 n p least = some (steadiest p least, 0) := by
  have hlo := hf.lo
  unfold s51
  simp only [show ((p.1, (p.2.1, (p.2.2.1, p.2.2.2))) : Pan) = p from rfl, v89 n p hf hp, Option.bind_some, show ((least.1, least.2) : Int × Int) = least from rfl, hs, v80 n [_, _] (by simp [maxLen]) (by simp; omega), he]
  have e0 : (firstErr [(0 : Int), 0] != 0) = false := rfl
  rw [e0]
  simp only [cond_false, show ((p.1, p.2.1, p.2.2.1, p.2.2.2) : Pan) = p from rfl, v110 n hf p hg least, Option.bind_some]

theorem taste_panels (p : Pan) (t : Int) (least : Int × Int) (hle : least.2.natAbs < 2 ^ 64) : ∃ n, s9 n p t least = some true := by
  refine ⟨0 + 2000, ?_⟩
  generalize hm : (0 : Nat) = m
  have hm0 : m = 0 := hm.symm
  clear hm
  have hf : Fuel (m + 2000) := ⟨by omega, by omega⟩
  have ht := awake_ok m
  generalize hn : m + 2000 = n at *
  obtain ⟨e, hs, hs'⟩ := share_same n hf least hle
  unfold s9
  simp only [ht, Option.bind_some, Bool.not_true, cond_false, show ((p.1, (p.2.1, (p.2.2.1, p.2.2.2))) : Pan) = p from rfl, v24 n p hf]
  cases c1 : fewP p
  · rfl
  · obtain ⟨hp, l1, l2⟩ := fewP_fit c1 hf
    have hq : fitQ n p := ⟨hp.1, hp.2.1⟩
    simp only [Bool.not_true, cond_false, v26 n p hf hp, Option.bind_some, show ((p.1, p.2.1, p.2.2.1, p.2.2.2) : Pan) = p from rfl, show ((least.1, least.2) : Int × Int) = least from rfl, v50 n p hf hp, v52 n p hf hq, v30 n _ p.2.2.2.length (by omega), hs', bne]
    generalize hu : unl (inR t 0 ((p.2.2.2.length : Int) - 1)) 6 = u
    have hE : ∀ x, oneErr p x = bif (panErr p).2 == 0 then (bif x == 0 then 0 else x) else (panErr p).2 := fun x => rfl
    cases c3 : ((panErr p).2 == 0)
    · have h1 : ∀ x, oneErr p x = (panErr p).2 := fun x => by rw [hE, c3]; rfl
      rw [v35_bad n hf p hp (by omega) t (by rw [h1]; exact c3), v51_bad n hf p hp least e hs (by rw [h1]; exact c3), h1, h1]
      simp [c3]
    · have hpe : (panErr p).2 = 0 := by simpa using c3
      have hg := panErr_good hpe
      have h1 : ∀ x, oneErr p x = x := fun x => by
        rw [hE, c3]
        cases h : (x == 0)
        · rfl
        · simp only [cond_true]
          exact (by simpa using h : x = 0).symm
      have hst : (steadiest p least).length ≤ 1000 := (steadiest_ok p least hg.tasters.2).2
      have h51 : s51 n p least = some (bif e == 0 then steadiest p least else [], e) := by
        cases h : (e == 0)
        · rw [v51_bad n hf p hp least e hs (by rw [h1]; exact h), h1]
          rfl
        · have e0 : e = 0 := by simpa using h
          subst e0
          rw [v51_ok n hf p hp hg least hs hpe]
          rfl
      have h35 : s35 n p t = some (bif u == 0 then (((steady p t).1 : Int), ((steady p t).2 : Int)) else (0, 0), u) := by
        cases h : (u == 0)
        · rw [v35_bad n hf p hp (by omega) t (by rw [h1, hu]; exact h), h1, hu]
          rfl
        · have u0 : u = 0 := by simpa using h
          subst u0
          have rt := inR_iff.1 ((unl_zero (show (6 : Int) ≠ 0 by decide)).1 hu)
          rw [v35_ok n hf p hp hg t ⟨rt.1, by omega⟩ (by rw [h1, hu])]
          rfl
      rw [h51, h35]
      have h53 : u = 0 → s53 n p t = some (((steady p t).1 : Int), ((steady p t).2 : Int)) := fun u0 => by
        rw [u0] at hu
        have rt := inR_iff.1 ((unl_zero (show (6 : Int) ≠ 0 by decide)).1 hu)
        exact v53 n hf p hg t ⟨rt.1, by omega⟩
      simp only [Option.bind_some, beq_self_eq_true, Bool.not_true, Bool.or_self, cond_false]
      have fin : ∀ b : Bool, b = false → (bif b then some false else
          bif !(e == 0) then some (((List.length (bif e == 0 then steadiest p least else []) : Nat) : Int) == (0 : Int)) else
            (part (e == 0) (s55 n p least) []).bind fun x_12 => (part (e == 0) (s32 n (bif e == 0 then steadiest p least else []) x_12) false).bind fun x_13 => some ((e == 0) && x_13)) = some true := by
        rintro b rfl
        simp only [cond_false]
        cases h : (e == 0)
        · simp
        · simp only [Bool.not_true, cond_false, cond_true, part_true, v55 n hf p hg least, Option.bind_some, v32 n (steadiest p least) _ hf (by unfold Lt; have := hf.lo; omega), beq_self_eq_true, Bool.true_and]
      cases c4 : (u == 0)
      · simp only [Bool.not_false, Bool.true_and, Bool.false_and, Bool.and_false, Bool.not_true, Bool.or_false, cond_false, beq_self_eq_true, Bool.and_self, part_no, Option.bind_some]
        exact fin _ rfl
      · have u0 : u = 0 := by simpa using c4
        simp only [Bool.not_true, Bool.false_and, Bool.not_false, Bool.true_and, part_true, h53 u0, Option.bind_some, cond_true, Bool.false_or, beq_self_eq_true, Bool.and_self, Bool.or_self]
        exact fin _ rfl

end Go.Abs

set_option linter.unusedSimpArgs false
set_option linter.unusedVariables false
namespace Go.Abs
open Go

def oneAt (p : Pan) (cask : Int) (m i : Nat) (t : Int) : Nat := if p.2.2.1.getD i 0 = cask ∧ (tst p t).getD i 0 = (m : Int) then 1 else 0

theorem cntZ_range (cask : Int) (m : Nat) : (gs xs : List Int) → gs.length = xs.length → cntZ cask m gs xs = ((List.range gs.length).map fun i => if gs.getD i 0 = cask ∧ xs.getD i 0 = (m : Int) then 1 else 0).sum
  | [], [], _ => rfl
  | [], _ :: _, h => by simp at h
  | _ :: _, [], h => by simp at h
  | g :: gs, x :: xs, h => by
    have ih := cntZ_range cask m gs xs (by simpa using h)
    rw [List.length_cons, List.range_succ_eq_map, List.map_cons, List.map_map, List.sum_cons, cntZ, ih]
    rfl

theorem sum_add_map {α : Type} (f g : α → Nat) : (l : List α) → (l.map fun i => f i + g i).sum = (l.map f).sum + (l.map g).sum
  | [] => rfl
  | x :: l => by simp only [List.map_cons, List.sum_cons, sum_add_map f g l]; omega

theorem sum_zero_map {α : Type} : (l : List α) → (l.map fun _ => (0 : Nat)).sum = 0
  | [] => rfl
  | x :: l => by simp [sum_zero_map l]

theorem sum_swap {α β : Type} (F : α → β → Nat) (r : List β) : (l : List α) → (l.map fun t => (r.map (F t)).sum).sum = (r.map fun i => (l.map fun t => F t i).sum).sum
  | [] => by simp only [List.map_nil, List.sum_nil, sum_zero_map]
  | t :: l => by simp only [List.map_cons, List.sum_cons, sum_swap F r l, sum_add_map]

/-- What the first glasses give. -/
def cum (p : Pan) (cask : Int) (ts : List Int) (i m : Nat) : Nat := ((List.range i).map fun j => (ts.map (oneAt p cask m j)).sum).sum

theorem cum_all (p : Pan) (hp : GoodP p) (cask : Int) (ts : List Int) (hts : okTs p ts) (m : Nat) : cum p cask ts p.2.2.1.length m = cnt p cask ts m := by
  unfold cum cnt
  rw [← sum_swap (fun t i => oneAt p cask m i t)]
  congr 1
  apply List.map_congr_left
  intro t ht
  have h := hts t ht
  have e := (hp.each _ (tst_get h).2).1
  rw [cntZ_range cask m p.2.2.1 (tst p t) e.symm]
  rfl

theorem sum_le_map {α : Type} (f : α → Nat) (B : Nat) (h : ∀ x, f x ≤ B) : (l : List α) → (l.map f).sum ≤ l.length * B
  | [] => by simp
  | x :: l => by
    have := sum_le_map f B h l
    have := h x
    rw [List.map_cons, List.sum_cons, List.length_cons, Nat.succ_mul]
    omega

theorem oneAt_le (p : Pan) (cask : Int) (m i : Nat) (t : Int) : oneAt p cask m i t ≤ 1 := by unfold oneAt; split <;> omega

theorem cum_le (p : Pan) (cask : Int) (ts : List Int) (hl : ts.length ≤ 1000) (i m : Nat) : cum p cask ts i m ≤ i * 1000 := by
  unfold cum
  have := sum_le_map (fun j => (ts.map (oneAt p cask m j)).sum) 1000 (fun j => by
    have := sum_le_map (oneAt p cask m j) 1 (oneAt_le p cask m j) ts
    omega) (List.range i)
  simpa using this

theorem v33_l0_0 (n : Nat) (hf : Fuel n) (p : Pan) (hp : GoodP p) (cask : Int) (ts : List Int) (hts : okTs p ts) (hl : ts.length ≤ 1000) (i : Nat) (hi : i < p.2.2.1.length) (hgc : p.2.2.1.getD i 0 = cask) (f : Nat → Nat) (hfb : ∀ m, f m ≤ 1000000)
    (k0 : Int × List Int × Int × Int × Int × List Int × List (List Int) × List Int × Unit → Option (List Int)) :
    loopG (s33_l0_0 n) n (cask, ts, (i : Int), (0 : Int), p.1, p.2.1, p.2.2.1, p.2.2.2, tab p.2.1.toNat f, ()) (k0, ()) =
      k0 (cask, ts, (i : Int), p.1, p.2.1, p.2.2.1, p.2.2.2, tab p.2.1.toNat (fun m => f m + (ts.map (oneAt p cask m i)).sum), ()) := by
  have hlo := hf.lo
  have hgi : geti p.2.2.1 (i : Int) = some cask := by
    rw [geti_nat, List.getElem?_eq_getElem hi]
    rw [List.getD_eq_getElem?_getD, List.getElem?_eq_getElem hi] at hgc
    exact congrArg some hgc
  have hM := hp.marks
  refine (list_loop (A := Nat → Nat) ts (fun k f => (cask, ts, (i : Int), (k : Int), p.1, p.2.1, p.2.2.1, p.2.2.2, tab p.2.1.toNat f, ()))
    (fun k f r => k0 (cask, ts, (i : Int), p.1, p.2.1, p.2.2.1, p.2.2.2, tab p.2.1.toNat (fun m => f m + (r.map (oneAt p cask m i)).sum), ())) (fun k f => ∀ m, f m ≤ 1000000 + k) (by unfold maxLen; omega) ?_ ?_ f (by simpa using hfb) (by omega))
  · intro k f t r hk hx hd hg hlt hw hinv again ih
    have ht := hts t (List.mem_of_getElem? hx)
    obtain ⟨a1, a2⟩ := tst_get ht
    obtain ⟨e1, e2⟩ := hp.each _ a2
    have hil : i < (tst p t).length := by omega
    have hgl : geti (tst p t) (i : Int) = some (tst p t)[i] := by rw [geti_nat, List.getElem?_eq_getElem hil]
    have hr := e2 (tst p t)[i] (List.getElem_mem _)
    obtain ⟨m0, hm0⟩ : ∃ m0 : Nat, (tst p t)[i] = (m0 : Int) := ⟨((tst p t)[i]).toNat, by omega⟩
    rw [hm0] at hgl hr
    have hm0l : m0 < p.2.1.toNat := by omega
    have hfm := hinv m0
    have hwc : IntKind.wrap .i64 (((f m0 : Nat) : Int) + 1) = ((f m0 + 1 : Nat) : Int) := by rw [wrap_id] <;> omega
    simp only [s33_l0_0, hlt, part_true, hgi, Option.bind_some, beq_self_eq_true, Bool.and_self, cond_true, hg, a1, hgl, tab_get hm0l, hwc, tab_set hm0l, hw]
    rw [ih (fun m => if m = m0 then f m0 + 1 else f m) (fun m => by have := hinv m; split <;> omega)]
    congr 1
    have : tab p.2.1.toNat (fun m => (if m = m0 then f m0 + 1 else f m) + (r.map (oneAt p cask m i)).sum) = tab p.2.1.toNat (fun m => f m + ((t :: r).map (oneAt p cask m i)).sum) := by
      refine tab_ext fun m _ => ?_
      rw [List.map_cons, List.sum_cons]
      have hd : (tst p t).getD i 0 = (m0 : Int) := by rw [List.getD_eq_getElem?_getD, List.getElem?_eq_getElem hil, Option.getD_some, hm0]
      unfold oneAt
      rw [hgc, hd]
      by_cases hmm : m = m0
      · subst hmm; simp; omega
      · have : ¬ ((m0 : Int) = (m : Int)) := by omega
        simp [hmm, this]
    rw [this]
  · intro f hlt hinv again
    simp only [s33_l0_0, hlt, part_no, Option.bind_some, Bool.false_and, cond_false, List.map_nil, List.sum_nil, Nat.add_zero]

theorem v33_skip (n : Nat) (hf : Fuel n) (p : Pan) (cask : Int) (ts : List Int) (i : Nat) (hi : i < p.2.2.1.length) (hgc : ¬ p.2.2.1.getD i 0 = cask) (out : List Int)
    (k0 : Int × List Int × Int × Int × Int × List Int × List (List Int) × List Int × Unit → Option (List Int)) :
    loopG (s33_l0_0 n) n (cask, ts, (i : Int), (0 : Int), p.1, p.2.1, p.2.2.1, p.2.2.2, out, ()) (k0, ()) = k0 (cask, ts, (i : Int), p.1, p.2.1, p.2.2.1, p.2.2.2, out, ()) := by
  have hlo := hf.lo
  obtain ⟨n', rfl⟩ : ∃ n', n = n' + 1 := ⟨n - 1, by omega⟩
  have hgi : geti p.2.2.1 (i : Int) = some (p.2.2.1[i]) := by rw [geti_nat, List.getElem?_eq_getElem hi]
  have hne : (p.2.2.1[i] == cask) = false := by
    rw [List.getD_eq_getElem?_getD, List.getElem?_eq_getElem hi] at hgc
    simpa using hgc
  rw [loopG]
  cases hc : decide ((0 : Int) < ((List.length ts : Nat) : Int))
  · simp only [s33_l0_0, hc, part_no, Option.bind_some, Bool.false_and, cond_false]
  · simp only [s33_l0_0, hc, part_true, hgi, Option.bind_some, hne, Bool.and_false, cond_false]

theorem cum_succ (p : Pan) (cask : Int) (ts : List Int) (i m : Nat) : cum p cask ts (i + 1) m = cum p cask ts i m + (ts.map (oneAt p cask m i)).sum := by
  unfold cum
  rw [List.range_succ, List.map_append, List.sum_append]
  simp

theorem v33 (n : Nat) (hf : Fuel n) (p : Pan) (hp : GoodP p) (cask : Int) (ts : List Int) (hts : okTs p ts) (hl : ts.length ≤ 1000) : s33 n p cask ts = some (tab p.2.1.toNat (cnt p cask ts)) := by
  have hlo := hf.lo
  have hM := hp.marks
  have hG := hp.glasses
  unfold s33
  rw [chki_ok (by omega) (by omega), Option.bind_some, tab_zero]
  refine (count_loop (A := Unit) p.2.2.1.length (fun i _ => (cask, ts, (i : Int), p.1, p.2.1, p.2.2.1, p.2.2.2, tab p.2.1.toNat (cum p cask ts i), ())) (fun i _ => some (tab p.2.1.toNat (cnt p cask ts))) (fun _ _ => True) (by unfold maxLen; omega) ?_ ?_ () trivial (by omega))
  · intro i _ hi hlt hw _ again ih
    simp only [s33_l0, hlt, cond_true]
    by_cases hgc : p.2.2.1.getD i 0 = cask
    · rw [v33_l0_0 n hf p hp cask ts hts hl i hi hgc _ (fun m => by have := cum_le p cask ts hl i m; omega)]
      simp only [hw]
      have e : tab p.2.1.toNat (fun m => cum p cask ts i m + (ts.map (oneAt p cask m i)).sum) = tab p.2.1.toNat (cum p cask ts (i + 1)) := tab_ext fun m _ => (cum_succ p cask ts i m).symm
      rw [e]
      exact ih () trivial
    · rw [v33_skip n hf p cask ts i hi hgc]
      simp only [hw]
      have e : tab p.2.1.toNat (cum p cask ts i) = tab p.2.1.toNat (cum p cask ts (i + 1)) := tab_ext fun m _ => by
        rw [cum_succ]
        have : (oneAt p cask m i) = fun _ => 0 := by
          funext t
          unfold oneAt
          rw [if_neg fun h => hgc h.1]
        rw [this, sum_zero_map, Nat.add_zero]
      rw [e]
      exact ih () trivial
  · intro _ hlt _ again
    simp only [s33_l0, hlt, cond_false]
    have e : tab p.2.1.toNat (cum p cask ts p.2.2.1.length) = tab p.2.1.toNat (cnt p cask ts) := tab_ext fun m _ => cum_all p hp cask ts hts m
    rw [e]

end Go.Abs

set_option linter.unusedSimpArgs false
set_option linter.unusedVariables false
namespace Go.Abs
open Go

theorem foldl_ge : (r : List Int) → (a : Int) → a ≤ r.foldl imax a ∧ ∀ x ∈ r, x ≤ r.foldl imax a
  | [], a => ⟨Int.le_refl _, by simp⟩
  | y :: r, a => by
    obtain ⟨h1, h2⟩ := foldl_ge r (imax a y)
    have e : a ≤ imax a y ∧ y ≤ imax a y := by unfold imax; split <;> omega
    rw [List.foldl_cons]
    refine ⟨by omega, fun x hx => ?_⟩
    rcases List.mem_cons.1 hx with rfl | hx
    · omega
    · exact h2 x hx

theorem maxL_ge {l : List Int} : ∀ x ∈ l, x ≤ maxL l := by
  cases l with
  | nil => simp
  | cons a r =>
    intro x hx
    obtain ⟨h1, h2⟩ := foldl_ge r a
    rcases List.mem_cons.1 hx with rfl | hx
    · exact h1
    · exact h2 x hx

theorem idxF_eq {α : Type} {p : α → Bool} : (l : List α) → (i b : Nat) → (hb : b < l.length) → p l[b] = true → (∀ j (hj : j < b), p (l[j]'(by omega)) = false) → idxF p i l = ((i + b : Nat) : Int)
  | [], i, b, hb, _, _ => by simp at hb
  | x :: l, i, 0, hb, h1, h2 => by
    have : p x = true := h1
    simp only [idxF, this, cond_true, Nat.add_zero]
  | x :: l, i, b + 1, hb, h1, h2 => by
    have h0 : p x = false := h2 0 (by omega)
    have ih := idxF_eq (p := p) l (i + 1) b (by simpa using hb) (by simpa using h1) (fun j hj => by have := h2 (j + 1) (by omega); simpa using this)
    simp only [idxF, h0, cond_false, ih]
    omega

/-- The best of the first i, so far; and whether there is another as good. -/
structure BestOf (l : List Int) (i b : Nat) (tw : Bool) : Prop where
  bi : b < i
  il : i ≤ l.length
  top : ∀ j, j < i → l.getD j 0 ≤ l.getD b 0
  first : ∀ j, j < b → l.getD j 0 < l.getD b 0
  twice : tw = true ↔ ∃ j, b < j ∧ j < i ∧ l.getD j 0 = l.getD b 0

theorem BestOf.step {l : List Int} {i b : Nat} {tw : Bool} (h : BestOf l i b tw) (hi : i < l.length) :
    (l.getD i 0 > l.getD b 0 → BestOf l (i + 1) i false) ∧ (l.getD i 0 = l.getD b 0 → BestOf l (i + 1) b true) ∧ (l.getD i 0 < l.getD b 0 → BestOf l (i + 1) b tw) := by
  obtain ⟨h1, h2, h3, h4, h5⟩ := h
  refine ⟨fun hg => ⟨by omega, hi, fun j hj => ?_, fun j hj => ?_, by simp; omega⟩, fun he => ⟨by omega, hi, fun j hj => ?_, h4, by simp only [true_iff]; exact ⟨i, h1, by omega, he⟩⟩, fun hl => ⟨by omega, hi, fun j hj => ?_, h4, ?_⟩⟩
  · by_cases hji : j = i
    · subst hji; omega
    · have := h3 j (by omega); omega
  · have := h3 j hj; omega
  · by_cases hji : j = i
    · subst hji; omega
    · exact h3 j (by omega)
  · by_cases hji : j = i
    · subst hji; omega
    · exact h3 j (by omega)
  · rw [h5]
    constructor
    · rintro ⟨j, a1, a2, a3⟩
      exact ⟨j, a1, by omega, a3⟩
    · rintro ⟨j, a1, a2, a3⟩
      by_cases hji : j = i
      · subst hji; omega
      · exact ⟨j, a1, by omega, a3⟩

theorem BestOf.mark {l : List Int} {b : Nat} {tw : Bool} (h : BestOf l l.length b tw) : markOf l = bif tw || (l.getD b 0 == 0) then -1 else (b : Int) := by
  obtain ⟨h1, _, h3, h4, h5⟩ := h
  have gd : ∀ j (hj : j < l.length), l.getD j 0 = l[j] := fun j hj => by rw [List.getD_eq_getElem?_getD, List.getElem?_eq_getElem hj]; rfl
  have hm : maxL l = l[b] := by
    have a1 := maxL_ge l[b] (List.getElem_mem h1)
    obtain ⟨j, hj, hje⟩ := List.getElem_of_mem (maxL_mem (l := l) (by omega))
    have := h3 j hj
    rw [gd j hj, gd b h1, hje] at this
    omega
  have hi : idxF (fun x => maxL l == x) 0 l = ((b : Nat) : Int) := by
    have := idxF_eq (p := fun x => maxL l == x) l 0 b h1 (by simp [hm]) (fun j hj => by
      have := h4 j hj
      rw [gd j (by omega), gd b h1] at this
      rw [hm]
      simp
      omega)
    rw [Nat.zero_add] at this
    exact this
  have hany : ((l.drop (((b : Nat) : Int) + 1).toNat).any fun x => maxL l == x) = tw := by
    have e : (((b : Nat) : Int) + 1).toNat = b + 1 := by omega
    rw [e, Bool.eq_iff_iff, h5, List.any_eq_true]
    constructor
    · rintro ⟨x, hx, hx2⟩
      obtain ⟨j, hj, hje⟩ := List.getElem_of_mem hx
      rw [List.length_drop] at hj
      rw [List.getElem_drop] at hje
      refine ⟨b + 1 + j, by omega, by omega, ?_⟩
      rw [gd _ (by omega), gd b h1, hje, ← hm]
      exact (by simpa using hx2 : maxL l = x).symm
    · rintro ⟨j, a1, a2, a3⟩
      rw [gd j a2, gd b h1] at a3
      refine ⟨l[j], ?_, by rw [hm, a3]; simp⟩
      rw [List.mem_iff_getElem]
      refine ⟨j - (b + 1), by rw [List.length_drop]; omega, ?_⟩
      rw [List.getElem_drop]
      congr 1
      omega
  unfold markOf
  rw [hi, hany, hm, gd b h1]
  cases tw <;> cases h0 : (l[b] == 0) <;> rfl

theorem v34 (n : Nat) (hf : Fuel n) (p : Pan) (hp : GoodP p) (cask : Int) (ts : List Int) (hts : okTs p ts) (hl : ts.length ≤ 1000) : s34 n p cask ts = some (markOf (tab p.2.1.toNat (cnt p cask ts))) := by
  have hlo := hf.lo
  have hM := hp.marks
  unfold s34
  rw [show ((p.1, (p.2.1, (p.2.2.1, p.2.2.2))) : Pan) = p from rfl, v33 n hf p hp cask ts hts hl, Option.bind_some]
  have hlen := tab_len p.2.1.toNat (cnt p cask ts)
  generalize tab p.2.1.toNat (cnt p cask ts) = l at *
  have gd : ∀ j (hj : j < l.length), geti l (j : Int) = some (l.getD j 0) := fun j hj => by rw [geti_nat, List.getElem?_eq_getElem hj, List.getD_eq_getElem?_getD, List.getElem?_eq_getElem hj]; rfl
  have h0 : BestOf l (1 + 0) 0 false := ⟨by omega, by omega, fun j hj => by
    have : j = 0 := by omega
    subst this
    exact Int.le_refl _, fun j hj => by omega, by simp; omega⟩
  refine (count_loop (A := Nat × Bool) (l.length - 1) (fun j a => (l, (a.1 : Int), a.2, ((1 + j : Nat) : Int), ())) (fun j a => some (markOf l)) (fun j a => BestOf l (1 + j) a.1 a.2) (by unfold maxLen; omega) ?_ ?_ (0, false) h0 (by omega))
  · rintro j ⟨b, tw⟩ hj _ _ hinv again ih
    have hinv : BestOf l (1 + j) b tw := hinv
    have hji : 1 + j < l.length := by omega
    have hlt : decide (((1 + j : Nat) : Int) < ((List.length l : Nat) : Int)) = true := by rw [decide_eq_true_eq]; omega
    have hw : IntKind.wrap .i64 (((1 + j : Nat) : Int) + 1) = ((1 + (j + 1) : Nat) : Int) := by rw [wrap_id] <;> omega
    obtain ⟨q1, q2, q3⟩ := hinv.step hji
    simp only [s34_l0, hlt, cond_true, gd _ hji, gd b (by have := hinv.bi; omega), Option.bind_some, hw]
    cases c1 : (l.getD (1 + j) 0 == l.getD b 0)
    · have n1 : ¬ l.getD (1 + j) 0 = l.getD b 0 := by simpa using c1
      simp only [cond_false]
      cases c2 : decide (l.getD (1 + j) 0 > l.getD b 0)
      · have n2 : ¬ l.getD (1 + j) 0 > l.getD b 0 := by simpa using c2
        simp only [cond_false]
        exact ih (b, tw) (q3 (by omega))
      · simp only [cond_true]
        exact ih (1 + j, false) (q1 (by simpa using c2))
    · have n1 : l.getD (1 + j) 0 = l.getD b 0 := by simpa using c1
      have c2 : decide (l.getD (1 + j) 0 > l.getD b 0) = false := by rw [decide_eq_false_iff_not]; omega
      simp only [cond_true, c2, cond_false]
      exact ih (b, true) (q2 n1)
  · rintro ⟨b, tw⟩ _ hinv again
    have e : 1 + (l.length - 1) = l.length := by omega
    have hinv : BestOf l (1 + (l.length - 1)) b tw := hinv
    rw [e] at hinv
    have hlt : decide (((1 + (l.length - 1) : Nat) : Int) < ((List.length l : Nat) : Int)) = false := by rw [decide_eq_false_iff_not]; omega
    have hb := hinv.bi
    simp only [s34_l0, hlt, cond_false]
    rw [hinv.mark]
    cases tw
    · simp only [Bool.not_false, part_true, gd b hb, Option.bind_some, Bool.false_or]
      cases (l.getD b 0 == 0) <;> rfl
    · rfl

end Go.Abs

set_option linter.unusedSimpArgs false
set_option linter.unusedVariables false
namespace Go.Abs
open Go

def prevOk (prev : Option Int) (x : Int) : Bool := match prev with
  | none => true
  | some y => decide (x > y)

def tsGo (L : Int) : Option Int → List Int → Int
  | _, [] => 0
  | prev, x :: r => bif unl (inR x 0 (L - 1)) 6 == 0 then (bif prevOk prev x then tsGo L (some x) r else 9) else unl (inR x 0 (L - 1)) 6

def PrevAt (l : List Int) (i : Nat) (prev : Option Int) : Prop := match prev with
  | none => i = 0
  | some y => 0 < i ∧ l[i - 1]? = some y

theorem v125 (n : Nat) (hf : Fuel n) (p : Pan) (l : List Int) (hL : p.2.2.2.length ≤ 1000) (hl : l.length ≤ 1000) : s125 n p l = some (tsGo (p.2.2.2.length : Int) none l) := by
  have hlo := hf.lo
  unfold s125
  refine list_loop (A := Option Int) l (fun i _ => (l, l, ((List.length l : Nat) : Int), (i : Int), p.1, p.2.1, p.2.2.1, p.2.2.2, ())) (fun i a r => some (tsGo (p.2.2.2.length : Int) a r)) (fun i a => PrevAt l i a) (by unfold maxLen; omega) ?_ ?_ none rfl (by omega)
  · intro i a x r hi hx hd hg hlt hw hinv again ih
    simp only [s125_l0, hlt, cond_true, hg, Option.bind_some, show ((p.1, (p.2.1, (p.2.2.1, p.2.2.2))) : Pan) = p from rfl, v90 n p x hL, v81, hw]
    have key : ∃ z, part (!((i : Int) == (0 : Int))) (geti l (imax (0 : Int) (IntKind.wrap .i64 ((i : Int) - (1 : Int))))) (0 : Int) = some z ∧ (((i : Int) == (0 : Int)) || decide (x > z)) = prevOk a x := by
      cases a with
      | none =>
        have : i = 0 := hinv
        subst this
        exact ⟨0, rfl, rfl⟩
      | some y =>
        obtain ⟨h0, hy⟩ := hinv
        have e1 : ((i : Int) == (0 : Int)) = false := by simp; omega
        have e2 : imax (0 : Int) (IntKind.wrap .i64 ((i : Int) - (1 : Int))) = ((i - 1 : Nat) : Int) := by
          rw [wrap_id (by omega) (by omega)]
          unfold imax
          split <;> omega
        refine ⟨y, ?_, ?_⟩
        · rw [e1, e2, geti_nat, hy]; rfl
        · rw [e1]; rfl
    obtain ⟨z, k1, k2⟩ := key
    rw [k1]
    simp only [Option.bind_some, k2, v80 n [_, _] (by simp [maxLen]) (by simp; omega), bne, tsGo]
    have hF : ∀ u w : Int, firstErr [u, w] = bif u == 0 then (bif w == 0 then 0 else w) else u := fun u w => rfl
    rw [hF]
    have hnext : PrevAt l (i + 1) (some x) := ⟨by omega, by simpa using hx⟩
    cases c1 : (unl (inR x 0 ((p.2.2.2.length : Int) - 1)) 6 == 0)
    · simp only [cond_false, c1, Bool.not_false, cond_true]
    · cases c2 : prevOk a x
      · rfl
      · simp only [cond_true]
        rw [show (unl true 9 : Int) = 0 from rfl]
        simp only [beq_self_eq_true, cond_true, Bool.not_true, cond_false]
        exact ih _ hnext
  · intro a hlt _ again
    simp only [s125_l0, hlt, cond_false, tsGo]

theorem v31 (n : Nat) (hf : Fuel n) (p : Pan) (l : List Int) (hL : p.2.2.2.length ≤ 1000) (hl : l.length ≤ 1000) : s31 n p l = some (tsGo (p.2.2.2.length : Int) none l) := by
  have hlo := hf.lo
  unfold s31
  refine list_loop (A := Option Int) l (fun i _ => (l, (i : Int), p.1, p.2.1, p.2.2.1, p.2.2.2, ())) (fun i a r => some (tsGo (p.2.2.2.length : Int) a r)) (fun i a => PrevAt l i a) (by unfold maxLen; omega) ?_ ?_ none rfl (by omega)
  · intro i a x r hi hx hd hg hlt hw hinv again ih
    simp only [s31_l0, hlt, cond_true, hg, Option.bind_some, v30 n x p.2.2.2.length hL, hw, bne, tsGo]
    have hnext : PrevAt l (i + 1) (some x) := ⟨by omega, by simpa using hx⟩
    cases c1 : (unl (inR x 0 ((p.2.2.2.length : Int) - 1)) 6 == 0)
    · rfl
    · simp only [Bool.not_true, cond_false, cond_true]
      cases a with
      | none =>
        have : i = 0 := hinv
        subst this
        simp only [prevOk, cond_true]
        exact ih _ hnext
      | some y =>
        obtain ⟨h0, hy⟩ := hinv
        have e1 : decide ((i : Int) > (0 : Int)) = true := by simp; omega
        have e2 : IntKind.wrap .i64 ((i : Int) - (1 : Int)) = ((i - 1 : Nat) : Int) := by rw [wrap_id (by omega) (by omega)]; omega
        have e3 : geti l ((i - 1 : Nat) : Int) = some y := by rw [geti_nat, hy]
        simp only [e1, part_true, e2, e3, Option.bind_some, Bool.true_and, prevOk]
        have e4 : decide (x ≤ y) = !decide (x > y) := by
          rw [Bool.eq_iff_iff]; simp
        rw [e4]
        cases decide (x > y)
        · rfl
        · simp only [Bool.not_true, cond_false, cond_true]
          exact ih _ hnext
  · intro a hlt _ again
    simp only [s31_l0, hlt, cond_false, tsGo]

theorem tsGo_ok {L : Int} : {l : List Int} → {a : Option Int} → tsGo L a l = 0 → ∀ t ∈ l, 0 ≤ t ∧ t < L
  | [], _, _, t, ht => by simp at ht
  | x :: r, a, h, t, ht => by
    unfold tsGo at h
    cases c1 : (unl (inR x 0 (L - 1)) 6 == 0)
    · rw [c1] at h
      simp only [cond_false] at h
      rw [h] at c1
      simp at c1
    · rw [c1] at h
      simp only [cond_true] at h
      cases c2 : prevOk a x
      · rw [c2] at h; simp at h
      · rw [c2] at h
        simp only [cond_true] at h
        rcases List.mem_cons.1 ht with rfl | ht
        · have := inR_iff.1 ((unl_zero (show (6 : Int) ≠ 0 by decide)).1 (by simpa using c1))
          omega
        · exact tsGo_ok h t ht

/-- All errors of a cask and tasters, the first one. -/
def mkErr (p : Pan) (cask : Int) (ts : List Int) : Int :=
  bif (panErr p).2 == 0 then (bif unl (inR cask 0 (p.1 - 1)) 6 == 0 then tsGo (p.2.2.2.length : Int) none ts else unl (inR cask 0 (p.1 - 1)) 6) else (panErr p).2

theorem v30c (n : Nat) (p : Pan) (hg : GoodP p) (c : Int) : s30 n c p.1 = some (unl (inR c 0 (p.1 - 1)) 6) := by
  have := hg.casks
  unfold s30
  rw [v19, Option.bind_some, wrap_id (by omega) (by omega)]
  cases inR c 0 (p.1 - 1) <;> rfl

theorem v86_bad0 (n : Nat) (hf : Fuel n) (p : Pan) (hp : fitP n p) (hL : p.2.2.2.length ≤ 1000) (c : Int) (ts : List Int) (hl : ts.length ≤ 1000) (he : ((panErr p).2 == 0) = false) :
    s86 n p c ts = some (p, (panErr p).2) := by
  have hlo := hf.lo
  unfold s86 s124
  simp only [show ((p.1, (p.2.1, (p.2.2.1, p.2.2.2))) : Pan) = p from rfl, v89 n p hf hp, Option.bind_some, show ((p.1, p.2.1, p.2.2.1, p.2.2.2) : Pan) = p from rfl, v82, v81, v125 n hf p ts hL hl, v80 n [_, _, _] (by simp [maxLen]) (by simp; omega)]
  simp only [firstErr, he, cond_false]

theorem v86 (n : Nat) (hf : Fuel n) (p : Pan) (hp : fitP n p) (hL : p.2.2.2.length ≤ 1000) (c : Int) (ts : List Int) (hl : ts.length ≤ 1000) : s86 n p c ts = some (p, mkErr p c ts) := by
  have hlo := hf.lo
  cases he : ((panErr p).2 == 0)
  · rw [v86_bad0 n hf p hp hL c ts hl he, mkErr, he]; rfl
  · have hg := panErr_good (by simpa using he)
    unfold s86
    simp only [show ((p.1, (p.2.1, (p.2.2.1, p.2.2.2))) : Pan) = p from rfl, v89 n p hf hp, Option.bind_some, show ((p.1, p.2.1, p.2.2.1, p.2.2.2) : Pan) = p from rfl, v124 n p c hg, v125 n hf p ts hL hl, v80 n [_, _, _] (by simp [maxLen]) (by simp; omega)]
    unfold mkErr
    simp only [firstErr, he, cond_true]
    cases c1 : (unl (inR c 0 (p.1 - 1)) 6 == 0)
    · rfl
    · simp only [cond_true]
      cases c2 : (tsGo (p.2.2.2.length : Int) none ts == 0)
      · rfl
      · simp only [cond_true]
        rw [show tsGo (p.2.2.2.length : Int) none ts = 0 by simpa using c2]

theorem v25 (n : Nat) (hf : Fuel n) (p : Pan) (hp : fitP n p) (hL : p.2.2.2.length ≤ 1000) (c : Int) (ts : List Int) (hl : ts.length ≤ 1000) :
    s25 n p c ts = some (bif mkErr p c ts == 0 then tab p.2.1.toNat (cnt p c ts) else [], mkErr p c ts) := by
  unfold s25
  rw [show ((p.1, (p.2.1, (p.2.2.1, p.2.2.2))) : Pan) = p from rfl, v86 n hf p hp hL c ts hl]
  simp only [Option.bind_some, bne]
  cases he : (mkErr p c ts == 0)
  · rfl
  · have h0 : mkErr p c ts = 0 := by simpa using he
    unfold mkErr at h0
    cases c3 : ((panErr p).2 == 0)
    · rw [c3] at h0; simp only [cond_false] at h0; rw [h0] at c3; simp at c3
    · have hg := panErr_good (by simpa using c3)
      rw [c3] at h0
      cases c4 : (unl (inR c 0 (p.1 - 1)) 6 == 0)
      · rw [c4] at h0; simp only [cond_false, cond_true] at h0; rw [h0] at c4; simp at c4
      · rw [c4] at h0
        simp only [cond_true] at h0
        have hts : okTs p ts := tsGo_ok h0
        simp only [Bool.not_true, cond_false, show ((p.1, p.2.1, p.2.2.1, p.2.2.2) : Pan) = p from rfl, v87 n hf p hg c ts hts hl, Option.bind_some, cond_true]
        rw [show mkErr p c ts = 0 by simpa using he]

theorem v28 (n : Nat) (hf : Fuel n) (p : Pan) (hp : fitP n p) (hL : p.2.2.2.length ≤ 1000) (c : Int) (ts : List Int) (hl : ts.length ≤ 1000) :
    s28 n p c ts = some (bif mkErr p c ts == 0 then (bif decide (markOf (tab p.2.1.toNat (cnt p c ts)) < 0) then (0, 12) else (markOf (tab p.2.1.toNat (cnt p c ts)), 0)) else (0, mkErr p c ts)) := by
  unfold s28
  rw [show ((p.1, (p.2.1, (p.2.2.1, p.2.2.2))) : Pan) = p from rfl, v86 n hf p hp hL c ts hl]
  simp only [Option.bind_some, bne]
  cases he : (mkErr p c ts == 0)
  · rfl
  · have h0 : mkErr p c ts = 0 := by simpa using he
    unfold mkErr at h0
    cases c3 : ((panErr p).2 == 0)
    · rw [c3] at h0; simp only [cond_false] at h0; rw [h0] at c3; simp at c3
    · have hg := panErr_good (by simpa using c3)
      rw [c3] at h0
      cases c4 : (unl (inR c 0 (p.1 - 1)) 6 == 0)
      · rw [c4] at h0; simp only [cond_false, cond_true] at h0; rw [h0] at c4; simp at c4
      · rw [c4] at h0
        simp only [cond_true] at h0
        have hts : okTs p ts := tsGo_ok h0
        simp only [Bool.not_true, cond_false, show ((p.1, p.2.1, p.2.2.1, p.2.2.2) : Pan) = p from rfl, v88 n hf p hg c ts hts hl, Option.bind_some, cond_true]
        cases decide (markOf (tab p.2.1.toNat (cnt p c ts)) < 0) <;> rfl

theorem taste_marks (p : Pan) (c : Int) (ts : List Int) : ∃ n, s4 n p c ts = some true := by
  refine ⟨0 + 2000, ?_⟩
  generalize hm : (0 : Nat) = m
  have hm0 : m = 0 := hm.symm
  clear hm
  have hf : Fuel (m + 2000) := ⟨by omega, by omega⟩
  have ht := awake_ok m
  generalize hn : m + 2000 = n at *
  unfold s4
  simp only [ht, Option.bind_some, Bool.not_true, cond_false, show ((p.1, (p.2.1, (p.2.2.1, p.2.2.2))) : Pan) = p from rfl, v24 n p hf, show decide (((List.length ts : Nat) : Int) > (10 : Int)) = !decide (ts.length ≤ 10) from dec_gt _ 10]
  cases c1 : fewP p
  · rfl
  · obtain ⟨hp, l1, l2⟩ := fewP_fit c1 hf
    have hq : fitQ n p := ⟨hp.1, hp.2.1⟩
    cases c2 : decide (ts.length ≤ 10)
    · rfl
    · have hl : ts.length ≤ 10 := by simpa using c2
      have hlt : Lt n ts := by unfold Lt; omega
      simp only [Bool.not_true, Bool.or_self, cond_false, v26 n p hf hp, Option.bind_some, show ((p.1, p.2.1, p.2.2.1, p.2.2.2) : Pan) = p from rfl, v27 n ts hf hlt, v29 n p hf hq, v25 n hf p hp (by omega) c ts (by omega), v28 n hf p hp (by omega) c ts (by omega), bne]
      have hE : mkErr p c ts = bif (panErr p).2 == 0 then (bif unl (inR c 0 (p.1 - 1)) 6 == 0 then tsGo (p.2.2.2.length : Int) none ts else unl (inR c 0 (p.1 - 1)) 6) else (panErr p).2 := rfl
      cases c3 : ((panErr p).2 == 0)
      · rw [c3] at hE
        simp only [cond_false] at hE
        rw [hE, c3]
        simp [c3]
      · have hpe : (panErr p).2 = 0 := by simpa using c3
        have hg := panErr_good hpe
        rw [c3] at hE
        simp only [cond_true] at hE
        simp only [cond_true, v30c n p hg c, Option.bind_some]
        cases c4 : (unl (inR c 0 (p.1 - 1)) 6 == 0)
        · rw [c4] at hE
          simp only [cond_false] at hE
          rw [hE, c4]
          simp [c4]
        · rw [c4] at hE
          simp only [cond_true] at hE
          simp only [cond_true, v31 n hf p ts (by omega) (by omega), Option.bind_some]
          rw [hE]
          cases c5 : (tsGo (p.2.2.2.length : Int) none ts == 0)
          · simp [c5]
          · have hts0 : tsGo (p.2.2.2.length : Int) none ts = 0 := by simpa using c5
            have hts : okTs p ts := tsGo_ok hts0
            have hml := tab_len p.2.1.toNat (cnt p c ts)
            have hM := hg.marks
            have hlo := hf.lo
            simp only [Bool.not_true, cond_false, cond_true, hts0, beq_self_eq_true, Bool.not_false, part_true, v33 n hf p hg c ts hts (by omega), v34 n hf p hg c ts hts (by omega), Option.bind_some, v32 n (tab p.2.1.toNat (cnt p c ts)) _ hf (by unfold Lt; omega), Bool.or_self]
            generalize markOf (tab p.2.1.toNat (cnt p c ts)) = k
            cases c6 : decide (k < 0)
            · have : decide (k ≥ 0) = true := by simp at c6 ⊢; omega
              simp [this, c6]
            · have : decide (k ≥ 0) = false := by simp at c6 ⊢; omega
              simp [this, c6]

end Go.Abs

set_option linter.unusedSimpArgs false
set_option linter.unusedVariables false
namespace Go.Abs
open Go

def bkP (p : Pan) : Pan := (p.1, p.2.1, p.2.2.1.reverse, p.2.2.2.map List.reverse)

theorem tstErr_bk (p : Pan) (l : List Int) : tstErr (bkP p) l.reverse = tstErr p l := by
  unfold tstErr bkP
  simp only [List.length_reverse, List.any_reverse]

theorem tstGo_bk (p : Pan) : (l : List (List Int)) → (i : Nat) → tstGo (bkP p) i (l.map List.reverse) = tstGo p i l
  | [], _ => rfl
  | l :: r, i => by
    simp only [List.map_cons, tstGo, tstErr_bk, tstGo_bk p r]

theorem panErr_bk (p : Pan) : panErr (bkP p) = panErr p := by
  have h0 : panErr0 (bkP p) = panErr0 p := by
    unfold panErr0 bkP
    simp only [List.length_reverse, List.length_map, List.any_reverse]
  unfold panErr
  rw [h0]
  have : (bkP p).2.2.2 = p.2.2.2.map List.reverse := rfl
  rw [this, tstGo_bk]

theorem tst_bk (p : Pan) (t : Int) : tst (bkP p) t = (tst p t).reverse := by
  unfold tst bkP
  simp only [List.getD_eq_getElem?_getD, List.getElem?_map]
  cases p.2.2.2[t.toNat]? <;> rfl

theorem cntZ_snoc (c : Int) (m : Nat) (g x : Int) : (gs xs : List Int) → gs.length = xs.length → cntZ c m (gs ++ [g]) (xs ++ [x]) = cntZ c m gs xs + (if g = c ∧ x = (m : Int) then 1 else 0)
  | [], [], _ => by simp [cntZ]
  | [], _ :: _, h => by simp at h
  | _ :: _, [], h => by simp at h
  | a :: gs, b :: xs, h => by
    have ih := cntZ_snoc c m g x gs xs (by simpa using h)
    simp only [List.cons_append, cntZ, ih, Nat.add_assoc]

theorem cntZ_rev (c : Int) (m : Nat) : (gs xs : List Int) → gs.length = xs.length → cntZ c m gs.reverse xs.reverse = cntZ c m gs xs
  | [], [], _ => rfl
  | [], _ :: _, h => by simp at h
  | _ :: _, [], h => by simp at h
  | g :: gs, x :: xs, h => by
    have h' : gs.length = xs.length := by simpa using h
    rw [List.reverse_cons, List.reverse_cons, cntZ_snoc c m g x _ _ (by simpa using h'), cntZ_rev c m gs xs h', cntZ, Nat.add_comm]

theorem cnt_bk {p : Pan} (hp : GoodP p) (c : Int) (ts : List Int) (hts : okTs p ts) (m : Nat) : cnt (bkP p) c ts m = cnt p c ts m := by
  unfold cnt
  congr 1
  apply List.map_congr_left
  intro t ht
  have e := (hp.each _ (tst_get (hts t ht)).2).1
  rw [tst_bk]
  exact cntZ_rev c m p.2.2.1 (tst p t) e.symm

/-- How many glasses a cask has. -/
def occ (c : Int) : List Int → Nat
  | [] => 0
  | g :: r => (if g = c then 1 else 0) + occ c r

theorem occ_le (c : Int) : (l : List Int) → occ c l ≤ l.length
  | [] => Nat.le_refl _
  | g :: r => by
    have := occ_le c r
    simp only [occ, List.length_cons]
    split <;> omega

theorem occ_snoc (c g : Int) : (l : List Int) → occ c (l ++ [g]) = occ c l + (if g = c then 1 else 0)
  | [] => by simp [occ]
  | x :: l => by simp only [List.cons_append, occ, occ_snoc c g l, Nat.add_assoc]

theorem occ_rev (c : Int) : (l : List Int) → occ c l.reverse = occ c l
  | [] => rfl
  | x :: l => by rw [List.reverse_cons, occ_snoc, occ_rev c l, occ, Nat.add_comm]

theorem sum_one (M : Nat) (b : Bool) (x : Nat) (hx : x < M) : ((List.range M).map fun (m : Nat) => if b = true ∧ (x : Int) = (m : Int) then 1 else 0).sum = if b = true then 1 else 0 := by
  induction M with
  | zero => omega
  | succ M ih =>
    rw [List.range_succ, List.map_append, List.sum_append]
    by_cases h : x = M
    · subst h
      have : ((List.range x).map fun (m : Nat) => if b = true ∧ (x : Int) = (m : Int) then 1 else 0) = (List.range x).map fun _ => 0 := by
        apply List.map_congr_left
        intro m hm
        have := List.mem_range.1 hm
        rw [if_neg (by omega)]
      rw [this, sum_zero_map]
      simp
    · rw [ih (by omega)]
      have : ¬ ((x : Int) = (M : Int)) := by omega
      simp [this]

theorem cntZ_sum (c : Int) (M : Nat) : (gs xs : List Int) → gs.length = xs.length → (∀ x ∈ xs, 0 ≤ x ∧ x < (M : Int)) → ((List.range M).map fun m => cntZ c m gs xs).sum = occ c gs
  | [], [], _, _ => by simp [cntZ, occ, sum_zero_map]
  | [], _ :: _, h, _ => by simp at h
  | _ :: _, [], h, _ => by simp at h
  | g :: gs, x :: xs, h, hx => by
    have ih := cntZ_sum c M gs xs (by simpa using h) (fun y hy => hx y (List.mem_cons_of_mem _ hy))
    simp only [cntZ, occ, sum_add_map, ih]
    congr 1
    have h0 := hx x List.mem_cons_self
    have := sum_one M (decide (g = c)) x.toNat (by omega)
    simp only [decide_eq_true_eq, show ((x.toNat : Nat) : Int) = x by omega] at this
    exact this

def psum (f : Nat → Nat) (k : Nat) : Nat := ((List.range k).map f).sum
theorem psum_succ (f : Nat → Nat) (k : Nat) : psum f (k + 1) = psum f k + f k := by
  unfold psum
  rw [List.range_succ, List.map_append, List.sum_append]
  simp

theorem sum_const_map {α : Type} (k : Nat) : (l : List α) → (l.map fun _ => k).sum = l.length * k
  | [] => by simp
  | x :: l => by simp only [List.map_cons, List.sum_cons, sum_const_map k l, List.length_cons, Nat.succ_mul]; omega

theorem cnt_total {p : Pan} (hp : GoodP p) (c : Int) (ts : List Int) (hts : okTs p ts) : psum (cnt p c ts) p.2.1.toNat = ts.length * occ c p.2.2.1 := by
  unfold psum cnt
  rw [← sum_swap (fun t m => cntZ c m p.2.2.1 (tst p t))]
  rw [← sum_const_map]
  congr 1
  apply List.map_congr_left
  intro t ht
  obtain ⟨e1, e2⟩ := hp.each _ (tst_get (hts t ht)).2
  have := hp.marks
  exact cntZ_sum c p.2.1.toNat p.2.2.1 (tst p t) e1.symm (fun x hx => by have := e2 x hx; omega)

theorem cnt_le {p : Pan} (hp : GoodP p) (c : Int) (ts : List Int) (hl : ts.length ≤ 1000) (m : Nat) : cnt p c ts m ≤ 1000000 := by
  unfold cnt
  have := sum_le_map (fun t => cntZ c m p.2.2.1 (tst p t)) 1000 (fun t => Nat.le_trans (cntZ_le c m _ _) hp.glasses.2) ts
  omega

theorem psum_mono (f : Nat → Nat) {k M : Nat} (h : k ≤ M) : psum f k ≤ psum f M := by
  induction M with
  | zero => have : k = 0 := by omega
            subst this; exact Nat.le_refl _
  | succ M ih =>
    by_cases hk : k = M + 1
    · subst hk; exact Nat.le_refl _
    · have := ih (by omega)
      rw [psum_succ]
      omega

/-! Steadiness from behind. -/
theorem sumN_rev (f : Int × Int → Nat) : (l : ZZ) → sumN f l.reverse = sumN f l
  | [] => rfl
  | z :: l => by rw [List.reverse_cons, sumN_snoc, sumN_rev f l, sumN_cons, Nat.add_comm]

theorem steadyJ_snoc (h : Int × Int → Int × Int → Nat) (x : Int × Int) : (l : ZZ) → steadyJ h (l ++ [x]) = steadyJ h l + sumN (fun w => h x w) l
  | [] => by simp [steadyJ, sumN]
  | w :: l => by
    rw [List.cons_append, steadyJ, steadyJ_snoc h x l, sumN_snoc, steadyJ, sumN_cons]
    omega

theorem steadyJ_rev (h : Int × Int → Int × Int → Nat) (hs : ∀ z w, h z w = h w z) : (l : ZZ) → steadyJ h l.reverse = steadyJ h l
  | [] => rfl
  | w :: l => by
    rw [List.reverse_cons, steadyJ_snoc, steadyJ_rev h hs l, steadyJ, sumN_rev]
    have : (fun z => h w z) = fun z => h z w := by funext z; exact hs w z
    rw [this, Nat.add_comm]

theorem same1_symm (z w : Int × Int) : same1 z w = same1 w z := by
  unfold same1
  by_cases h : w.1 = z.1 ∧ z.2 = w.2
  · rw [if_pos h, if_pos ⟨h.1.symm, h.2.symm⟩]
  · rw [if_neg h, if_neg fun g => h ⟨g.1.symm, g.2.symm⟩]
theorem glass1_symm (z w : Int × Int) : glass1 z w = glass1 w z := by
  unfold glass1
  by_cases h : w.1 = z.1
  · rw [if_pos h, if_pos h.symm]
  · rw [if_neg h, if_neg fun g => h g.symm]

theorem zip_rev (a b : List Int) (h : a.length = b.length) : a.reverse.zip b.reverse = (a.zip b).reverse := by
  induction a generalizing b with
  | nil => cases b with
    | nil => rfl
    | cons _ _ => simp at h
  | cons x a ih => cases b with
    | nil => simp at h
    | cons y b =>
      have h' : a.length = b.length := by simpa using h
      rw [List.reverse_cons, List.reverse_cons, List.zip_append (by simpa using h'), ih b h']
      show (a.zip b).reverse ++ [(x, y)] = ((x, y) :: a.zip b).reverse
      rw [List.reverse_cons]

theorem steady_bk {p : Pan} (hp : GoodP p) (t : Int) (ht : 0 ≤ t ∧ t < (p.2.2.2.length : Int)) : steady (bkP p) t = steady p t := by
  have e := (hp.each _ (tst_get ht).2).1
  unfold steady
  rw [steadyI_nil, steadyI_nil, steadyI_nil, steadyI_nil, tst_bk]
  have : (bkP p).2.2.1 = p.2.2.1.reverse := rfl
  rw [this, zip_rev _ _ e.symm, steadyJ_rev same1 same1_symm, steadyJ_rev glass1 glass1_symm]

end Go.Abs

set_option linter.unusedSimpArgs false
set_option linter.unusedVariables false
namespace Go.Abs
open Go

theorem getq_rev {α : Type} (l : List α) (j : Nat) (hj : j < l.length) (x : α) (h : l.reverse[j]? = some x) : geti l ((l.length : Int) - 1 - (j : Int)) = some x := by
  have e : ((l.length : Int) - 1 - (j : Int)) = ((l.length - 1 - j : Nat) : Int) := by omega
  rw [e, geti_nat, ← List.getElem?_reverse hj, h]

theorem take_succ_of {α : Type} (l : List α) (i : Nat) (x : α) (h : l[i]? = some x) : l.take i ++ [x] = l.take (i + 1) := by
  rw [List.take_add_one, h]
  rfl

theorem v5_l0 (n : Nat) (hf : Fuel n) (p : Pan) (c : Int) (hl : p.2.2.1.length ≤ 1000) (b1 b2 : Int) (k0 : Int × Int × Int × Int × List Int × List (List Int) × Int × Int × List Int × Unit → Option Bool) :
    loopG (s5_l0 n) n (c, (0 : Int), ((p.2.2.1.length : Int) - 1), p.1, p.2.1, p.2.2.1, p.2.2.2, b1, b2, ([] : List Int), ()) (k0, ()) =
      k0 (c, ((occ c p.2.2.1 : Nat) : Int), p.1, p.2.1, p.2.2.1, p.2.2.2, b1, b2, p.2.2.1.reverse, ()) := by
  have hlo := hf.lo
  have hrl : p.2.2.1.reverse.length = p.2.2.1.length := by simp
  rw [show ((p.2.2.1.length : Int) - 1) = ((p.2.2.1.length : Int) - 1 - ((0 : Nat) : Int)) by omega]
  refine (list_loop (A := Nat) p.2.2.1.reverse (fun i a => (c, (a : Int), ((p.2.2.1.length : Int) - 1 - (i : Int)), p.1, p.2.1, p.2.2.1, p.2.2.2, b1, b2, p.2.2.1.reverse.take i, ()))
    (fun i a r => k0 (c, ((a + occ c r : Nat) : Int), p.1, p.2.1, p.2.2.1, p.2.2.2, b1, b2, p.2.2.1.reverse, ())) (fun i a => a ≤ i) (by rw [hrl]; unfold maxLen; omega) ?_ ?_ 0 (Nat.le_refl _) (by rw [hrl]; omega)).trans (by simp [occ_rev])
  · intro i a x r hi hx hd hg hlt hw hinv again ih
    rw [hrl] at hi
    have h1 : decide (((p.2.2.1.length : Int) - 1 - (i : Int)) ≥ (0 : Int)) = true := by simp; omega
    have h2 := getq_rev p.2.2.1 i hi x hx
    have h3 : chk ((p.2.2.1.reverse.take i).length + ([x] : List Int).length) = some () := chk_ok (by simp; omega)
    have h4 : IntKind.wrap .i64 (((p.2.2.1.length : Int) - 1 - (i : Int)) - 1) = ((p.2.2.1.length : Int) - 1 - ((i + 1 : Nat) : Int)) := by rw [wrap_id (by omega) (by omega)]; omega
    have h5 : IntKind.wrap .i64 ((a : Int) + 1) = ((a + 1 : Nat) : Int) := by rw [wrap_id] <;> omega
    simp only [s5_l0, h1, cond_true, h2, Option.bind_some, h3, h4, h5, take_succ_of _ _ _ hx, occ]
    by_cases hc : x = c
    · have e : (x == c) = true := by simpa using hc
      rw [e]
      simp only [cond_true, if_pos hc]
      rw [ih (a + 1) (by omega), Nat.add_assoc]
    · have e : (x == c) = false := by simpa using hc
      rw [e]
      simp only [cond_false, if_neg hc, Nat.zero_add]
      rw [ih a (by omega)]
  · intro a hlt hinv again
    rw [hrl]
    have h1 : decide (((p.2.2.1.length : Int) - 1 - (p.2.2.1.length : Int)) ≥ (0 : Int)) = false := by simp; omega
    have h2 : p.2.2.1.reverse.take p.2.2.1.length = p.2.2.1.reverse := by rw [List.take_of_length_le]; simp
    simp only [s5_l0, h1, cond_false, h2, occ, Nat.add_zero]

theorem v5_l1_0 (n : Nat) (hf : Fuel n) (p : Pan) (c gl i : Int) (l : List Int) (hgi : geti p.2.2.2 i = some l) (hl : l.length = p.2.2.1.length) (hl2 : p.2.2.1.length ≤ 1000) (b1 b2 : Int) (b3 : List Int) (b4 : List (List Int)) (all sums : List Int)
    (k0 : Int × Int × Int × Int × Int × List Int × List (List Int) × Int × Int × List Int × List (List Int) × List Int × List Int × List Int × Unit → Option Bool) :
    loopG (s5_l1_0 n) n (c, gl, i, ((p.2.2.1.length : Int) - 1), p.1, p.2.1, p.2.2.1, p.2.2.2, b1, b2, b3, b4, all, sums, ([] : List Int), ()) (k0, ()) =
      k0 (c, gl, i, p.1, p.2.1, p.2.2.1, p.2.2.2, b1, b2, b3, b4, all, sums, l.reverse, ()) := by
  have hlo := hf.lo
  have hrl : l.reverse.length = p.2.2.1.length := by simp [hl]
  rw [show ((p.2.2.1.length : Int) - 1) = ((p.2.2.1.length : Int) - 1 - ((0 : Nat) : Int)) by omega]
  refine (list_loop0 l.reverse (fun j => (c, gl, i, ((p.2.2.1.length : Int) - 1 - (j : Int)), p.1, p.2.1, p.2.2.1, p.2.2.2, b1, b2, b3, b4, all, sums, l.reverse.take j, ()))
    (fun j r => k0 (c, gl, i, p.1, p.2.1, p.2.2.1, p.2.2.2, b1, b2, b3, b4, all, sums, l.reverse, ())) (by rw [hrl]; unfold maxLen; omega) ?_ ?_ (by rw [hrl]; omega))
  · intro j x r hi hx hd hg hlt hw again ih
    rw [hrl] at hi
    have h1 : decide (((p.2.2.1.length : Int) - 1 - (j : Int)) ≥ (0 : Int)) = true := by simp; omega
    have h2 := getq_rev l j (by omega) x hx
    rw [hl] at h2
    have h3 : chk ((l.reverse.take j).length + ([x] : List Int).length) = some () := chk_ok (by simp; omega)
    have h4 : IntKind.wrap .i64 (((p.2.2.1.length : Int) - 1 - (j : Int)) - 1) = ((p.2.2.1.length : Int) - 1 - ((j + 1 : Nat) : Int)) := by rw [wrap_id (by omega) (by omega)]; omega
    simp only [s5_l1_0, h1, cond_true, hgi, h2, Option.bind_some, h3, h4, take_succ_of _ _ _ hx]
    exact ih
  · intro hlt again
    rw [hrl]
    have h1 : decide (((p.2.2.1.length : Int) - 1 - (p.2.2.1.length : Int)) ≥ (0 : Int)) = false := by simp; omega
    have h2 : l.reverse.take p.2.2.1.length = l.reverse := by rw [List.take_of_length_le]; omega
    simp only [s5_l1_0, h1, cond_false, h2]

theorem v5_l1_1 (n : Nat) (hf : Fuel n) (p : Pan) (hM : 1 ≤ p.2.1 ∧ p.2.1 ≤ 6) (c gl i : Int) (f g : Nat → Nat) (hfb : ∀ m, f m ≤ 1000000) (hgb : ∀ m, g m ≤ 1000000) (b1 b2 : Int) (b3 : List Int) (b4 : List (List Int)) (all : List Int)
    (k0 : Int × Int × Int × Int × Int × List Int × List (List Int) × Int × Int × List Int × List (List Int) × List Int × List Int × Unit → Option Bool) :
    loopG (s5_l1_1 n) n (c, gl, i, tab p.2.1.toNat g, (0 : Int), p.1, p.2.1, p.2.2.1, p.2.2.2, b1, b2, b3, b4, all, tab p.2.1.toNat f, ()) (k0, ()) =
      k0 (c, gl, i, p.1, p.2.1, p.2.2.1, p.2.2.2, b1, b2, b3, b4, all, tab p.2.1.toNat (fun m => f m + g m), ()) := by
  have hlo := hf.lo
  have hC : ((p.2.1.toNat : Nat) : Int) = p.2.1 := by omega
  refine (count_loop (A := Unit) p.2.1.toNat (fun k _ => (c, gl, i, tab p.2.1.toNat g, (k : Int), p.1, p.2.1, p.2.2.1, p.2.2.2, b1, b2, b3, b4, all, tab p.2.1.toNat (fun m => f m + if m < k then g m else 0), ()))
    (fun k _ => k0 (c, gl, i, p.1, p.2.1, p.2.2.1, p.2.2.2, b1, b2, b3, b4, all, tab p.2.1.toNat (fun m => f m + g m), ())) (fun _ _ => True) (by unfold maxLen; omega) ?_ ?_ () trivial (by omega))
  · intro k _ hk hlt hw _ again ih
    rw [hC] at hlt
    have a1 := hfb k
    have a2 := hgb k
    have e0 : (if k < k then g k else 0) = 0 := if_neg (Nat.lt_irrefl k)
    have hws : IntKind.wrap .i64 (((f k + 0 : Nat) : Int) + ((g k : Nat) : Int)) = ((f k + g k : Nat) : Int) := by rw [wrap_id] <;> omega
    simp only [s5_l1_1, hlt, cond_true, tab_get hk, Option.bind_some, e0, hws, tab_set hk, hw]
    have e : tab p.2.1.toNat (fun m => if m = k then f k + g k else f m + if m < k then g m else 0) = tab p.2.1.toNat (fun m => f m + if m < k + 1 then g m else 0) := tab_ext fun m _ => by
      by_cases h : m = k
      · subst h
        rw [if_pos rfl, if_pos (by omega)]
      · rw [if_neg h]
        by_cases h2 : m < k
        · rw [if_pos h2, if_pos (by omega)]
        · rw [if_neg h2, if_neg (by omega)]
    rw [e]
    exact ih () trivial
  · intro _ hlt _ again
    rw [hC] at hlt
    have hE : decide (((p.2.1.toNat : Nat) : Int) < p.2.1) = false := by rw [hC]; exact hlt
    simp only [s5_l1_1, hE, cond_false]
    have e : tab p.2.1.toNat (fun m => f m + if m < p.2.1.toNat then g m else 0) = tab p.2.1.toNat (fun m => f m + g m) := tab_ext fun m hm => by rw [if_pos hm]
    rw [e]

/-- The first numbers. -/
def upto (k : Nat) : List Int := (List.range k).map fun t => ((t : Nat) : Int)
theorem upto_succ (k : Nat) : upto (k + 1) = upto k ++ [(k : Int)] := by
  unfold upto
  rw [List.range_succ, List.map_append]
  rfl
theorem upto_len (k : Nat) : (upto k).length = k := by simp [upto]
theorem upto_ok {p : Pan} {k : Nat} (h : k ≤ p.2.2.2.length) : okTs p (upto k) := by
  intro t ht
  obtain ⟨j, hj, rfl⟩ := List.mem_map.1 ht
  have := List.mem_range.1 hj
  omega
theorem cnt_succ (p : Pan) (c : Int) (k : Nat) (m : Nat) : cnt p c (upto (k + 1)) m = cnt p c (upto k) m + cnt p c [(k : Int)] m := by
  unfold cnt
  rw [upto_succ, List.map_append, List.sum_append]

theorem mkErr_ok {p : Pan} (he : (panErr p).2 = 0) {c : Int} (hc : inR c 0 (p.1 - 1) = true) (ts : List Int) : mkErr p c ts = tsGo (p.2.2.2.length : Int) none ts := by
  unfold mkErr
  rw [he, hc]
  rfl

theorem tsGo_one {L t : Int} (h : 0 ≤ t ∧ t < L) : tsGo L none [t] = 0 := by
  have : inR t 0 (L - 1) = true := inR_iff.2 (by omega)
  simp [tsGo, this, unl, prevOk]

theorem tsGo_run {L : Int} : ∀ (d k : Nat) (a : Option Int), ((k + d : Nat) : Int) ≤ L → (a = none ∨ ∃ y, a = some y ∧ y < (k : Int)) → tsGo L a ((List.range' k d).map fun t => ((t : Nat) : Int)) = 0
  | 0, _, _, _, _ => rfl
  | d + 1, k, a, h, ha => by
    have e : inR (k : Int) 0 (L - 1) = true := inR_iff.2 (by omega)
    have ep : prevOk a (k : Int) = true := by
      rcases ha with rfl | ⟨y, rfl, hy⟩
      · rfl
      · simp [prevOk]; omega
    rw [List.range'_succ, List.map_cons, tsGo, e, ep]
    simp only [unl, cond_true, beq_self_eq_true]
    exact tsGo_run d (k + 1) (some (k : Int)) (by omega) (.inr ⟨_, rfl, by omega⟩)

theorem tsGo_upto {L : Nat} : tsGo (L : Int) none (upto L) = 0 := by
  unfold upto
  rw [List.range_eq_range']
  exact tsGo_run L 0 none (by omega) (.inl rfl)

theorem v5_l1 (n : Nat) (hf : Fuel n) (p : Pan) (hp : fitP n p) (hg : GoodP p) (he : (panErr p).2 = 0) (c : Int) (hc : inR c 0 (p.1 - 1) = true) (gl b1 b2 : Int) (b3 : List Int)
    (k0 : Int × Int × Int × Int × List Int × List (List Int) × Int × Int × List Int × List (List Int) × List Int × List Int × Unit → Option Bool) (k1 : Bool × Unit → Option Bool) :
    loopG (s5_l1 n) n (c, gl, (0 : Int), p.1, p.2.1, p.2.2.1, p.2.2.2, b1, b2, b3, ([] : List (List Int)), ([] : List Int), tab p.2.1.toNat (fun _ => 0), ()) (k0, k1, ()) =
      k0 (c, gl, p.1, p.2.1, p.2.2.1, p.2.2.2, b1, b2, b3, p.2.2.2.map List.reverse, upto p.2.2.2.length, tab p.2.1.toNat (cnt p c (upto p.2.2.2.length)), ()) := by
  have hlo := hf.lo
  have hM := hg.marks
  have hG := hg.glasses
  have hT := hg.tasters
  have h0 : tab p.2.1.toNat (fun _ => 0) = tab p.2.1.toNat (cnt p c (upto 0)) := tab_ext fun m _ => rfl
  rw [h0]
  refine (list_loop0 p.2.2.2 (fun i => (c, gl, (i : Int), p.1, p.2.1, p.2.2.1, p.2.2.2, b1, b2, b3, (p.2.2.2.take i).map List.reverse, upto i, tab p.2.1.toNat (cnt p c (upto i)), ()))
    (fun i r => k0 (c, gl, p.1, p.2.1, p.2.2.1, p.2.2.2, b1, b2, b3, p.2.2.2.map List.reverse, upto p.2.2.2.length, tab p.2.1.toNat (cnt p c (upto p.2.2.2.length)), ())) (by unfold maxLen; omega) ?_ ?_ (by omega))
  · intro i l r hi hx hd hgi hlt hw again ih
    obtain ⟨e1, e2⟩ := hg.each l (List.mem_of_getElem? hx)
    have hpre : IntKind.wrap .i64 (((List.length p.2.2.1 : Nat) : Int) - (1 : Int)) = ((p.2.2.1.length : Int) - 1) := by rw [wrap_id] <;> omega
    simp only [s5_l1, hlt, cond_true, hpre]
    rw [v5_l1_0 n hf p c gl (i : Int) l hgi e1 hG.2]
    have hch1 : chk (((p.2.2.2.take i).map List.reverse).length + ([l.reverse] : List (List Int)).length) = some () := chk_ok (by simp; omega)
    have hch2 : chk ((upto i).length + ([(i : Int)] : List Int).length) = some () := chk_ok (by rw [upto_len]; simp; omega)
    have hmk : mkErr p c [(i : Int)] = 0 := by rw [mkErr_ok he hc, tsGo_one ⟨by omega, by omega⟩]
    simp only [hch1, hch2, Option.bind_some, show ((p.1, (p.2.1, (p.2.2.1, p.2.2.2))) : Pan) = p from rfl, v26 n p hf hp, v25 n hf p hp hT.2 c [(i : Int)] (by simp), hmk, beq_self_eq_true, cond_true]
    have hlen : ((((List.length (tab p.2.1.toNat (cnt p c [(i : Int)]))) : Nat) : Int) != p.2.1) = false := by
      rw [tab_len]
      simp
      omega
    have h00 : ((0 : Int) != (0 : Int)) = false := rfl
    simp only [hlen, h00, Bool.or_self, cond_false]
    rw [v5_l1_1 n hf p hM c gl (i : Int) (cnt p c (upto i)) (cnt p c [(i : Int)]) (fun m => cnt_le hg c _ (by rw [upto_len]; omega) m) (fun m => cnt_le hg c _ (by simp) m)]
    have e3 : tab p.2.1.toNat (fun m => cnt p c (upto i) m + cnt p c [(i : Int)] m) = tab p.2.1.toNat (cnt p c (upto (i + 1))) := tab_ext fun m _ => (cnt_succ p c i m).symm
    have e4 : (p.2.2.2.take i).map List.reverse ++ [l.reverse] = (p.2.2.2.take (i + 1)).map List.reverse := by
      rw [← take_succ_of _ _ _ hx, List.map_append]
      rfl
    simp only [hw, e3, e4, ← upto_succ]
    exact ih
  · intro hlt again
    simp only [s5_l1, hlt, cond_false, List.take_length]

theorem v5_l2 (n : Nat) (hf : Fuel n) (p : Pan) (hM : 1 ≤ p.2.1 ∧ p.2.1 ≤ 6) (gl : Int) (f : Nat → Nat) (hfb : ∀ k, k ≤ p.2.1.toNat → psum f k ≤ 1000000) (b1 b2 : Int) (b3 : List Int) (b4 : List (List Int))
    (k0 : Int × Int × Int × Int × List Int × List (List Int) × Int × Int × List Int × List (List Int) × Unit → Option Bool) :
    loopG (s5_l2 n) n (gl, tab p.2.1.toNat f, (0 : Int), (0 : Int), p.1, p.2.1, p.2.2.1, p.2.2.2, b1, b2, b3, b4, ()) (k0, ()) =
      k0 (gl, ((psum f p.2.1.toNat : Nat) : Int), p.1, p.2.1, p.2.2.1, p.2.2.2, b1, b2, b3, b4, ()) := by
  have hlo := hf.lo
  have hC : ((p.2.1.toNat : Nat) : Int) = p.2.1 := by omega
  refine (count_loop (A := Unit) p.2.1.toNat (fun k _ => (gl, tab p.2.1.toNat f, ((psum f k : Nat) : Int), (k : Int), p.1, p.2.1, p.2.2.1, p.2.2.2, b1, b2, b3, b4, ()))
    (fun k _ => k0 (gl, ((psum f p.2.1.toNat : Nat) : Int), p.1, p.2.1, p.2.2.1, p.2.2.2, b1, b2, b3, b4, ())) (fun _ _ => True) (by unfold maxLen; omega) ?_ ?_ () trivial (by omega))
  · intro k _ hk hlt hw _ again ih
    rw [hC] at hlt
    have a1 := hfb (k + 1) hk
    rw [psum_succ] at a1
    have hws : IntKind.wrap .i64 (((psum f k : Nat) : Int) + ((f k : Nat) : Int)) = ((psum f (k + 1) : Nat) : Int) := by rw [psum_succ, wrap_id] <;> omega
    simp only [s5_l2, hlt, cond_true, tab_get hk, Option.bind_some, hws, hw]
    exact ih () trivial
  · intro _ hlt _ again
    rw [hC] at hlt
    have hE : decide (((p.2.1.toNat : Nat) : Int) < p.2.1) = false := by rw [hC]; exact hlt
    simp only [s5_l2, hE, cond_false]

theorem taste_counts (p : Pan) (c : Int) : ∃ n, s5 n p c = some true := by
  refine ⟨0 + 2000, ?_⟩
  generalize hm : (0 : Nat) = m
  have hm0 : m = 0 := hm.symm
  clear hm
  have hf : Fuel (m + 2000) := ⟨by omega, by omega⟩
  have ht := awake_ok m
  generalize hn : m + 2000 = n at *
  unfold s5
  simp only [ht, Option.bind_some, Bool.not_true, cond_false, show ((p.1, (p.2.1, (p.2.2.1, p.2.2.2))) : Pan) = p from rfl, v24 n p hf]
  cases c1 : fewP p
  · rfl
  · obtain ⟨hp, l1, l2⟩ := fewP_fit c1 hf
    have hq : fitQ n p := ⟨hp.1, hp.2.1⟩
    simp only [Bool.not_true, Bool.not_false, part_true, v29 n p hf hq, Option.bind_some, bne]
    cases c2 : ((panErr p).2 == 0)
    · rfl
    · have hpe : (panErr p).2 = 0 := by simpa using c2
      have hg := panErr_good hpe
      have hlo := hf.lo
      have hCk := hg.casks
      have hM := hg.marks
      have hT := hg.tasters
      have hG := hg.glasses
      simp only [Bool.not_true, Bool.or_self, Bool.not_false, part_true, v19, Option.bind_some, wrap_id (show -9223372036854775808 ≤ p.1 - 1 by omega) (by omega), Bool.false_or]
      cases c3 : inR c 0 (p.1 - 1)
      · rfl
      · have hgl : IntKind.wrap .i64 (((List.length p.2.2.1 : Nat) : Int) - (1 : Int)) = ((p.2.2.1.length : Int) - 1) := by rw [wrap_id] <;> omega
        simp only [Bool.not_true, cond_false, hgl]
        rw [v5_l0 n hf p c hG.2]
        simp only [chki_ok (show (0 : Int) ≤ p.2.1 by omega) (by omega), Option.bind_some, tab_zero]
        rw [v5_l1 n hf p hp hg hpe c c3]
        have hpb : fitP n (bkP p) := by
          refine ⟨?_, ?_, ?_⟩
          · have := hp.1
            unfold Lt bkP at *
            simpa using this
          · have := hp.2.1
            unfold Lt bkP at *
            simpa using this
          · intro t ht
            obtain ⟨x, hx, rfl⟩ := List.mem_map.1 ht
            have := hp.2.2 x hx
            unfold Lt at *
            simpa using this
        have hpeb : (panErr (bkP p)).2 = 0 := by rw [panErr_bk]; exact hpe
        have hgb := panErr_good hpeb
        have hTb : (bkP p).2.2.2.length = p.2.2.2.length := by simp [bkP]
        have hul := upto_len p.2.2.2.length
        have hm1 : mkErr p c (upto p.2.2.2.length) = 0 := by rw [mkErr_ok hpe c3, tsGo_upto]
        have hm2 : mkErr (bkP p) c (upto p.2.2.2.length) = 0 := by rw [mkErr_ok hpeb c3, hTb, tsGo_upto]
        have hcb : tab p.2.1.toNat (cnt (bkP p) c (upto p.2.2.2.length)) = tab p.2.1.toNat (cnt p c (upto p.2.2.2.length)) := tab_ext fun m _ => cnt_bk hg c _ (upto_ok (Nat.le_refl _)) m
        have h25 : s25 n (bkP p) c (upto p.2.2.2.length) = some (tab p.2.1.toNat (cnt p c (upto p.2.2.2.length)), 0) := by
          rw [v25 n hf (bkP p) hpb (by omega) c (upto p.2.2.2.length) (by omega), hm2, ← hcb]
          rfl
        have hlt1 : Lt n (upto p.2.2.2.length) := by unfold Lt; omega
        have htl : Lt n (tab p.2.1.toNat (cnt p c (upto p.2.2.2.length))) := by unfold Lt; rw [tab_len]; omega
        simp only [show ((p.1, (p.2.1, (p.2.2.1, p.2.2.2))) : Pan) = p from rfl, show ((p.1, (p.2.1, (p.2.2.1.reverse, p.2.2.2.map List.reverse))) : Pan) = bkP p from rfl, v26 n p hf hp, v26 n (bkP p) hf hpb, v27 n _ hf hlt1, Option.bind_some,
          v25 n hf p hp hT.2 c (upto p.2.2.2.length) (by omega), h25, hm1, beq_self_eq_true, cond_true, Bool.not_true, Bool.not_false, part_true,
          v32 n _ _ hf htl, Bool.or_self, cond_false]
        have hct := cnt_total hg c (upto p.2.2.2.length) (upto_ok (Nat.le_refl _))
        have hoc := occ_le c p.2.2.1
        have hmul : p.2.2.2.length * occ c p.2.2.1 ≤ 10 * 32 := Nat.mul_le_mul l2 (by omega)
        rw [hul] at hct
        rw [v5_l2 n hf p hM _ _ (fun k hk => by have := psum_mono (cnt p c (upto p.2.2.2.length)) hk; omega)]
        have o1 : oneErr p (unl (inR (0 : Int) 0 ((p.2.2.2.length : Int) - 1)) 6) = 0 := by
          have : inR (0 : Int) 0 ((p.2.2.2.length : Int) - 1) = true := inR_iff.2 (by omega)
          simp [oneErr, firstErr, hpe, this, unl]
        have o2 : oneErr (bkP p) (unl (inR (0 : Int) 0 (((bkP p).2.2.2.length : Int) - 1)) 6) = 0 := by
          have : inR (0 : Int) 0 (((bkP p).2.2.2.length : Int) - 1) = true := inR_iff.2 (by omega)
          simp [oneErr, firstErr, hpeb, this, unl]
        have hw : IntKind.wrap .i64 (((occ c p.2.2.1 : Nat) : Int) * ((List.length p.2.2.2 : Nat) : Int)) = ((p.2.2.2.length * occ c p.2.2.1 : Nat) : Int) := by
          have hmul' : occ c p.2.2.1 * p.2.2.2.length ≤ 10 * 32 := by rw [Nat.mul_comm]; exact hmul
          rw [show ((occ c p.2.2.1 : Nat) : Int) * ((List.length p.2.2.2 : Nat) : Int) = ((occ c p.2.2.1 * p.2.2.2.length : Nat) : Int) by simp, wrap_id (by omega) (by omega), Nat.mul_comm]
        simp only [show ((p.1, (p.2.1, (p.2.2.1, p.2.2.2))) : Pan) = p from rfl, show ((p.1, (p.2.1, (p.2.2.1.reverse, p.2.2.2.map List.reverse))) : Pan) = bkP p from rfl, v26 n p hf hp, v26 n (bkP p) hf hpb, Option.bind_some,
          v35_ok n hf p hp hg 0 ⟨Int.le_refl 0, by omega⟩ o1, v35_ok n hf (bkP p) hpb hgb 0 ⟨Int.le_refl 0, by omega⟩ o2, steady_bk hg 0 ⟨Int.le_refl 0, by omega⟩, hw, hct, beq_self_eq_true, Bool.and_self]

end Go.Abs
