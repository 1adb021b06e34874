/- Parts of one proof, joined: Steadiness counted from the other side; the tasters that are steady enough; TastePanels. TastePanels, in plain words. Counts, glass by glass; the reference's marks. The reference's mark. TasteMarked: parts. Breadth first search over any nodes: what it finds, in which order, and that what it finds comes first. No program. The search over classes; what SheetTo finds; TasteShortest. -/
import Derived.Test.YtbcbiemjokpghaaS3
import Derived.Test.YtbcbiemjokpghaaS4
set_option linter.unusedSimpArgs false
set_option linter.unusedVariables false
namespace Go.Abs
open Go

def steadyJ (h : Int × Int → Int × Int → Nat) : ZZ → Nat
  | [] => 0
  | w :: r => sumN (fun z => h z w) r + steadyJ h r

theorem sumN_add (f g : Int × Int → Nat) : (l : ZZ) → sumN (fun z => f z + g z) l = sumN f l + sumN g l
  | [] => rfl
  | z :: l => by rw [sumN_cons, sumN_cons, sumN_cons, sumN_add f g l]; omega

theorem steadyI_eq (h : Int × Int → Int × Int → Nat) : (l pre : ZZ) → steadyI h pre l = sumN (fun z => sumN (h z) pre) l + steadyJ h l
  | [], pre => rfl
  | z :: r, pre => by
    have e : (fun y => sumN (h y) (pre ++ [z])) = fun y => sumN (h y) pre + h y z := by
      funext y
      rw [sumN_snoc]
    rw [steadyI, steadyI_eq h r (pre ++ [z]), e, sumN_add, sumN_cons, steadyJ]
    omega

theorem sumN_zero : (l : ZZ) → sumN (fun _ => 0) l = 0
  | [] => rfl
  | z :: l => by rw [sumN_cons, sumN_zero l]

theorem steadyI_nil (h : Int × Int → Int × Int → Nat) (l : ZZ) : steadyI h [] l = steadyJ h l := by
  rw [steadyI_eq]
  have : (fun z => sumN (h z) []) = fun _ => 0 := by funext z; rfl
  rw [this, sumN_zero, Nat.zero_add]

theorem v53_l0_0 (n : Nat) (hf : Fuel n) (p : Pan) (l : List Int) (t4 t41 : Int) (i : Nat) (w : Int × Int) (e1 : l.length = p.2.2.1.length) (hl : p.2.2.1.length ≤ 1000) (hi : i < p.2.2.1.length) (hw : (p.2.2.1.zip l)[i]? = some w)
    (c d : Nat) (hc : c ≤ 1000000) (hd : d ≤ 1000000) (k0 : List Int × Int × Int × Int × List Int × List (List Int) × Int × Int × Int × Int × Unit → Option (Int × Int)) :
    loopG (s53_l0_0 n) n (l, (i : Int), ((i + 1 : Nat) : Int), p.1, p.2.1, p.2.2.1, p.2.2.2, t4, t41, (c : Int), (d : Int), ()) (k0, ()) =
      k0 (l, (i : Int), p.1, p.2.1, p.2.2.1, p.2.2.2, t4, t41, ((c + sumN (fun z => same1 z w) ((p.2.2.1.zip l).drop (i + 1)) : Nat) : Int), ((d + sumN (fun z => glass1 z w) ((p.2.2.1.zip l).drop (i + 1)) : Nat) : Int), ()) := by
  have hlo := hf.lo
  have hZ : (p.2.2.1.zip l).length = p.2.2.1.length := by simp [e1]
  have hwp := List.getElem?_zip_eq_some.1 hw
  have hgi : geti p.2.2.1 (i : Int) = some w.1 := by rw [geti_nat]; exact hwp.1
  have hli : geti l (i : Int) = some w.2 := by rw [geti_nat]; exact hwp.2
  have hdl : ((p.2.2.1.zip l).drop (i + 1)).length = p.2.2.1.length - (i + 1) := by rw [List.length_drop, hZ]
  refine (list_loop (A := Nat × Nat) ((p.2.2.1.zip l).drop (i + 1)) (fun j a => (l, (i : Int), ((i + 1 + j : Nat) : Int), p.1, p.2.1, p.2.2.1, p.2.2.2, t4, t41, (a.1 : Int), (a.2 : Int), ()))
    (fun j a r => k0 (l, (i : Int), p.1, p.2.1, p.2.2.1, p.2.2.2, t4, t41, ((a.1 + sumN (fun z => same1 z w) r : Nat) : Int), ((a.2 + sumN (fun z => glass1 z w) r : Nat) : Int), ())) (fun j a => a.1 ≤ 1000000 + j ∧ a.2 ≤ 1000000 + j)
    (by rw [hdl]; unfold maxLen; omega) ?_ ?_ (c, d) ⟨by simpa using hc, by simpa using hd⟩ (by rw [hdl]; omega)).trans (by simp)
  · rintro j ⟨c, d⟩ z r hj hx hdr _ _ _ ⟨hc, hd⟩ again ih
    rw [hdl] at hj
    dsimp only at hc hd
    rw [List.getElem?_drop] at hx
    have hx' := List.getElem?_zip_eq_some.1 hx
    have hgk : geti p.2.2.1 ((i + 1 + j : Nat) : Int) = some z.1 := by rw [geti_nat]; exact hx'.1
    have hlk : geti l ((i + 1 + j : Nat) : Int) = some z.2 := by rw [geti_nat]; exact hx'.2
    have hlt : decide (((i + 1 + j : Nat) : Int) < ((List.length l : Nat) : Int)) = true := by rw [decide_eq_true_eq]; omega
    have hw1 : IntKind.wrap .i64 (((i + 1 + j : Nat) : Int) + 1) = ((i + 1 + (j + 1) : Nat) : Int) := by rw [wrap_id] <;> omega
    have hwc : IntKind.wrap .i64 ((c : Int) + 1) = ((c + 1 : Nat) : Int) := by rw [wrap_id] <;> omega
    have hwd : IntKind.wrap .i64 ((d : Int) + 1) = ((d + 1 : Nat) : Int) := by rw [wrap_id] <;> omega
    simp only [s53_l0_0, hlt, cond_true, hgi, hgk, hli, hlk, Option.bind_some, hw1, hwc, hwd, sumN_cons]
    cases h1 : (w.1 != z.1)
    · have q1 : w.1 = z.1 := by simpa using h1
      simp only [cond_false]
      cases h2 : (w.2 == z.2)
      · have q2 : ¬ z.2 = w.2 := fun e => by rw [e] at h2; simp at h2
        simp only [cond_false]
        rw [ih (c, d + 1) ⟨by dsimp only; omega, by dsimp only; omega⟩]
        simp only [same1, glass1, q1, q2, and_false, if_false, if_true, Nat.zero_add, Nat.add_assoc]
      · have q2 : z.2 = w.2 := by have : w.2 = z.2 := by simpa using h2
                                  exact this.symm
        simp only [cond_true]
        rw [ih (c + 1, d + 1) ⟨by dsimp only; omega, by dsimp only; omega⟩]
        simp only [same1, glass1, q1, q2, and_self, if_true, Nat.add_assoc]
    · have q1 : ¬ w.1 = z.1 := by simpa using h1
      simp only [cond_true]
      rw [ih (c, d) ⟨by dsimp only; omega, by dsimp only; omega⟩]
      simp only [same1, glass1, q1, false_and, if_false, Nat.zero_add]
  · rintro ⟨c, d⟩ _ _ again
    have hlt : decide (((i + 1 + ((p.2.2.1.zip l).drop (i + 1)).length : Nat) : Int) < ((List.length l : Nat) : Int)) = false := by rw [decide_eq_false_iff_not, hdl]; omega
    simp only [s53_l0_0, hlt, cond_false]
    rfl

theorem v53 (n : Nat) (hf : Fuel n) (p : Pan) (hp : GoodP p) (t : Int) (ht : 0 ≤ t ∧ t < (p.2.2.2.length : Int)) : s53 n p t = some (((steady p t).1 : Int), ((steady p t).2 : Int)) := by
  have hlo := hf.lo
  obtain ⟨h1, h2⟩ := tst_get ht
  obtain ⟨e1, _⟩ := hp.each _ h2
  have hg := hp.glasses
  unfold s53
  rw [h1]
  simp only [Option.bind_some]
  unfold steady
  rw [steadyI_nil, steadyI_nil]
  generalize tst p t = l at *
  have hZ : (p.2.2.1.zip l).length = p.2.2.1.length := by simp [e1]
  refine (list_loop (A := Nat × Nat) (p.2.2.1.zip l) (fun i c => (l, (i : Int), p.1, p.2.1, p.2.2.1, p.2.2.2, (0 : Int), (0 : Int), (c.1 : Int), (c.2 : Int), ()))
    (fun i c r => some (((c.1 + steadyJ same1 r : Nat) : Int), ((c.2 + steadyJ glass1 r : Nat) : Int)))
    (fun i c => c.1 ≤ i * 1000 ∧ c.2 ≤ i * 1000) (by rw [hZ]; unfold maxLen; omega) ?_ ?_ (0, 0) (by simp) (by rw [hZ]; omega)).trans (by simp)
  · rintro i ⟨c, d⟩ z r hi hx hd _ hlt hw ⟨hc, hd'⟩ again ih
    rw [hZ] at hi
    dsimp only at hc hd'
    have hlt' : decide ((i : Int) < ((List.length l : Nat) : Int)) = true := by rw [decide_eq_true_eq]; omega
    have hdr : (p.2.2.1.zip l).drop (i + 1) = r := by
      have := congrArg List.tail hd
      rw [List.tail_drop] at this
      exact this
    simp only [s53_l0, hlt', cond_true, hw]
    rw [v53_l0_0 n hf p l _ _ i z e1 hg.2 hi hx c d (by omega) (by omega), hdr]
    have l1 := sumN_le (fun y => same1 y z) (fun y => same1_le y z) r
    have l2 := sumN_le (fun y => glass1 y z) (fun y => glass1_le y z) r
    have hr : r.length ≤ 1000 := by rw [← hdr, List.length_drop, hZ]; omega
    simp only [hw]
    rw [ih (c + sumN (fun y => same1 y z) r, d + sumN (fun y => glass1 y z) r) ⟨by dsimp only; omega, by dsimp only; omega⟩]
    simp only [steadyJ, Nat.add_assoc]
  · rintro ⟨c, d⟩ _ _ again
    have hlt' : decide ((((p.2.2.1.zip l).length : Nat) : Int) < ((List.length l : Nat) : Int)) = false := by rw [decide_eq_false_iff_not, hZ]; omega
    simp only [s53_l0, hlt', cond_false, steadyJ]
    rfl

theorem v55 (n : Nat) (hf : Fuel n) (p : Pan) (hp : GoodP p) (least : Int × Int) : s55 n p least = some (steadiest p least) := by
  have hlo := hf.lo
  have hT := hp.tasters
  unfold s55 steadiest
  refine (count_loop (A := List Int) p.2.2.2.length (fun i acc => ((i : Int), p.1, p.2.1, p.2.2.1, p.2.2.2, least.1, least.2, acc, ()))
    (fun i acc => some (((List.range p.2.2.2.length).filter (isSteady p least)).map fun t => ((t : Nat) : Int))) (fun i acc => acc = ((List.range i).filter (isSteady p least)).map fun t => ((t : Nat) : Int)) (by unfold maxLen; omega) ?_ ?_ [] (by simp) (by omega))
  · intro i acc hi hlt hw hinv again ih
    have e := v53 n hf p hp (i : Int) ⟨by omega, by omega⟩
    have hal : acc.length ≤ i := by
      rw [hinv, List.length_map]
      exact Nat.le_trans (List.length_filter_le _ _) (by simp)
    have hch : chk (acc.length + ([(i : Int)] : List Int).length) = some () := chk_ok (by simp; omega)
    simp only [s55_l0, hlt, cond_true, show ((p.1, (p.2.1, (p.2.2.1, p.2.2.2))) : Pan) = p from rfl, e, Option.bind_some, hw, hch]
    have hr : ((List.range (i + 1)).filter (isSteady p least)).map (fun t => ((t : Nat) : Int)) = acc ++ (bif isSteady p least i then [((i : Nat) : Int)] else []) := by
      rw [List.range_succ, List.filter_append, List.map_append, ← hinv]
      cases h : isSteady p least i <;> simp [h]
    have hd : decide (IntKind.wrap .i64 (((steady p i).1 : Int) * least.2) ≥ IntKind.wrap .i64 (least.1 * ((steady p i).2 : Int))) = isSteady p least i := rfl
    rw [hd]
    cases h : isSteady p least i
    · simp only [cond_false]
      exact ih acc (by rw [hr, h]; simp)
    · simp only [cond_true]
      exact ih (acc ++ [(i : Int)]) (by rw [hr, h]; rfl)
  · intro acc hlt hinv again
    simp only [s55_l0, hlt, cond_false, hinv]

end Go.Abs

set_option linter.unusedSimpArgs false
set_option linter.unusedVariables false
namespace Go.Abs
open Go

theorem part_no {α : Type} (m : Option α) (d : α) : part false m d = some d := rfl

def oneErr (p : Pan) (e : Int) : Int := firstErr [(panErr p).2, e]

theorem v35_bad (n : Nat) (hf : Fuel n) (p : Pan) (hp : fitP n p) (hl : p.2.2.2.length ≤ 1000) (t : Int) (he : (oneErr p (unl (inR t 0 ((p.2.2.2.length : Int) - 1)) 6) == 0) = false) :
    s35 n p t = some ((0, 0), oneErr p (unl (inR t 0 ((p.2.2.2.length : Int) - 1)) 6)) := by
  have hlo := hf.lo
  unfold s35
  simp only [show ((p.1, (p.2.1, (p.2.2.1, p.2.2.2))) : Pan) = p from rfl, v89 n p hf hp, Option.bind_some, show ((p.1, p.2.1, p.2.2.1, p.2.2.2) : Pan) = p from rfl, v90 n p _ hl, v80 n [_, _] (by simp [maxLen]) (by simp; omega), bne]
  rw [show firstErr [(panErr p).2, unl (inR t 0 ((p.2.2.2.length : Int) - 1)) 6] = oneErr p (unl (inR t 0 ((p.2.2.2.length : Int) - 1)) 6) from rfl, he]
  rfl

theorem v35_ok (n : Nat) (hf : Fuel n) (p : Pan) (hp : fitP n p) (hg : GoodP p) (t : Int) (ht : 0 ≤ t ∧ t < (p.2.2.2.length : Int)) (he : oneErr p (unl (inR t 0 ((p.2.2.2.length : Int) - 1)) 6) = 0) :
    s35 n p t = some ((((steady p t).1 : Int), ((steady p t).2 : Int)), 0) := by
  have hlo := hf.lo
  unfold s35
  simp only [show ((p.1, (p.2.1, (p.2.2.1, p.2.2.2))) : Pan) = p from rfl, v89 n p hf hp, Option.bind_some, show ((p.1, p.2.1, p.2.2.1, p.2.2.2) : Pan) = p from rfl, v90 n p _ hg.tasters.2, v80 n [_, _] (by simp [maxLen]) (by simp; omega), bne]
  rw [show firstErr [(panErr p).2, unl (inR t 0 ((p.2.2.2.length : Int) - 1)) 6] = oneErr p (unl (inR t 0 ((p.2.2.2.length : Int) - 1)) 6) from rfl, he]
  simp only [beq_self_eq_true, Bool.not_true, cond_false, v91 n hf p hg t ht, Option.bind_some]

theorem v51_bad (n : Nat) (hf : Fuel n) (p : Pan) (hp : fitP n p) (least : Int × Int) (e : Int) (hs : s109 n least = some e) (he : (oneErr p e == 0) = false) : s51 n p least = some ([], oneErr p e) := by
  have hlo := hf.lo
  unfold s51
  simp only [show ((p.1, (p.2.1, (p.2.2.1, p.2.2.2))) : Pan) = p from rfl, v89 n p hf hp, Option.bind_some, show ((least.1, least.2) : Int × Int) = least from rfl, hs, v80 n [_, _] (by simp [maxLen]) (by simp; omega), bne]
  rw [show firstErr [(panErr p).2, e] = oneErr p e from rfl, he]
  rfl

theorem v51_ok (n : Nat) (hf : Fuel n) (p : Pan) (hp : fitP n p) (hg : GoodP p) (least : Int × Int) (hs : s109 n least = some 0) (he : (panErr p).2 = 0) : s51 n p least = some (steadiest p least, 0) := by
  have hlo := hf.lo
  unfold s51
  simp only [show ((p.1, (p.2.1, (p.2.2.1, p.2.2.2))) : Pan) = p from rfl, v89 n p hf hp, Option.bind_some, show ((least.1, least.2) : Int × Int) = least from rfl, hs, v80 n [_, _] (by simp [maxLen]) (by simp; omega), he]
  have e0 : (firstErr [(0 : Int), 0] != 0) = false := rfl
  rw [e0]
  simp only [cond_false, show ((p.1, p.2.1, p.2.2.1, p.2.2.2) : Pan) = p from rfl, v110 n hf p hg least, Option.bind_some]

theorem taste_panels (p : Pan) (t : Int) (least : Int × Int) (hle : least.2.natAbs < 2 ^ 64) : ∃ n, s9 n p t least = some true := by
  refine ⟨0 + 2000, ?_⟩
  generalize hm : (0 : Nat) = m
  have hm0 : m = 0 := hm.symm
  clear hm
  have hf : Fuel (m + 2000) := ⟨by omega, by omega⟩
  have ht := awake_ok m
  generalize hn : m + 2000 = n at *
  obtain ⟨e, hs, hs'⟩ := share_same n hf least hle
  unfold s9
  simp only [ht, Option.bind_some, Bool.not_true, cond_false, show ((p.1, (p.2.1, (p.2.2.1, p.2.2.2))) : Pan) = p from rfl, v24 n p hf]
  cases c1 : fewP p
  · rfl
  · obtain ⟨hp, l1, l2⟩ := fewP_fit c1 hf
    have hq : fitQ n p := ⟨hp.1, hp.2.1⟩
    simp only [Bool.not_true, cond_false, v26 n p hf hp, Option.bind_some, show ((p.1, p.2.1, p.2.2.1, p.2.2.2) : Pan) = p from rfl, show ((least.1, least.2) : Int × Int) = least from rfl, v50 n p hf hp, v52 n p hf hq, v30 n _ p.2.2.2.length (by omega), hs', bne]
    generalize hu : unl (inR t 0 ((p.2.2.2.length : Int) - 1)) 6 = u
    have hE : ∀ x, oneErr p x = bif (panErr p).2 == 0 then (bif x == 0 then 0 else x) else (panErr p).2 := fun x => rfl
    cases c3 : ((panErr p).2 == 0)
    · have h1 : ∀ x, oneErr p x = (panErr p).2 := fun x => by rw [hE, c3]; rfl
      rw [v35_bad n hf p hp (by omega) t (by rw [h1]; exact c3), v51_bad n hf p hp least e hs (by rw [h1]; exact c3), h1, h1]
      simp [c3]
    · have hpe : (panErr p).2 = 0 := by simpa using c3
      have hg := panErr_good hpe
      have h1 : ∀ x, oneErr p x = x := fun x => by
        rw [hE, c3]
        cases h : (x == 0)
        · rfl
        · simp only [cond_true]
          exact (by simpa using h : x = 0).symm
      have hst : (steadiest p least).length ≤ 1000 := (steadiest_ok p least hg.tasters.2).2
      have h51 : s51 n p least = some (bif e == 0 then steadiest p least else [], e) := by
        cases h : (e == 0)
        · rw [v51_bad n hf p hp least e hs (by rw [h1]; exact h), h1]
          rfl
        · have e0 : e = 0 := by simpa using h
          subst e0
          rw [v51_ok n hf p hp hg least hs hpe]
          rfl
      have h35 : s35 n p t = some (bif u == 0 then (((steady p t).1 : Int), ((steady p t).2 : Int)) else (0, 0), u) := by
        cases h : (u == 0)
        · rw [v35_bad n hf p hp (by omega) t (by rw [h1, hu]; exact h), h1, hu]
          rfl
        · have u0 : u = 0 := by simpa using h
          subst u0
          have rt := inR_iff.1 ((unl_zero (show (6 : Int) ≠ 0 by decide)).1 hu)
          rw [v35_ok n hf p hp hg t ⟨rt.1, by omega⟩ (by rw [h1, hu])]
          rfl
      rw [h51, h35]
      have h53 : u = 0 → s53 n p t = some (((steady p t).1 : Int), ((steady p t).2 : Int)) := fun u0 => by
        rw [u0] at hu
        have rt := inR_iff.1 ((unl_zero (show (6 : Int) ≠ 0 by decide)).1 hu)
        exact v53 n hf p hg t ⟨rt.1, by omega⟩
      simp only [Option.bind_some, beq_self_eq_true, Bool.not_true, Bool.or_self, cond_false]
      have fin : ∀ b : Bool, b = false → (bif b then some false else
          bif !(e == 0) then some (((List.length (bif e == 0 then steadiest p least else []) : Nat) : Int) == (0 : Int)) else
            (part (e == 0) (s55 n p least) []).bind fun x_12 => (part (e == 0) (s32 n (bif e == 0 then steadiest p least else []) x_12) false).bind fun x_13 => some ((e == 0) && x_13)) = some true := by
        rintro b rfl
        simp only [cond_false]
        cases h : (e == 0)
        · simp
        · simp only [Bool.not_true, cond_false, cond_true, part_true, v55 n hf p hg least, Option.bind_some, v32 n (steadiest p least) _ hf (by unfold Lt; have := hf.lo; omega), beq_self_eq_true, Bool.true_and]
      cases c4 : (u == 0)
      · simp only [Bool.not_false, Bool.true_and, Bool.false_and, Bool.and_false, Bool.not_true, Bool.or_false, cond_false, beq_self_eq_true, Bool.and_self, part_no, Option.bind_some]
        exact fin _ rfl
      · have u0 : u = 0 := by simpa using c4
        simp only [Bool.not_true, Bool.false_and, Bool.not_false, Bool.true_and, part_true, h53 u0, Option.bind_some, cond_true, Bool.false_or, beq_self_eq_true, Bool.and_self, Bool.or_self]
        exact fin _ rfl

end Go.Abs

set_option linter.unusedSimpArgs false
set_option linter.unusedVariables false
namespace Go.Abs
open Go

def oneAt (p : Pan) (cask : Int) (m i : Nat) (t : Int) : Nat := if p.2.2.1.getD i 0 = cask ∧ (tst p t).getD i 0 = (m : Int) then 1 else 0

theorem cntZ_range (cask : Int) (m : Nat) : (gs xs : List Int) → gs.length = xs.length → cntZ cask m gs xs = ((List.range gs.length).map fun i => if gs.getD i 0 = cask ∧ xs.getD i 0 = (m : Int) then 1 else 0).sum
  | [], [], _ => rfl
  | [], _ :: _, h => by simp at h
  | _ :: _, [], h => by simp at h
  | g :: gs, x :: xs, h => by
    have ih := cntZ_range cask m gs xs (by simpa using h)
    rw [List.length_cons, List.range_succ_eq_map, List.map_cons, List.map_map, List.sum_cons, cntZ, ih]
    rfl

theorem sum_add_map {α : Type} (f g : α → Nat) : (l : List α) → (l.map fun i => f i + g i).sum = (l.map f).sum + (l.map g).sum
  | [] => rfl
  | x :: l => by simp only [List.map_cons, List.sum_cons, sum_add_map f g l]; omega

theorem sum_zero_map {α : Type} : (l : List α) → (l.map fun _ => (0 : Nat)).sum = 0
  | [] => rfl
  | x :: l => by simp [sum_zero_map l]

theorem sum_swap {α β : Type} (F : α → β → Nat) (r : List β) : (l : List α) → (l.map fun t => (r.map (F t)).sum).sum = (r.map fun i => (l.map fun t => F t i).sum).sum
  | [] => by simp only [List.map_nil, List.sum_nil, sum_zero_map]
  | t :: l => by simp only [List.map_cons, List.sum_cons, sum_swap F r l, sum_add_map]

/-- What the first glasses give. -/
def cum (p : Pan) (cask : Int) (ts : List Int) (i m : Nat) : Nat := ((List.range i).map fun j => (ts.map (oneAt p cask m j)).sum).sum

theorem cum_all (p : Pan) (hp : GoodP p) (cask : Int) (ts : List Int) (hts : okTs p ts) (m : Nat) : cum p cask ts p.2.2.1.length m = cnt p cask ts m := by
  unfold cum cnt
  rw [← sum_swap (fun t i => oneAt p cask m i t)]
  congr 1
  apply List.map_congr_left
  intro t ht
  have h := hts t ht
  have e := (hp.each _ (tst_get h).2).1
  rw [cntZ_range cask m p.2.2.1 (tst p t) e.symm]
  rfl

theorem sum_le_map {α : Type} (f : α → Nat) (B : Nat) (h : ∀ x, f x ≤ B) : (l : List α) → (l.map f).sum ≤ l.length * B
  | [] => by simp
  | x :: l => by
    have := sum_le_map f B h l
    have := h x
    rw [List.map_cons, List.sum_cons, List.length_cons, Nat.succ_mul]
    omega

theorem oneAt_le (p : Pan) (cask : Int) (m i : Nat) (t : Int) : oneAt p cask m i t ≤ 1 := by unfold oneAt; split <;> omega

theorem cum_le (p : Pan) (cask : Int) (ts : List Int) (hl : ts.length ≤ 1000) (i m : Nat) : cum p cask ts i m ≤ i * 1000 := by
  unfold cum
  have := sum_le_map (fun j => (ts.map (oneAt p cask m j)).sum) 1000 (fun j => by
    have := sum_le_map (oneAt p cask m j) 1 (oneAt_le p cask m j) ts
    omega) (List.range i)
  simpa using this

theorem v33_l0_0 (n : Nat) (hf : Fuel n) (p : Pan) (hp : GoodP p) (cask : Int) (ts : List Int) (hts : okTs p ts) (hl : ts.length ≤ 1000) (i : Nat) (hi : i < p.2.2.1.length) (hgc : p.2.2.1.getD i 0 = cask) (f : Nat → Nat) (hfb : ∀ m, f m ≤ 1000000)
    (k0 : Int × List Int × Int × Int × Int × List Int × List (List Int) × List Int × Unit → Option (List Int)) :
    loopG (s33_l0_0 n) n (cask, ts, (i : Int), (0 : Int), p.1, p.2.1, p.2.2.1, p.2.2.2, tab p.2.1.toNat f, ()) (k0, ()) =
      k0 (cask, ts, (i : Int), p.1, p.2.1, p.2.2.1, p.2.2.2, tab p.2.1.toNat (fun m => f m + (ts.map (oneAt p cask m i)).sum), ()) := by
  have hlo := hf.lo
  have hgi : geti p.2.2.1 (i : Int) = some cask := by
    rw [geti_nat, List.getElem?_eq_getElem hi]
    rw [List.getD_eq_getElem?_getD, List.getElem?_eq_getElem hi] at hgc
    exact congrArg some hgc
  have hM := hp.marks
  refine (list_loop (A := Nat → Nat) ts (fun k f => (cask, ts, (i : Int), (k : Int), p.1, p.2.1, p.2.2.1, p.2.2.2, tab p.2.1.toNat f, ()))
    (fun k f r => k0 (cask, ts, (i : Int), p.1, p.2.1, p.2.2.1, p.2.2.2, tab p.2.1.toNat (fun m => f m + (r.map (oneAt p cask m i)).sum), ())) (fun k f => ∀ m, f m ≤ 1000000 + k) (by unfold maxLen; omega) ?_ ?_ f (by simpa using hfb) (by omega))
  · intro k f t r hk hx hd hg hlt hw hinv again ih
    have ht := hts t (List.mem_of_getElem? hx)
    obtain ⟨a1, a2⟩ := tst_get ht
    obtain ⟨e1, e2⟩ := hp.each _ a2
    have hil : i < (tst p t).length := by omega
    have hgl : geti (tst p t) (i : Int) = some (tst p t)[i] := by rw [geti_nat, List.getElem?_eq_getElem hil]
    have hr := e2 (tst p t)[i] (List.getElem_mem _)
    obtain ⟨m0, hm0⟩ : ∃ m0 : Nat, (tst p t)[i] = (m0 : Int) := ⟨((tst p t)[i]).toNat, by omega⟩
    rw [hm0] at hgl hr
    have hm0l : m0 < p.2.1.toNat := by omega
    have hfm := hinv m0
    have hwc : IntKind.wrap .i64 (((f m0 : Nat) : Int) + 1) = ((f m0 + 1 : Nat) : Int) := by rw [wrap_id] <;> omega
    simp only [s33_l0_0, hlt, part_true, hgi, Option.bind_some, beq_self_eq_true, Bool.and_self, cond_true, hg, a1, hgl, tab_get hm0l, hwc, tab_set hm0l, hw]
    rw [ih (fun m => if m = m0 then f m0 + 1 else f m) (fun m => by have := hinv m; split <;> omega)]
    congr 1
    have : tab p.2.1.toNat (fun m => (if m = m0 then f m0 + 1 else f m) + (r.map (oneAt p cask m i)).sum) = tab p.2.1.toNat (fun m => f m + ((t :: r).map (oneAt p cask m i)).sum) := by
      refine tab_ext fun m _ => ?_
      rw [List.map_cons, List.sum_cons]
      have hd : (tst p t).getD i 0 = (m0 : Int) := by rw [List.getD_eq_getElem?_getD, List.getElem?_eq_getElem hil, Option.getD_some, hm0]
      unfold oneAt
      rw [hgc, hd]
      by_cases hmm : m = m0
      · subst hmm; simp; omega
      · have : ¬ ((m0 : Int) = (m : Int)) := by omega
        simp [hmm, this]
    rw [this]
  · intro f hlt hinv again
    simp only [s33_l0_0, hlt, part_no, Option.bind_some, Bool.false_and, cond_false, List.map_nil, List.sum_nil, Nat.add_zero]

theorem v33_skip (n : Nat) (hf : Fuel n) (p : Pan) (cask : Int) (ts : List Int) (i : Nat) (hi : i < p.2.2.1.length) (hgc : ¬ p.2.2.1.getD i 0 = cask) (out : List Int)
    (k0 : Int × List Int × Int × Int × Int × List Int × List (List Int) × List Int × Unit → Option (List Int)) :
    loopG (s33_l0_0 n) n (cask, ts, (i : Int), (0 : Int), p.1, p.2.1, p.2.2.1, p.2.2.2, out, ()) (k0, ()) = k0 (cask, ts, (i : Int), p.1, p.2.1, p.2.2.1, p.2.2.2, out, ()) := by
  have hlo := hf.lo
  obtain ⟨n', rfl⟩ : ∃ n', n = n' + 1 := ⟨n - 1, by omega⟩
  have hgi : geti p.2.2.1 (i : Int) = some (p.2.2.1[i]) := by rw [geti_nat, List.getElem?_eq_getElem hi]
  have hne : (p.2.2.1[i] == cask) = false := by
    rw [List.getD_eq_getElem?_getD, List.getElem?_eq_getElem hi] at hgc
    simpa using hgc
  rw [loopG]
  cases hc : decide ((0 : Int) < ((List.length ts : Nat) : Int))
  · simp only [s33_l0_0, hc, part_no, Option.bind_some, Bool.false_and, cond_false]
  · simp only [s33_l0_0, hc, part_true, hgi, Option.bind_some, hne, Bool.and_false, cond_false]

theorem cum_succ (p : Pan) (cask : Int) (ts : List Int) (i m : Nat) : cum p cask ts (i + 1) m = cum p cask ts i m + (ts.map (oneAt p cask m i)).sum := by
  unfold cum
  rw [List.range_succ, List.map_append, List.sum_append]
  simp

theorem v33 (n : Nat) (hf : Fuel n) (p : Pan) (hp : GoodP p) (cask : Int) (ts : List Int) (hts : okTs p ts) (hl : ts.length ≤ 1000) : s33 n p cask ts = some (tab p.2.1.toNat (cnt p cask ts)) := by
  have hlo := hf.lo
  have hM := hp.marks
  have hG := hp.glasses
  unfold s33
  rw [chki_ok (by omega) (by omega), Option.bind_some, tab_zero]
  refine (count_loop (A := Unit) p.2.2.1.length (fun i _ => (cask, ts, (i : Int), p.1, p.2.1, p.2.2.1, p.2.2.2, tab p.2.1.toNat (cum p cask ts i), ())) (fun i _ => some (tab p.2.1.toNat (cnt p cask ts))) (fun _ _ => True) (by unfold maxLen; omega) ?_ ?_ () trivial (by omega))
  · intro i _ hi hlt hw _ again ih
    simp only [s33_l0, hlt, cond_true]
    by_cases hgc : p.2.2.1.getD i 0 = cask
    · rw [v33_l0_0 n hf p hp cask ts hts hl i hi hgc _ (fun m => by have := cum_le p cask ts hl i m; omega)]
      simp only [hw]
      have e : tab p.2.1.toNat (fun m => cum p cask ts i m + (ts.map (oneAt p cask m i)).sum) = tab p.2.1.toNat (cum p cask ts (i + 1)) := tab_ext fun m _ => (cum_succ p cask ts i m).symm
      rw [e]
      exact ih () trivial
    · rw [v33_skip n hf p cask ts i hi hgc]
      simp only [hw]
      have e : tab p.2.1.toNat (cum p cask ts i) = tab p.2.1.toNat (cum p cask ts (i + 1)) := tab_ext fun m _ => by
        rw [cum_succ]
        have : (oneAt p cask m i) = fun _ => 0 := by
          funext t
          unfold oneAt
          rw [if_neg fun h => hgc h.1]
        rw [this, sum_zero_map, Nat.add_zero]
      rw [e]
      exact ih () trivial
  · intro _ hlt _ again
    simp only [s33_l0, hlt, cond_false]
    have e : tab p.2.1.toNat (cum p cask ts p.2.2.1.length) = tab p.2.1.toNat (cnt p cask ts) := tab_ext fun m _ => cum_all p hp cask ts hts m
    rw [e]

end Go.Abs

set_option linter.unusedSimpArgs false
set_option linter.unusedVariables false
namespace Go.Abs
open Go

theorem foldl_ge : (r : List Int) → (a : Int) → a ≤ r.foldl imax a ∧ ∀ x ∈ r, x ≤ r.foldl imax a
  | [], a => ⟨Int.le_refl _, by simp⟩
  | y :: r, a => by
    obtain ⟨h1, h2⟩ := foldl_ge r (imax a y)
    have e : a ≤ imax a y ∧ y ≤ imax a y := by unfold imax; split <;> omega
    rw [List.foldl_cons]
    refine ⟨by omega, fun x hx => ?_⟩
    rcases List.mem_cons.1 hx with rfl | hx
    · omega
    · exact h2 x hx

theorem maxL_ge {l : List Int} : ∀ x ∈ l, x ≤ maxL l := by
  cases l with
  | nil => simp
  | cons a r =>
    intro x hx
    obtain ⟨h1, h2⟩ := foldl_ge r a
    rcases List.mem_cons.1 hx with rfl | hx
    · exact h1
    · exact h2 x hx

theorem idxF_eq {α : Type} {p : α → Bool} : (l : List α) → (i b : Nat) → (hb : b < l.length) → p l[b] = true → (∀ j (hj : j < b), p (l[j]'(by omega)) = false) → idxF p i l = ((i + b : Nat) : Int)
  | [], i, b, hb, _, _ => by simp at hb
  | x :: l, i, 0, hb, h1, h2 => by
    have : p x = true := h1
    simp only [idxF, this, cond_true, Nat.add_zero]
  | x :: l, i, b + 1, hb, h1, h2 => by
    have h0 : p x = false := h2 0 (by omega)
    have ih := idxF_eq (p := p) l (i + 1) b (by simpa using hb) (by simpa using h1) (fun j hj => by have := h2 (j + 1) (by omega); simpa using this)
    simp only [idxF, h0, cond_false, ih]
    omega

/-- The best of the first i, so far; and whether there is another as good. -/
structure BestOf (l : List Int) (i b : Nat) (tw : Bool) : Prop where
  bi : b < i
  il : i ≤ l.length
  top : ∀ j, j < i → l.getD j 0 ≤ l.getD b 0
  first : ∀ j, j < b → l.getD j 0 < l.getD b 0
  twice : tw = true ↔ ∃ j, b < j ∧ j < i ∧ l.getD j 0 = l.getD b 0

theorem BestOf.step {l : List Int} {i b : Nat} {tw : Bool} (h : BestOf l i b tw) (hi : i < l.length) :
    (l.getD i 0 > l.getD b 0 → BestOf l (i + 1) i false) ∧ (l.getD i 0 = l.getD b 0 → BestOf l (i + 1) b true) ∧ (l.getD i 0 < l.getD b 0 → BestOf l (i + 1) b tw) := by
  obtain ⟨h1, h2, h3, h4, h5⟩ := h
  refine ⟨fun hg => ⟨by omega, hi, fun j hj => ?_, fun j hj => ?_, by simp; omega⟩, fun he => ⟨by omega, hi, fun j hj => ?_, h4, by simp only [true_iff]; exact ⟨i, h1, by omega, he⟩⟩, fun hl => ⟨by omega, hi, fun j hj => ?_, h4, ?_⟩⟩
  · by_cases hji : j = i
    · subst hji; omega
    · have := h3 j (by omega); omega
  · have := h3 j hj; omega
  · by_cases hji : j = i
    · subst hji; omega
    · exact h3 j (by omega)
  · by_cases hji : j = i
    · subst hji; omega
    · exact h3 j (by omega)
  · rw [h5]
    constructor
    · rintro ⟨j, a1, a2, a3⟩
      exact ⟨j, a1, by omega, a3⟩
    · rintro ⟨j, a1, a2, a3⟩
      by_cases hji : j = i
      · subst hji; omega
      · exact ⟨j, a1, by omega, a3⟩

theorem BestOf.mark {l : List Int} {b : Nat} {tw : Bool} (h : BestOf l l.length b tw) : markOf l = bif tw || (l.getD b 0 == 0) then -1 else (b : Int) := by
  obtain ⟨h1, _, h3, h4, h5⟩ := h
  have gd : ∀ j (hj : j < l.length), l.getD j 0 = l[j] := fun j hj => by rw [List.getD_eq_getElem?_getD, List.getElem?_eq_getElem hj]; rfl
  have hm : maxL l = l[b] := by
    have a1 := maxL_ge l[b] (List.getElem_mem h1)
    obtain ⟨j, hj, hje⟩ := List.getElem_of_mem (maxL_mem (l := l) (by omega))
    have := h3 j hj
    rw [gd j hj, gd b h1, hje] at this
    omega
  have hi : idxF (fun x => maxL l == x) 0 l = ((b : Nat) : Int) := by
    have := idxF_eq (p := fun x => maxL l == x) l 0 b h1 (by simp [hm]) (fun j hj => by
      have := h4 j hj
      rw [gd j (by omega), gd b h1] at this
      rw [hm]
      simp
      omega)
    rw [Nat.zero_add] at this
    exact this
  have hany : ((l.drop (((b : Nat) : Int) + 1).toNat).any fun x => maxL l == x) = tw := by
    have e : (((b : Nat) : Int) + 1).toNat = b + 1 := by omega
    rw [e, Bool.eq_iff_iff, h5, List.any_eq_true]
    constructor
    · rintro ⟨x, hx, hx2⟩
      obtain ⟨j, hj, hje⟩ := List.getElem_of_mem hx
      rw [List.length_drop] at hj
      rw [List.getElem_drop] at hje
      refine ⟨b + 1 + j, by omega, by omega, ?_⟩
      rw [gd _ (by omega), gd b h1, hje, ← hm]
      exact (by simpa using hx2 : maxL l = x).symm
    · rintro ⟨j, a1, a2, a3⟩
      rw [gd j a2, gd b h1] at a3
      refine ⟨l[j], ?_, by rw [hm, a3]; simp⟩
      rw [List.mem_iff_getElem]
      refine ⟨j - (b + 1), by rw [List.length_drop]; omega, ?_⟩
      rw [List.getElem_drop]
      congr 1
      omega
  unfold markOf
  rw [hi, hany, hm, gd b h1]
  cases tw <;> cases h0 : (l[b] == 0) <;> rfl

theorem v34 (n : Nat) (hf : Fuel n) (p : Pan) (hp : GoodP p) (cask : Int) (ts : List Int) (hts : okTs p ts) (hl : ts.length ≤ 1000) : s34 n p cask ts = some (markOf (tab p.2.1.toNat (cnt p cask ts))) := by
  have hlo := hf.lo
  have hM := hp.marks
  unfold s34
  rw [show ((p.1, (p.2.1, (p.2.2.1, p.2.2.2))) : Pan) = p from rfl, v33 n hf p hp cask ts hts hl, Option.bind_some]
  have hlen := tab_len p.2.1.toNat (cnt p cask ts)
  generalize tab p.2.1.toNat (cnt p cask ts) = l at *
  have gd : ∀ j (hj : j < l.length), geti l (j : Int) = some (l.getD j 0) := fun j hj => by rw [geti_nat, List.getElem?_eq_getElem hj, List.getD_eq_getElem?_getD, List.getElem?_eq_getElem hj]; rfl
  have h0 : BestOf l (1 + 0) 0 false := ⟨by omega, by omega, fun j hj => by
    have : j = 0 := by omega
    subst this
    exact Int.le_refl _, fun j hj => by omega, by simp; omega⟩
  refine (count_loop (A := Nat × Bool) (l.length - 1) (fun j a => (l, (a.1 : Int), a.2, ((1 + j : Nat) : Int), ())) (fun j a => some (markOf l)) (fun j a => BestOf l (1 + j) a.1 a.2) (by unfold maxLen; omega) ?_ ?_ (0, false) h0 (by omega))
  · rintro j ⟨b, tw⟩ hj _ _ hinv again ih
    have hinv : BestOf l (1 + j) b tw := hinv
    have hji : 1 + j < l.length := by omega
    have hlt : decide (((1 + j : Nat) : Int) < ((List.length l : Nat) : Int)) = true := by rw [decide_eq_true_eq]; omega
    have hw : IntKind.wrap .i64 (((1 + j : Nat) : Int) + 1) = ((1 + (j + 1) : Nat) : Int) := by rw [wrap_id] <;> omega
    obtain ⟨q1, q2, q3⟩ := hinv.step hji
    simp only [s34_l0, hlt, cond_true, gd _ hji, gd b (by have := hinv.bi; omega), Option.bind_some, hw]
    cases c1 : (l.getD (1 + j) 0 == l.getD b 0)
    · have n1 : ¬ l.getD (1 + j) 0 = l.getD b 0 := by simpa using c1
      simp only [cond_false]
      cases c2 : decide (l.getD (1 + j) 0 > l.getD b 0)
      · have n2 : ¬ l.getD (1 + j) 0 > l.getD b 0 := by simpa using c2
        simp only [cond_false]
        exact ih (b, tw) (q3 (by omega))
      · simp only [cond_true]
        exact ih (1 + j, false) (q1 (by simpa using c2))
    · have n1 : l.getD (1 + j) 0 = l.getD b 0 := by simpa using c1
      have c2 : decide (l.getD (1 + j) 0 > l.getD b 0) = false := by rw [decide_eq_false_iff_not]; omega
      simp only [cond_true, c2, cond_false]
      exact ih (b, true) (q2 n1)
  · rintro ⟨b, tw⟩ _ hinv again
    have e : 1 + (l.length - 1) = l.length := by omega
    have hinv : BestOf l (1 + (l.length - 1)) b tw := hinv
    rw [e] at hinv
    have hlt : decide (((1 + (l.length - 1) : Nat) : Int) < ((List.length l : Nat) : Int)) = false := by rw [decide_eq_false_iff_not]; omega
    have hb := hinv.bi
    simp only [s34_l0, hlt, cond_false]
    rw [hinv.mark]
    cases tw
    · simp only [Bool.not_false, part_true, gd b hb, Option.bind_some, Bool.false_or]
      cases (l.getD b 0 == 0) <;> rfl
    · rfl

end Go.Abs

set_option linter.unusedSimpArgs false
set_option linter.unusedVariables false
namespace Go.Abs
open Go

theorem v57 (n : Nat) (hf : Fuel n) (p : Pan) (hp : GoodP p) (least : Int × Int) : s57 n p least = some (marked p (steadiest p least)) := by
  have hlo := hf.lo
  have hc := hp.casks
  obtain ⟨g1, g2⟩ := steadiest_ok p least hp.tasters.2
  unfold s57
  rw [show ((p.1, (p.2.1, (p.2.2.1, p.2.2.2))) : Pan) = p from rfl, show ((least.1, least.2) : Int × Int) = least from rfl, v55 n hf p hp least, Option.bind_some]
  generalize steadiest p least = ts at *
  have hC : ((p.1.toNat : Nat) : Int) = p.1 := by omega
  refine (count_loop (A := List Int) p.1.toNat (fun i acc => (ts, (i : Int), p.1, p.2.1, p.2.2.1, p.2.2.2, acc, ())) (fun i acc => some (marked p ts))
    (fun i acc => acc = (List.range i).map fun (c : Nat) => markOf (tab p.2.1.toNat (cnt p (c : Int) ts))) (by unfold maxLen; omega) ?_ ?_ [] (by simp) (by omega))
  · intro i acc hi hlt hw hinv again ih
    rw [hC] at hlt
    have hal : acc.length = i := by rw [hinv]; simp
    have hch : ∀ x : Int, chk (acc.length + ([x] : List Int).length) = some () := fun x => chk_ok (by simp; omega)
    simp only [s57_l0, hlt, cond_true, show ((p.1, (p.2.1, (p.2.2.1, p.2.2.2))) : Pan) = p from rfl, v34 n hf p hp (i : Int) ts g1 g2, Option.bind_some, hw, hch]
    exact ih _ (by rw [List.range_succ, List.map_append, hinv]; rfl)
  · intro acc hlt hinv again
    rw [hC] at hlt
    have hE : decide (((p.1.toNat : Nat) : Int) < p.1) = false := by rw [hC]; exact hlt
    simp only [s57_l0, hE, cond_false]
    rw [hinv]
    rfl

theorem v56_bad (n : Nat) (hf : Fuel n) (p : Pan) (hp : fitP n p) (least : Int × Int) (e : Int) (hs : s109 n least = some e) (he : (oneErr p e == 0) = false) : s56 n p least = some ([], oneErr p e) := by
  have hlo := hf.lo
  unfold s56
  simp only [show ((p.1, (p.2.1, (p.2.2.1, p.2.2.2))) : Pan) = p from rfl, v89 n p hf hp, Option.bind_some, show ((least.1, least.2) : Int × Int) = least from rfl, hs, v80 n [_, _] (by simp [maxLen]) (by simp; omega), bne]
  rw [show firstErr [(panErr p).2, e] = oneErr p e from rfl, he]
  rfl

theorem v59 (n : Nat) (hf : Fuel n) (l : List Int) (x : Int) (h : Lt n l) : s59 n l x = some (l.any fun y => y == x) := by
  unfold s59
  refine list_loop0 l (fun i => (l, x, (i : Int), ())) (fun _ r => some (r.any fun y => y == x)) (hf.le h) ?_ ?_ h
  · intro i y r hi hx hd hg hlt hw again ih
    simp only [s59_l0, hlt, cond_true, hg, Option.bind_some, hw, List.any_cons]
    cases h : (y == x)
    · simp only [cond_false, Bool.false_or]
      exact ih
    · rfl
  · intro hlt again
    simp only [s59_l0, hlt, cond_false, List.any_nil]

theorem v10_l0 (n : Nat) (hf : Fuel n) (a b : List Int) (ha : Lt n a) (hb : Lt n b) (hsub : ∀ x ∈ b, x ∈ a) (k0 : Unit → Option Bool) (k1 : Bool × Unit → Option Bool) :
    loopG (s10_l0 n) n (a, b, (0 : Int), ()) (k0, k1, ()) = k0 () := by
  refine list_loop0 b (fun i => (a, b, (i : Int), ())) (fun _ _ => k0 ()) (hf.le hb) ?_ ?_ hb
  · intro i x r hi hx hd hg hlt hw again ih
    have hin : (a.any fun y => y == x) = true := List.any_eq_true.2 ⟨x, hsub x (List.mem_of_getElem? hx), by simp⟩
    simp only [s10_l0, hlt, cond_true, hg, Option.bind_some, hw, v59 n hf a x ha, hin, Bool.not_true, cond_false]
    exact ih
  · intro hlt again
    simp only [s10_l0, hlt, cond_false]

theorem share_good (n : Nat) (f : Int × Int) (h : s54 n f = some 0) : 1 ≤ f.2 ∧ f.2 ≤ 1000000000 ∧ 0 ≤ f.1 ∧ f.1 ≤ f.2 := by
  unfold s54 s111 at h
  by_cases h1 : f.2 > 0
  · have a2 : decide (f.2 > (0 : Int)) = true := by simpa using h1
    rw [a2] at h
    simp only [part_true, show ((f.1, f.2) : Int × Int) = f from rfl] at h
    cases hg : s133 n f.1 f.2 with
    | none => rw [hg] at h; cases h
    | some g =>
      rw [hg] at h
      simp only [Option.bind_some, Bool.true_and] at h
      cases h2 : (g == 1)
      · rw [h2] at h; cases h
      · rw [h2] at h
        simp only [Bool.not_true, cond_false] at h
        cases h3 : (decide (f.1 < (0 : Int)) || decide (f.1 > f.2) || decide (f.2 > (1000000000 : Int)))
        · simp only [Bool.or_eq_false_iff, decide_eq_false_iff_not] at h3
          omega
        · rw [h3] at h; cases h
  · have a2 : decide (f.2 > (0 : Int)) = false := by simpa using h1
    rw [a2] at h
    cases h

theorem steadyJ_le (h : Int × Int → Int × Int → Nat) (h1 : ∀ z w, h z w ≤ 1) : (l : ZZ) → steadyJ h l ≤ l.length * l.length
  | [] => by simp [steadyJ]
  | w :: r => by
    have e1 := sumN_le (fun z => h z w) (fun z => h1 z w) r
    have e2 := steadyJ_le h h1 r
    simp only [steadyJ, List.length_cons]
    have : (r.length + 1) * (r.length + 1) = r.length * r.length + 2 * r.length + 1 := by rw [Nat.add_mul, Nat.mul_add]; omega
    omega

theorem steady_le {p : Pan} (hp : GoodP p) (t : Int) : (steady p t).1 ≤ 1000000 ∧ (steady p t).2 ≤ 1000000 := by
  have hl : (p.2.2.1.zip (tst p t)).length ≤ 1000 := by have := hp.glasses; simp; omega
  have hm := Nat.mul_le_mul hl hl
  unfold steady
  rw [steadyI_nil, steadyI_nil]
  have a := steadyJ_le same1 same1_le (p.2.2.1.zip (tst p t))
  have b := steadyJ_le glass1 glass1_le (p.2.2.1.zip (tst p t))
  dsimp only
  omega

theorem mul_small {a b A B : Int} (ha : 0 ≤ a ∧ a ≤ A) (hb : 0 ≤ b ∧ b ≤ B) : 0 ≤ a * b ∧ a * b ≤ A * B := by
  refine ⟨Int.mul_nonneg ha.1 hb.1, ?_⟩
  exact Int.mul_le_mul ha.2 hb.2 hb.1 (by omega)

theorem steadiest_sub {p : Pan} (hp : GoodP p) {least more : Int × Int} (hl : 1 ≤ least.2 ∧ least.2 ≤ 1000000000 ∧ 0 ≤ least.1 ∧ least.1 ≤ least.2) (hm : 1 ≤ more.2 ∧ more.2 ≤ 1000000000 ∧ 0 ≤ more.1 ∧ more.1 ≤ more.2)
    (hle : least.1 * more.2 ≤ more.1 * least.2) : ∀ x ∈ steadiest p more, x ∈ steadiest p least := by
  intro x hx
  unfold steadiest at hx ⊢
  obtain ⟨k, hk, rfl⟩ := List.mem_map.1 hx
  obtain ⟨h1, h2⟩ := List.mem_filter.1 hk
  refine List.mem_map.2 ⟨k, List.mem_filter.2 ⟨h1, ?_⟩, rfl⟩
  obtain ⟨s1, s2⟩ := steady_le hp (k : Int)
  unfold isSteady at h2 ⊢
  have hS : 0 ≤ ((steady p (k : Int)).1 : Int) ∧ ((steady p (k : Int)).1 : Int) ≤ 1000000 := by omega
  have hG : 0 ≤ ((steady p (k : Int)).2 : Int) ∧ ((steady p (k : Int)).2 : Int) ≤ 1000000 := by omega
  generalize ((steady p (k : Int)).1 : Int) = S at *
  generalize ((steady p (k : Int)).2 : Int) = G at *
  have b1 := mul_small hS (show 0 ≤ more.2 ∧ more.2 ≤ 1000000000 by omega)
  have b2 := mul_small (show 0 ≤ more.1 ∧ more.1 ≤ 1000000000 by omega) hG
  have b3 := mul_small hS (show 0 ≤ least.2 ∧ least.2 ≤ 1000000000 by omega)
  have b4 := mul_small (show 0 ≤ least.1 ∧ least.1 ≤ 1000000000 by omega) hG
  rw [wrap_id (by omega) (by omega), wrap_id (by omega) (by omega), decide_eq_true_eq] at h2
  rw [wrap_id (by omega) (by omega), wrap_id (by omega) (by omega), decide_eq_true_eq]
  have c1 : (least.1 * more.2) * G ≤ (more.1 * least.2) * G := Int.mul_le_mul_of_nonneg_right hle hG.1
  have c2 : (more.1 * G) * least.2 ≤ (S * more.2) * least.2 := Int.mul_le_mul_of_nonneg_right h2 (by omega)
  have d1 : (least.1 * more.2) * G = (least.1 * G) * more.2 := by rw [Int.mul_assoc, Int.mul_comm more.2 G, ← Int.mul_assoc]
  have d2 : (more.1 * least.2) * G = (more.1 * G) * least.2 := by rw [Int.mul_assoc, Int.mul_comm least.2 G, ← Int.mul_assoc]
  have d3 : (S * more.2) * least.2 = (S * least.2) * more.2 := by rw [Int.mul_assoc, Int.mul_comm more.2 least.2, ← Int.mul_assoc]
  have : (least.1 * G) * more.2 ≤ (S * least.2) * more.2 := by rw [← d1, ← d3]; exact Int.le_trans c1 (by rw [d2]; exact c2)
  exact Int.le_of_mul_le_mul_right this (by omega)

theorem taste_marked (p : Pan) (least more : Int × Int) (hle : least.2.natAbs < 2 ^ 64) (hmo : more.2.natAbs < 2 ^ 64) : ∃ n, s10 n p least more = some true := by
  refine ⟨0 + 2000, ?_⟩
  generalize hm : (0 : Nat) = m
  have hm0 : m = 0 := hm.symm
  clear hm
  have hf : Fuel (m + 2000) := ⟨by omega, by omega⟩
  have ht := awake_ok m
  generalize hn : m + 2000 = n at *
  obtain ⟨e, hs, hs'⟩ := share_same n hf least hle
  obtain ⟨e2, hs2, hs2'⟩ := share_same n hf more hmo
  unfold s10
  simp only [ht, Option.bind_some, Bool.not_true, cond_false, show ((p.1, (p.2.1, (p.2.2.1, p.2.2.2))) : Pan) = p from rfl, v24 n p hf]
  cases c1 : fewP p
  · rfl
  · obtain ⟨hp, l1, l2⟩ := fewP_fit c1 hf
    have hq : fitQ n p := ⟨hp.1, hp.2.1⟩
    simp only [Bool.not_true, cond_false, v26 n p hf hp, Option.bind_some, show ((p.1, p.2.1, p.2.2.1, p.2.2.2) : Pan) = p from rfl, show ((least.1, least.2) : Int × Int) = least from rfl, show ((more.1, more.2) : Int × Int) = more from rfl, v29 n p hf hq, hs', hs2', bne]
    have hE : ∀ x, oneErr p x = bif (panErr p).2 == 0 then (bif x == 0 then 0 else x) else (panErr p).2 := fun x => rfl
    cases c3 : ((panErr p).2 == 0)
    · have h1 : ∀ x, oneErr p x = (panErr p).2 := fun x => by rw [hE, c3]; rfl
      rw [v56_bad n hf p hp least e hs (by rw [h1]; exact c3), h1]
      simp [c3]
    · have hpe : (panErr p).2 = 0 := by simpa using c3
      have hg := panErr_good hpe
      cases c4 : (e == 0)
      · have h1 : oneErr p e = e := by rw [hE, c3, c4]; rfl
        rw [v56_bad n hf p hp least e hs (by rw [h1]; exact c4), h1]
        simp [c4]
      · have e0 : e = 0 := by simpa using c4
        subst e0
        have hml : (marked p (steadiest p least)).length = p.1.toNat := by simp [marked]
        have hck := hg.casks
        simp only [cond_true, Bool.not_true, cond_false, v56_ok n hf p hp hpe least hs, Option.bind_some, beq_self_eq_true, Bool.not_false, part_true, v57 n hf p hg least, v32 n (marked p (steadiest p least)) _ hf (by unfold Lt; have := hf.lo; omega), Bool.or_self]
        cases c5 : (e2 == 0)
        · simp [part_no]
        · have e20 : e2 = 0 := by simpa using c5
          subst e20
          have g1 := share_good n least hs'
          have g2 := share_good n more hs2'
          have w1 := mul_small (show 0 ≤ more.1 ∧ more.1 ≤ 1000000000 by omega) (show 0 ≤ least.2 ∧ least.2 ≤ 1000000000 by omega)
          have w2 := mul_small (show 0 ≤ least.1 ∧ least.1 ≤ 1000000000 by omega) (show 0 ≤ more.2 ∧ more.2 ≤ 1000000000 by omega)
          have hs58 : s58 n more least = some (bif decide (more.1 * least.2 < least.1 * more.2) then -1 else bif decide (more.1 * least.2 > least.1 * more.2) then 1 else 0) := by
            unfold s58
            rw [wrap_id (by omega) (by omega), wrap_id (by omega) (by omega)]
            cases decide (more.1 * least.2 < least.1 * more.2) <;> cases decide (more.1 * least.2 > least.1 * more.2) <;> rfl
          simp only [Bool.not_true, Bool.not_false, part_true, hs58, Option.bind_some, Bool.false_or]
          cases c6 : decide (more.1 * least.2 < least.1 * more.2)
          · have hle2 : least.1 * more.2 ≤ more.1 * least.2 := by
              have := of_decide_eq_false c6
              omega
            have hsub := steadiest_sub hg g1 g2 hle2
            have q1 := (steadiest_ok p least hg.tasters.2).2
            have q2 := (steadiest_ok p more hg.tasters.2).2
            have hlo := hf.lo
            have fin : ∀ x : Int, decide (x < 0) = false → (bif decide (x < 0) then some true else (s51 n p least).bind fun x_11 => (s51 n p more).bind fun x_13 =>
                bif (!(x_11.2 == 0) || !(x_13.2 == 0)) then some false else loopG (s10_l0 n) n (x_11.1, x_13.1, (0 : Int), ()) (fun (_) => some true, fun (t6, _) => some t6, ())) = some true := by
              intro x hx
              rw [hx, v51_ok n hf p hp hg least hs hpe, v51_ok n hf p hp hg more hs2 hpe]
              simp only [cond_false, Option.bind_some, beq_self_eq_true, Bool.not_true, Bool.or_self]
              exact v10_l0 n hf _ _ (by unfold Lt; omega) (by unfold Lt; omega) hsub _ _
            simp only [cond_false]
            cases c7 : decide (more.1 * least.2 > least.1 * more.2)
            · exact fin 0 rfl
            · exact fin 1 rfl
          · rfl

end Go.Abs

set_option linter.unusedSimpArgs false
set_option linter.unusedVariables false
set_option linter.unusedSectionVars false
namespace Go.Abs
open Go

section
variable {S : Type} [DecidableEq S]

/-- The number of a word: words ordered by length, then by their marks, are ordered as their numbers. -/
def codeW (M : Nat) (w : List Int) : Nat := w.foldl (fun c m => c * M + m.toNat + 1) 0
theorem codeW_snoc (M : Nat) (w : List Int) (m : Nat) : codeW M (w ++ [(m : Int)]) = codeW M w * M + m + 1 := by
  simp [codeW, List.foldl_append]

def runW (nx : S → Nat → S) (s : S) (w : List Int) : S := w.foldl (fun s m => nx s m.toNat) s
theorem runW_snoc (nx : S → Nat → S) (s : S) (w : List Int) (m : Nat) : runW nx s (w ++ [(m : Int)]) = nx (runW nx s w) m := by
  simp [runW, List.foldl_append]

def addE (nx : S → Nat → S) (s : S) (v : List Int) (D : List (S × List Int)) (m : Nat) : List (S × List Int) :=
  if nx s m ∈ D.map Prod.fst then D else D ++ [(nx s m, v ++ [(m : Int)])]

def expandE (nx : S → Nat → S) (s : S) (v : List Int) (D : List (S × List Int)) : Nat → List (S × List Int)
  | 0 => D
  | m + 1 => addE nx s v (expandE nx s v D m) m

def bfsD (nx : S → Nat → S) (M : Nat) : Nat → Nat → List (S × List Int) → List (S × List Int)
  | 0, _, D => D
  | k + 1, i, D => match D[i]? with
    | some e => bfsD nx M k (i + 1) (expandE nx e.1 e.2 D M)
    | none => D

theorem addE_prefix (nx : S → Nat → S) (s : S) (v : List Int) (D : List (S × List Int)) (m : Nat) : ∃ r, addE nx s v D m = D ++ r := by
  unfold addE
  split
  · exact ⟨[], by simp⟩
  · exact ⟨_, rfl⟩
theorem expandE_prefix (nx : S → Nat → S) (s : S) (v : List Int) (D : List (S × List Int)) : ∀ m, ∃ r, expandE nx s v D m = D ++ r
  | 0 => ⟨[], by simp [expandE]⟩
  | m + 1 => by
    obtain ⟨r, h⟩ := expandE_prefix nx s v D m
    obtain ⟨r', h'⟩ := addE_prefix nx s v (expandE nx s v D m) m
    exact ⟨r ++ r', by rw [expandE, h', h, List.append_assoc]⟩
theorem bfsD_prefix (nx : S → Nat → S) (M : Nat) : ∀ (k i : Nat) (D : List (S × List Int)), ∃ r, bfsD nx M k i D = D ++ r
  | 0, _, D => ⟨[], by simp [bfsD]⟩
  | k + 1, i, D => by
    unfold bfsD
    split
    · rename_i e h
      obtain ⟨r, h1⟩ := bfsD_prefix nx M k (i + 1) (expandE nx e.1 e.2 D M)
      obtain ⟨r', h2⟩ := expandE_prefix nx e.1 e.2 D M
      exact ⟨r' ++ r, by rw [h1, h2, List.append_assoc]⟩
    · exact ⟨[], by simp⟩

structure BInv (nx : S → Nat → S) (M : Nat) (Good : S → Prop) (b0 : S) (D : List (S × List Int)) : Prop where
  nodup : (D.map Prod.fst).Nodup
  good : ∀ e ∈ D, Good e.1
  path : ∀ e ∈ D, runW nx b0 e.2 = e.1
  rng : ∀ e ∈ D, ∀ x ∈ e.2, 0 ≤ x ∧ x < (M : Int)
  sorted : D.Pairwise (fun a b => codeW M a.2 < codeW M b.2)
  len : ∀ (i : Nat) (e : S × List Int), D[i]? = some e → e.2.length ≤ i
  first : D[0]? = some (b0, [])

/-- Where the search stands: entry i has been carried as far as mark m. -/
structure BAt (nx : S → Nat → S) (M : Nat) (D : List (S × List Int)) (i m : Nat) : Prop where
  low : ∀ e : S × List Int, D[i]? = some e → ∀ u ∈ D, codeW M u.2 < codeW M e.2 * M + m + 1
  cov : ∀ j m' : Nat, (j < i ∨ j = i ∧ m' < m) → m' < M → ∀ e : S × List Int, D[j]? = some e → ∃ u ∈ D, u.1 = nx e.1 m' ∧ codeW M u.2 ≤ codeW M e.2 * M + m' + 1

theorem B_add {nx : S → Nat → S} {M : Nat} {Good : S → Prop} {b0 : S} {D : List (S × List Int)} {i m : Nat} {e : S × List Int}
    (hG : ∀ s, Good s → ∀ m, m < M → Good (nx s m)) (h : BInv nx M Good b0 D) (ha : BAt nx M D i m) (he : D[i]? = some e) (hm : m < M) :
    BInv nx M Good b0 (addE nx e.1 e.2 D m) ∧ BAt nx M (addE nx e.1 e.2 D m) i (m + 1) := by
  have hi : i < D.length := by
    rcases Nat.lt_or_ge i D.length with h1 | h1
    · exact h1
    · rw [List.getElem?_eq_none h1] at he; cases he
  have hmem : e ∈ D := List.mem_of_getElem? he
  have hlow := ha.low e he
  unfold addE
  by_cases hin : nx e.1 m ∈ D.map Prod.fst
  · rw [if_pos hin]
    refine ⟨h, ⟨fun e' he' u hu => ?_, fun j m' hj hm' e' he' => ?_⟩⟩
    · have := ha.low e' he' u hu; omega
    · rcases hj with hj | ⟨rfl, hj⟩
      · exact ha.cov j m' (.inl hj) hm' e' he'
      · by_cases hmm : m' < m
        · exact ha.cov j m' (.inr ⟨rfl, hmm⟩) hm' e' he'
        · have hmm' : m' = m := by omega
          subst hmm'
          have : e' = e := by rw [he] at he'; exact (Option.some.inj he').symm
          subst this
          obtain ⟨u, hu, hue⟩ := List.mem_map.1 hin
          exact ⟨u, hu, hue, by have := hlow u hu; omega⟩
  · rw [if_neg hin]
    have hget : ∀ (j : Nat) (e' : S × List Int), (D ++ [(nx e.1 m, e.2 ++ [(m : Int)])])[j]? = some e' → (D[j]? = some e') ∨ (j = D.length ∧ e' = (nx e.1 m, e.2 ++ [(m : Int)])) := by
      intro j e' hj
      rcases Nat.lt_or_ge j D.length with h1 | h1
      · rw [List.getElem?_append_left h1] at hj; exact .inl hj
      · rw [List.getElem?_append_right h1] at hj
        rcases Nat.lt_or_ge 0 (j - D.length) with h2 | h2
        · rw [List.getElem?_eq_none (by simp; omega)] at hj; cases hj
        · have : j - D.length = 0 := by omega
          rw [this] at hj
          exact .inr ⟨by omega, (Option.some.inj hj).symm⟩
    refine ⟨⟨?_, ?_, ?_, ?_, ?_, ?_, ?_⟩, ⟨?_, ?_⟩⟩
    · rw [List.map_append, List.nodup_append]
      refine ⟨h.nodup, by simp, fun x hx y hy => ?_⟩
      have : y = nx e.1 m := by simpa using hy
      subst this
      exact fun heq => hin (heq ▸ hx)
    · intro u hu
      rcases List.mem_append.1 hu with hu | hu
      · exact h.good u hu
      · have : u = (nx e.1 m, e.2 ++ [(m : Int)]) := by simpa using hu
        subst this
        exact hG _ (h.good e hmem) m hm
    · intro u hu
      rcases List.mem_append.1 hu with hu | hu
      · exact h.path u hu
      · have : u = (nx e.1 m, e.2 ++ [(m : Int)]) := by simpa using hu
        subst this
        show runW nx b0 (e.2 ++ [(m : Int)]) = nx e.1 m
        rw [runW_snoc, h.path e hmem]
    · intro u hu
      rcases List.mem_append.1 hu with hu | hu
      · exact h.rng u hu
      · have : u = (nx e.1 m, e.2 ++ [(m : Int)]) := by simpa using hu
        subst this
        intro x hx
        rcases List.mem_append.1 hx with hx | hx
        · exact h.rng e hmem x hx
        · have : x = (m : Int) := by simpa using hx
          omega
    · rw [List.pairwise_append]
      refine ⟨h.sorted, by simp, fun u hu w hw => ?_⟩
      have : w = (nx e.1 m, e.2 ++ [(m : Int)]) := by simpa using hw
      subst this
      show codeW M u.2 < codeW M (e.2 ++ [(m : Int)])
      rw [codeW_snoc]
      exact hlow u hu
    · intro j e' hj
      rcases hget j e' hj with h1 | ⟨h1, h2⟩
      · exact h.len j e' h1
      · subst h2
        have := h.len i e he
        simp only [List.length_append, List.length_cons, List.length_nil]
        omega
    · rw [List.getElem?_append_left (by omega)]
      exact h.first
    · intro e' he' u hu
      have hee : e' = e := by
        rw [List.getElem?_append_left hi, he] at he'
        exact (Option.some.inj he').symm
      subst hee
      rcases List.mem_append.1 hu with hu | hu
      · have := hlow u hu; omega
      · have : u = (nx e'.1 m, e'.2 ++ [(m : Int)]) := by simpa using hu
        subst this
        show codeW M (e'.2 ++ [(m : Int)]) < _
        rw [codeW_snoc]
        omega
    · intro j m' hj hm' e' he'
      have hj2 : j < D.length := by rcases hj with hj | hj <;> omega
      rw [List.getElem?_append_left hj2] at he'
      rcases hj with hj | ⟨rfl, hj⟩
      · obtain ⟨u, hu, h1, h2⟩ := ha.cov j m' (.inl hj) hm' e' he'
        exact ⟨u, List.mem_append_left _ hu, h1, h2⟩
      · by_cases hmm : m' < m
        · obtain ⟨u, hu, h1, h2⟩ := ha.cov j m' (.inr ⟨rfl, hmm⟩) hm' e' he'
          exact ⟨u, List.mem_append_left _ hu, h1, h2⟩
        · have hmm' : m' = m := by omega
          subst hmm'
          have : e' = e := by rw [he] at he'; exact (Option.some.inj he').symm
          subst this
          exact ⟨(nx e'.1 m', e'.2 ++ [(m' : Int)]), List.mem_append_right _ (by simp), rfl, by rw [codeW_snoc]; omega⟩

theorem expandE_get {nx : S → Nat → S} {s : S} {v : List Int} {D : List (S × List Int)} {i : Nat} {e : S × List Int} (he : D[i]? = some e) (m : Nat) : (expandE nx s v D m)[i]? = some e := by
  obtain ⟨r, h⟩ := expandE_prefix nx s v D m
  have hi : i < D.length := by
    rcases Nat.lt_or_ge i D.length with h1 | h1
    · exact h1
    · rw [List.getElem?_eq_none h1] at he; cases he
  rw [h, List.getElem?_append_left hi, he]

theorem B_expand {nx : S → Nat → S} {M : Nat} {Good : S → Prop} {b0 : S} {D : List (S × List Int)} {i : Nat} {e : S × List Int}
    (hG : ∀ s, Good s → ∀ m, m < M → Good (nx s m)) (h : BInv nx M Good b0 D) (ha : BAt nx M D i 0) (he : D[i]? = some e) :
    ∀ m, m ≤ M → BInv nx M Good b0 (expandE nx e.1 e.2 D m) ∧ BAt nx M (expandE nx e.1 e.2 D m) i m
  | 0, _ => ⟨h, ha⟩
  | m + 1, hm => by
    obtain ⟨h1, h2⟩ := B_expand hG h ha he m (by omega)
    exact B_add hG h1 h2 (expandE_get he m) (by omega)

theorem B_next {nx : S → Nat → S} {M : Nat} {Good : S → Prop} {b0 : S} {D : List (S × List Int)} {i : Nat} {e : S × List Int}
    (h : BInv nx M Good b0 D) (ha : BAt nx M D i M) (he : D[i]? = some e) : BAt nx M D (i + 1) 0 := by
  refine ⟨fun e' he' u hu => ?_, fun j m' hj hm' e' he' => ?_⟩
  · have h1 := ha.low e he u hu
    have hs : codeW M e.2 < codeW M e'.2 := by
      have hl : i < D.length := by
        rcases Nat.lt_or_ge i D.length with h1 | h1
        · exact h1
        · rw [List.getElem?_eq_none h1] at he; cases he
      have hl' : i + 1 < D.length := by
        rcases Nat.lt_or_ge (i + 1) D.length with h1 | h1
        · exact h1
        · rw [List.getElem?_eq_none h1] at he'; cases he'
      have := List.pairwise_iff_getElem.1 h.sorted i (i + 1) hl hl' (by omega)
      rw [List.getElem?_eq_getElem hl] at he
      rw [List.getElem?_eq_getElem hl'] at he'
      cases he; cases he'
      exact this
    have : (codeW M e.2 + 1) * M ≤ codeW M e'.2 * M := Nat.mul_le_mul_right _ hs
    rw [Nat.succ_mul] at this
    omega
  · refine ha.cov j m' ?_ hm' e' he'
    rcases hj with hj | ⟨_, hj⟩
    · rcases Nat.lt_or_ge j i with h1 | h1
      · exact .inl h1
      · exact .inr ⟨by omega, hm'⟩
    · omega

theorem B_run {nx : S → Nat → S} {M N : Nat} {Good : S → Prop} {b0 : S} (hG : ∀ s, Good s → ∀ m, m < M → Good (nx s m)) (hN : ∀ l : List S, l.Nodup → (∀ x ∈ l, Good x) → l.length ≤ N) :
    ∀ (k i : Nat) (D : List (S × List Int)), i + k = N → BInv nx M Good b0 D → BAt nx M D i 0 →
      BInv nx M Good b0 (bfsD nx M k i D) ∧ ∀ j m' : Nat, m' < M → ∀ e : S × List Int, (bfsD nx M k i D)[j]? = some e → ∃ u ∈ bfsD nx M k i D, u.1 = nx e.1 m' ∧ codeW M u.2 ≤ codeW M e.2 * M + m' + 1
  | 0, i, D, hk, h, ha => by
    refine ⟨h, fun j m' hm' e he => ha.cov j m' (.inl ?_) hm' e he⟩
    have hl := hN _ h.nodup (fun x hx => by
      obtain ⟨e, he, rfl⟩ := List.mem_map.1 hx
      exact h.good e he)
    rw [List.length_map] at hl
    simp only [bfsD] at he
    rcases Nat.lt_or_ge j D.length with h1 | h1
    · omega
    · rw [List.getElem?_eq_none h1] at he; cases he
  | k + 1, i, D, hk, h, ha => by
    unfold bfsD
    split
    · rename_i e he
      obtain ⟨h1, h2⟩ := B_expand hG h ha he M (Nat.le_refl _)
      exact B_run hG hN k (i + 1) _ (by omega) h1 (B_next h1 h2 (expandE_get he M))
    · rename_i he
      refine ⟨h, fun j m' hm' e he' => ha.cov j m' (.inl ?_) hm' e he'⟩
      rcases Nat.lt_or_ge j i with h1 | h1
      · exact h1
      · have : i ≥ D.length := by
          rcases Nat.lt_or_ge i D.length with h2 | h2
          · rw [List.getElem?_eq_getElem h2] at he; cases he
          · exact h2
        rw [List.getElem?_eq_none (by omega)] at he'; cases he'

def bfs (nx : S → Nat → S) (M N : Nat) (b0 : S) : List (S × List Int) := bfsD nx M N 0 [(b0, [])]

/-- What is found: each node that is reached, once, by the first word that leads there; words in their order. -/
structure Found (nx : S → Nat → S) (M : Nat) (Good : S → Prop) (b0 : S) (D : List (S × List Int)) : Prop where
  inv : BInv nx M Good b0 D
  least : ∀ w : List Int, (∀ x ∈ w, 0 ≤ x ∧ x < (M : Int)) → ∃ u ∈ D, u.1 = runW nx b0 w ∧ codeW M u.2 ≤ codeW M w

theorem snoc_rec {α : Type} {P : List α → Prop} (h0 : P []) (h1 : ∀ l a, P l → P (l ++ [a])) : ∀ l, P l := by
  intro l
  have : ∀ r : List α, P r.reverse := by
    intro r
    induction r with
    | nil => exact h0
    | cons a r ih => rw [List.reverse_cons]; exact h1 _ _ ih
  have := this l.reverse
  rwa [List.reverse_reverse] at this

theorem bfs_found {nx : S → Nat → S} {M N : Nat} {Good : S → Prop} {b0 : S} (h0 : Good b0) (hG : ∀ s, Good s → ∀ m, m < M → Good (nx s m)) (hN : ∀ l : List S, l.Nodup → (∀ x ∈ l, Good x) → l.length ≤ N) :
    Found nx M Good b0 (bfs nx M N b0) := by
  have hi : BInv nx M Good b0 [(b0, [])] := by
    refine ⟨by simp, by simpa using h0, by simp [runW], by simp, by simp, ?_, rfl⟩
    intro i e he
    match i, he with
    | 0, he => cases he; exact Nat.le_refl 0
  have ha : BAt nx M [(b0, ([] : List Int))] 0 0 := by
    refine ⟨?_, fun j m' hj _ _ _ => by omega⟩
    intro e he u hu
    have : u = (b0, []) := by simpa using hu
    subst this
    show codeW M [] < _
    simp [codeW]
  obtain ⟨h1, h2⟩ := B_run hG hN N 0 _ (by omega) hi ha
  refine ⟨h1, fun w => ?_⟩
  refine snoc_rec (P := fun w => (∀ x ∈ w, 0 ≤ x ∧ x < (M : Int)) → ∃ u ∈ bfs nx M N b0, u.1 = runW nx b0 w ∧ codeW M u.2 ≤ codeW M w) ?_ ?_ w
  · intro _
    exact ⟨(b0, []), List.mem_of_getElem? h1.first, rfl, Nat.le_refl _⟩
  · intro w x ih hw
    obtain ⟨u, hu, hu1, hu2⟩ := ih fun y hy => hw y (List.mem_append_left _ hy)
    have hx := hw x (List.mem_append_right _ (by simp))
    obtain ⟨m, rfl⟩ : ∃ m : Nat, x = (m : Int) := ⟨x.toNat, by omega⟩
    obtain ⟨j, hj, hje⟩ := List.getElem_of_mem hu
    obtain ⟨t, ht, ht1, ht2⟩ := h2 j m (by omega) u ((List.getElem?_eq_getElem hj).trans (congrArg some hje))
    refine ⟨t, ht, ?_, ?_⟩
    · rw [runW_snoc, ← hu1, ht1]
    · rw [codeW_snoc]
      have := Nat.mul_le_mul_right M hu2
      omega

/-! Words that come before. -/
def beforeW : List Int → List Int → Bool
  | x :: a, y :: b => bif x != y then decide (x < y) else beforeW a b
  | a, b => decide (a.length < b.length)
def comesW (a b : List Int) : Bool := decide (a.length < b.length) || (decide (a.length = b.length) && beforeW a b)

theorem fold_lt {M : Nat} : ∀ (a b : List Int) (c d : Nat), a.length = b.length → (∀ x ∈ a, 0 ≤ x ∧ x < (M : Int)) → c < d →
    a.foldl (fun c m => c * M + m.toNat + 1) c < b.foldl (fun c m => c * M + m.toNat + 1) d
  | [], [], _, _, _, _, h => h
  | [], _ :: _, _, _, hl, _, _ => by simp at hl
  | _ :: _, [], _, _, hl, _, _ => by simp at hl
  | x :: a, y :: b, c, d, hl, ha, h => by
    rw [List.foldl_cons, List.foldl_cons]
    refine fold_lt a b _ _ (by simpa using hl) (fun z hz => ha z (List.mem_cons_of_mem _ hz)) ?_
    have hx := ha x List.mem_cons_self
    have : (c + 1) * M ≤ d * M := Nat.mul_le_mul_right _ h
    rw [Nat.succ_mul] at this
    omega

theorem fold_ge {M : Nat} : ∀ (b : List Int) (d : Nat), 0 < M → d ≤ b.foldl (fun c m => c * M + m.toNat + 1) d
  | [], _, _ => Nat.le_refl _
  | y :: b, d, h => by
    rw [List.foldl_cons]
    have := fold_ge b (d * M + y.toNat + 1) h
    have : d * 1 ≤ d * M := Nat.mul_le_mul_left _ h
    omega

theorem before_code {M : Nat} : ∀ (a b : List Int) (c : Nat), a.length = b.length → (∀ x ∈ a, 0 ≤ x ∧ x < (M : Int)) → (∀ x ∈ b, 0 ≤ x ∧ x < (M : Int)) → beforeW a b = true →
    a.foldl (fun c m => c * M + m.toNat + 1) c < b.foldl (fun c m => c * M + m.toNat + 1) c
  | [], [], _, _, _, _, h => by simp [beforeW] at h
  | [], _ :: _, _, hl, _, _, _ => by simp at hl
  | _ :: _, [], _, hl, _, _, _ => by simp at hl
  | x :: a, y :: b, c, hl, ha, hb, h => by
    have hl' : a.length = b.length := by simpa using hl
    have hx := ha x List.mem_cons_self
    have hy := hb y List.mem_cons_self
    rw [List.foldl_cons, List.foldl_cons]
    unfold beforeW at h
    cases he : (x != y)
    · have : x = y := by simpa using he
      subst this
      rw [he] at h
      exact before_code a b _ hl' (fun z hz => ha z (List.mem_cons_of_mem _ hz)) (fun z hz => hb z (List.mem_cons_of_mem _ hz)) h
    · rw [he] at h
      simp only [cond_true, decide_eq_true_eq] at h
      exact fold_lt a b _ _ hl' (fun z hz => ha z (List.mem_cons_of_mem _ hz)) (by omega)

theorem comes_code {M : Nat} (a b : List Int) (ha : ∀ x ∈ a, 0 ≤ x ∧ x < (M : Int)) (hb : ∀ x ∈ b, 0 ≤ x ∧ x < (M : Int)) (h : comesW a b = true) : codeW M a < codeW M b := by
  unfold comesW at h
  simp only [Bool.or_eq_true, Bool.and_eq_true, decide_eq_true_eq] at h
  rcases h with h | ⟨h1, h2⟩
  · -- a is shorter: the first marks of b are worth at least 1
    have hbl : b = b.take (b.length - a.length) ++ b.drop (b.length - a.length) := (List.take_append_drop _ _).symm
    have hne : b ≠ [] := by intro e; subst e; simp at h
    have hM : 0 < M := by
      obtain ⟨y, hy⟩ := List.exists_mem_of_ne_nil b hne
      have := hb y hy
      omega
    unfold codeW
    rw [hbl, List.foldl_append]
    refine fold_lt a _ 0 _ (by rw [List.length_drop]; omega) ha ?_
    match hb2 : b.take (b.length - a.length) with
    | [] =>
      have := congrArg List.length hb2
      rw [List.length_take] at this
      simp at this
      omega
    | y :: r =>
      rw [List.foldl_cons]
      have := fold_ge (M := M) r (0 * M + y.toNat + 1) hM
      omega
  · exact before_code a b 0 h1 ha hb h2
end

theorem nodup_nat : ∀ (N : Nat) (l : List Nat), l.Nodup → (∀ x ∈ l, x < N) → l.length ≤ N
  | 0, l, _, hb => by
    match l, hb with
    | [], _ => simp
    | x :: r, hb => exact absurd (hb x List.mem_cons_self) (by omega)
  | N + 1, l, hl, hb => by
    have ih := nodup_nat N (l.erase N) (hl.erase N) (fun x hx => by
      have h1 := (hl.mem_erase_iff).1 hx
      have := hb x h1.2
      omega)
    by_cases h : N ∈ l
    · rw [List.length_erase_of_mem h] at ih
      omega
    · rw [List.erase_of_not_mem h] at ih
      omega

/-- Whole numbers below one, without any twice, are no more than it. -/
theorem nodup_lt (N : Nat) : ∀ l : List Int, l.Nodup → (∀ x ∈ l, 0 ≤ x ∧ x < (N : Int)) → l.length ≤ N := by
  intro l hl hb
  have h1 : (l.map Int.toNat).Nodup := by
    rw [List.Nodup, List.pairwise_map]
    refine List.Pairwise.imp_of_mem ?_ hl
    intro a b ha hb' hne heq
    have := hb a ha
    have := hb b hb'
    omega
  have := nodup_nat N _ h1 (fun x hx => by
    obtain ⟨y, hy, rfl⟩ := List.mem_map.1 hx
    have := hb y hy
    omega)
  simpa using this

end Go.Abs

set_option linter.unusedSimpArgs false
set_option linter.unusedVariables false
namespace Go.Abs
open Go

theorem mget_mput {α : Type} (l : List (Int × α)) (x y : Int) (v : α) : mget (mput l x v) y = if x = y then some v else mget l y := by
  induction l with
  | nil =>
    by_cases h : x = y
    · simp [mput, mget, h]
    · have e : (x == y) = false := by simpa using h
      rw [if_neg h]
      simp only [mput, mget, e, cond_false]
  | cons p r ih =>
    unfold mput
    cases h1 : (p.1 == x)
    · simp only [cond_false, mget]
      rw [ih]
      cases h2 : (p.1 == y)
      · simp only [cond_false]
      · have e1 : p.1 = y := by simpa using h2
        have e2 : ¬ p.1 = x := by simpa using h1
        have : ¬ x = y := fun h => e2 (h ▸ e1)
        rw [if_neg this]
        simp only [cond_true, if_neg this]
    · have e : p.1 = x := by simpa using h1
      simp only [cond_true, mget]
      by_cases h2 : x = y
      · subst h2; simp
      · have e2 : (x == y) = false := by simpa using h2
        have e3 : (p.1 == y) = false := by rw [e]; exact e2
        rw [if_neg h2, e2, e3]
        rfl

def SeenOf (seen : List (Int × Bool)) (D : List (Int × List Int)) : Prop := ∀ x, mget seen x = if x ∈ D.map Prod.fst then some true else none

theorem expandE_len {S : Type} [DecidableEq S] (nx : S → Nat → S) (s : S) (v : List Int) (D : List (S × List Int)) : ∀ m, (expandE nx s v D m).length ≤ D.length + m
  | 0 => Nat.le_refl _
  | m + 1 => by
    have := expandE_len nx s v D m
    unfold expandE addE
    split
    · omega
    · simp; omega

theorem v140_l0_0 (n : Nat) (f : Int → Int → Option Int) (nx : Int → Nat → Int) (M : Nat) (t7 : Int) (v : List Int) (hM : M ≤ 1000) (hv : v.length ≤ 1000) (hf : ∀ m, m < M → f t7 (m : Int) = some (nx t7 m))
    (D : List (Int × List Int)) (i : Nat) (hi : i ≤ D.length) (hD : D.length ≤ 1000)
    (k0 : Int × (Int → Int → Option Int) × List (Int × Bool) × List (Int × List Int) × Unit → Option (List (Int × List Int))) :
    ∀ (k m fuel : Nat) (seen : List (Int × Bool)), m + k = M → k < fuel → SeenOf seen (expandE nx t7 v D m) →
      ∃ seen', SeenOf seen' (expandE nx t7 v D M) ∧ loopG (s140_l0_0 n) fuel ((M : Int), f, (M : Int), (m : Int), seen, (expandE nx t7 v D m).drop i, t7, v, ()) (k0, ()) =
        k0 ((M : Int), f, seen', (expandE nx t7 v D M).drop i, ()) := by
  intro k
  induction k with
  | zero =>
    intro m fuel seen hm hfu hs
    have : m = M := by omega
    subst this
    obtain ⟨fuel', rfl⟩ : ∃ k, fuel = k + 1 := ⟨fuel - 1, by omega⟩
    refine ⟨seen, hs, ?_⟩
    rw [loopG]
    have hlt : decide ((m : Int) < (m : Int)) = false := by simp
    simp only [s140_l0_0, hlt, cond_false]
  | succ k ih =>
    intro m fuel seen hm hfu hs
    obtain ⟨fuel', rfl⟩ : ∃ k, fuel = k + 1 := ⟨fuel - 1, by omega⟩
    have hlt : decide ((m : Int) < (M : Int)) = true := by simp; omega
    have hw : IntKind.wrap .i64 ((m : Int) + 1) = ((m + 1 : Nat) : Int) := by rw [wrap_id] <;> omega
    have hlen := expandE_len nx t7 v D m
    obtain ⟨r, hr⟩ := expandE_prefix nx t7 v D m
    have hil : i ≤ (expandE nx t7 v D m).length := by rw [hr, List.length_append]; omega
    rw [loopG]
    simp only [s140_l0_0, hlt, cond_true, hf m (by omega), Option.bind_some, hs (nx t7 m), hw]
    by_cases hin : nx t7 m ∈ (expandE nx t7 v D m).map Prod.fst
    · have he : expandE nx t7 v D (m + 1) = expandE nx t7 v D m := by
        show addE nx t7 v (expandE nx t7 v D m) m = _
        unfold addE
        rw [if_pos hin]
      rw [if_pos hin]
      simp only [Option.getD_some, Bool.not_true, cond_false]
      obtain ⟨seen', h1, h2⟩ := ih (m + 1) fuel' seen (by omega) (by omega) (by rw [he]; exact hs)
      refine ⟨seen', h1, ?_⟩
      rw [← he]
      exact h2
    · have he : expandE nx t7 v D (m + 1) = expandE nx t7 v D m ++ [(nx t7 m, v ++ [(m : Int)])] := by
        show addE nx t7 v (expandE nx t7 v D m) m = _
        unfold addE
        rw [if_neg hin]
      rw [if_neg hin]
      have c1 : chk (List.length v + List.length ([(m : Int)] : List Int)) = some () := chk_ok (by simp; omega)
      have c2 : chk (List.length ((expandE nx t7 v D m).drop i) + List.length ([(nx t7 m, v ++ [(m : Int)])] : List (Int × List Int))) = some () := chk_ok (by rw [List.length_drop]; simp; omega)
      have c3 : s135 n v = some v := by
        unfold s135
        rw [chk_ok (by omega)]
        rfl
      simp only [Option.getD_none, Bool.not_false, cond_true, c3, c1, c2, Option.bind_some]
      obtain ⟨seen', h1, h2⟩ := ih (m + 1) fuel' (mput seen (nx t7 m) true) (by omega) (by omega) (by
        intro x
        rw [mget_mput, he, hs x, List.map_append]
        by_cases hx : nx t7 m = x
        · subst hx
          simp
        · have : ¬ x = nx t7 m := fun h => hx h.symm
          rw [if_neg hx]
          by_cases hx2 : x ∈ (expandE nx t7 v D m).map Prod.fst
          · rw [if_pos hx2, if_pos (List.mem_append_left _ hx2)]
          · rw [if_neg hx2, if_neg]
            intro h
            rcases List.mem_append.1 h with h | h
            · exact hx2 h
            · exact this (by simpa using h))
      refine ⟨seen', h1, ?_⟩
      have hdr : (expandE nx t7 v D m).drop i ++ [(nx t7 m, v ++ [(m : Int)])] = (expandE nx t7 v D (m + 1)).drop i := by
        rw [he, List.drop_append_of_le_length hil]
      rw [hdr]
      exact h2

theorem v140_l0 (n : Nat) (f : Int → Int → Option Int) (nx : Int → Nat → Int) (M N : Nat) (Good : Int → Prop) (b0 : Int) (hM : M ≤ 1000) (hNl : N ≤ 500) (hMn : M < n) (hf : ∀ s, Good s → ∀ m, m < M → f s (m : Int) = some (nx s m))
    (hG : ∀ s, Good s → ∀ m, m < M → Good (nx s m)) (hN : ∀ l : List Int, l.Nodup → (∀ x ∈ l, Good x) → l.length ≤ N) :
    ∀ (k i fuel : Nat) (D : List (Int × List Int)) (seen : List (Int × Bool)), i + k = N → k < fuel → i ≤ D.length → BInv nx M Good b0 D → BAt nx M D i 0 → SeenOf seen D →
      loopG (s140_l0 n) fuel ((M : Int), f, seen, D.drop i, ()) ((fun (_ : Unit) => some ([] : List (Int × List Int))), (fun (_ : Unit) => some ([] : List (Int × List Int))), ()) = some ((bfsD nx M k i D).drop i) := by
  intro k
  induction k with
  | zero =>
    intro i fuel D seen hk hfu hiD hI hA hs
    obtain ⟨fuel', rfl⟩ : ∃ k, fuel = k + 1 := ⟨fuel - 1, by omega⟩
    have hl := hN _ hI.nodup (fun x hx => by
      obtain ⟨e, he, rfl⟩ := List.mem_map.1 hx
      exact hI.good e he)
    rw [List.length_map] at hl
    have hd : D.drop i = [] := List.drop_of_length_le (by omega)
    rw [loopG, bfsD, hd]
    rfl
  | succ k ih =>
    intro i fuel D seen hk hfu hiD hI hA hs
    obtain ⟨fuel', rfl⟩ : ∃ k, fuel = k + 1 := ⟨fuel - 1, by omega⟩
    have hl := hN _ hI.nodup (fun x hx => by
      obtain ⟨e, he, rfl⟩ := List.mem_map.1 hx
      exact hI.good e he)
    rw [List.length_map] at hl
    rw [loopG]
    rcases Nat.lt_or_ge i D.length with h | h
    · have hd : D.drop i = D[i] :: D.drop (i + 1) := List.drop_eq_getElem_cons h
      have hge : D[i]? = some D[i] := List.getElem?_eq_getElem h
      have hmem : D[i] ∈ D := List.getElem_mem h
      generalize D[i] = e at *
      have hpos : decide (((List.length (e :: D.drop (i + 1)) : Nat) : Int) > (0 : Int)) = true := by rw [decide_eq_true_eq, List.length_cons]; omega
      have hg0 : geti (e :: D.drop (i + 1)) (0 : Int) = some e := rfl
      have hcut : cut (e :: D.drop (i + 1)) (1 : Int) ((List.length (e :: D.drop (i + 1)) : Nat) : Int) = some (D.drop (i + 1)) := by
        have := cut_nat (e :: D.drop (i + 1)) 1 (List.length (e :: D.drop (i + 1))) (by simp) (Nat.le_refl _)
        rw [List.take_length] at this
        exact this
      have hvl := hI.len i e hge
      obtain ⟨q1, q2⟩ := B_expand hG hI hA hge M (Nat.le_refl _)
      have q3 := B_next q1 q2 (expandE_get hge M)
      obtain ⟨r, hr⟩ := expandE_prefix nx e.1 e.2 D M
      obtain ⟨seen', h1, h2⟩ := v140_l0_0 n f nx M e.1 e.2 hM (by omega) (fun m hm => hf e.1 (hI.good e hmem) m hm) D (i + 1) (by omega) (by omega)
        (fun x => match x with | (t2, t3, seen_2, queue_2, _) => loopG (s140_l0 n) fuel' (t2, t3, seen_2, queue_2, ()) ((fun (_ : Unit) => some ([] : List (Int × List Int))), (fun (_ : Unit) => some ([] : List (Int × List Int))), ())) M 0 n seen (by omega) hMn hs
      rw [hd]
      simp only [s140_l0, hpos, cond_true, hg0, Option.bind_some, hcut]
      have h2' := h2
      simp only [expandE] at h2'
      rw [show ((0 : Nat) : Int) = (0 : Int) from rfl] at h2'
      rw [h2']
      rw [ih (i + 1) fuel' (expandE nx e.1 e.2 D M) seen' (by omega) (by omega) (by rw [hr, List.length_append]; omega) q1 q3 h1]
      have hb : bfsD nx M (k + 1) i D = bfsD nx M k (i + 1) (expandE nx e.1 e.2 D M) := by
        rw [bfsD, hge]
      rw [hb]
      obtain ⟨r2, hr2⟩ := bfsD_prefix nx M k (i + 1) (expandE nx e.1 e.2 D M)
      have hfin : (bfsD nx M k (i + 1) (expandE nx e.1 e.2 D M)).drop i = e :: (bfsD nx M k (i + 1) (expandE nx e.1 e.2 D M)).drop (i + 1) := by
        rw [hr2, hr]
        have hlt : i < (D ++ r ++ r2).length := by simp; omega
        rw [List.drop_eq_getElem_cons hlt]
        congr 1
        have : (D ++ r ++ r2)[i]? = some e := by rw [List.append_assoc, List.getElem?_append_left h, hge]
        rw [List.getElem?_eq_getElem hlt] at this
        exact Option.some.inj this
      rw [hfin]
      rfl
    · have hd : D.drop i = [] := List.drop_of_length_le h
      have hb : bfsD nx M (k + 1) i D = D := by
        rw [bfsD, List.getElem?_eq_none h]
      rw [hb, hd]
      rfl

theorem v140 (n : Nat) (f : Int → Int → Option Int) (nx : Int → Nat → Int) (M N : Nat) (Good : Int → Prop) (b0 : Int) (hM : M ≤ 1000) (hNl : N ≤ 500) (hMn : M < n) (hNn : N < n) (hf : ∀ s, Good s → ∀ m, m < M → f s (m : Int) = some (nx s m))
    (h0 : Good b0) (hG : ∀ s, Good s → ∀ m, m < M → Good (nx s m)) (hN : ∀ l : List Int, l.Nodup → (∀ x ∈ l, Good x) → l.length ≤ N) :
    s140 n b0 (M : Int) f = some (bfs nx M N b0) := by
  have hi : BInv nx M Good b0 [(b0, [])] := by
    refine ⟨by simp, by simpa using h0, by simp [runW], by simp, by simp, ?_, rfl⟩
    intro i e he
    match i, he with
    | 0, he => cases he; exact Nat.le_refl 0
  have ha : BAt nx M [(b0, ([] : List Int))] 0 0 := by
    refine ⟨?_, fun j m' hj _ _ _ => by omega⟩
    intro e he u hu
    have : u = (b0, []) := by simpa using hu
    subst this
    show codeW M [] < _
    simp [codeW]
  have := v140_l0 n f nx M N Good b0 hM hNl hMn hf hG hN N 0 n [(b0, [])] (mput [] b0 true) (by omega) hNn (by simp) hi ha (by
    intro x
    rw [mget_mput]
    by_cases hx : b0 = x
    · subst hx; simp
    · have : ¬ x = b0 := fun h => hx h.symm
      rw [if_neg hx]
      simp [mget, this])
  unfold s140
  exact this

/-! A rule book's classes as nodes. -/
def nxB (b : Book) (k : Int) (m : Nat) : Int := (stepTo b.2.2 k (m : Int)).getD 0
def inB (b : Book) (k : Int) : Prop := 0 ≤ k ∧ k < (b.2.2.length : Int)
theorem GoodB.nx {b : Book} (h : GoodB b) {k : Int} (hk : inB b k) {m : Nat} (hm : m < b.1.length) : stepTo b.2.2 k (m : Int) = some (nxB b k m) ∧ inB b (nxB b k m) := by
  obtain ⟨k', h1, h2⟩ := h.step hk (show 0 ≤ (m : Int) ∧ (m : Int) < (b.1.length : Int) by omega)
  unfold nxB
  rw [h1]
  exact ⟨rfl, h2⟩

/-- All classes that are reached from one, with the first marks that reach each. -/
def reachB (b : Book) (k : Int) : List (Int × List Int) := bfs (nxB b) b.1.length b.2.2.length k

theorem reachB_found {b : Book} (h : GoodB b) {k : Int} (hk : inB b k) : Found (nxB b) b.1.length (inB b) k (reachB b k) :=
  bfs_found hk (fun s hs m hm => (h.nx hs hm).2) (fun l hl hb => nodup_lt _ l hl hb)

theorem v83 (n : Nat) (b : Book) (hf : Fuel n) (h : GoodB b) (k : Int) (hk : inB b k) : s83 n b k = some (reachB b k) := by
  have hlo := hf.lo
  have h1 := h.marks
  have h2 := h.classes
  unfold s83 s118
  rw [v140 n _ (nxB b) b.1.length b.2.2.length (inB b) k (by omega) (by omega) (by omega) (by omega) (fun s hs m hm => ?_) hk (fun s hs m hm => (h.nx hs hm).2) (fun l hl hb => nodup_lt _ l hl hb)]
  · rfl
  · have := (h.nx hs hm).1
    unfold stepTo at this
    unfold s114
    show ((geti b.2.2 s).bind fun e => (geti e.2.1 (m : Int)).bind fun e_1 => some e_1) = _
    rw [← this]
    cases geti b.2.2 s with
    | none => rfl
    | some c =>
      simp only [Option.bind_some]
      cases geti c.2.1 (m : Int) <;> rfl

theorem v20_range (n : Nat) (c : Int) (done : _ → Option (List Int × Int)) (t : List (Int × List Int)) : ∀ (l : List (Int × List Int)),
    rangeG (s20_l0 n) ((fun (x : List Int × Int × Unit) => match x with | (t4, t5_2, _) => some (t4, t5_2)), ()) done l (t, c, (0 : Int), ()) =
      match l.find? (fun e => e.1 == c) with
      | some e => some (e.2, 0)
      | none => done (t, c, (0 : Int), ())
  | [] => rfl
  | y :: l => by
    rw [rangeG]
    simp only [s20_l0, List.find?_cons]
    cases h : (y.1 == c)
    · exact v20_range n c done t l
    · rfl

def sheetErrTo (b : Book) (c : Int) : Int := firstErr [(bookErr b).2, unl (inR c 0 ((b.2.2.length : Int) - 1)) 6]

theorem v20_bad (n : Nat) (b : Book) (hf : Fuel n) (hb : fitB n b) (c : Int) (he : (sheetErrTo b c == 0) = false) : s20 n b c = some ([], sheetErrTo b c) := by
  have hlo := hf.lo
  unfold s20
  simp only [show ((b.1, (b.2.1, b.2.2)) : Book) = b from rfl, v79 n b hf hb, Option.bind_some, lenPred hf hb.2.2.1, v82, v81, v80 n [_, _] (by simp [maxLen]) (by simp; omega), bne]
  rw [show firstErr [(bookErr b).2, unl (inR c 0 ((b.2.2.length : Int) - 1)) 6] = sheetErrTo b c from rfl, he]
  rfl

theorem v20_ok (n : Nat) (b : Book) (hf : Fuel n) (hb : fitB n b) (c : Int) (he : sheetErrTo b c = 0) (hg : GoodB b) :
    s20 n b c = some (match (reachB b b.2.1).find? (fun e => e.1 == c) with | some e => (e.2, 0) | none => ([], 12)) := by
  have hlo := hf.lo
  unfold s20
  simp only [show ((b.1, (b.2.1, b.2.2)) : Book) = b from rfl, v79 n b hf hb, Option.bind_some, lenPred hf hb.2.2.1, v82, v81, v80 n [_, _] (by simp [maxLen]) (by simp; omega), bne]
  rw [show firstErr [(bookErr b).2, unl (inR c 0 ((b.2.2.length : Int) - 1)) 6] = sheetErrTo b c from rfl, he]
  simp only [beq_self_eq_true, Bool.not_true, cond_false, show ((b.1, b.2.1, b.2.2) : Book) = b from rfl, v83 n b hf hg b.2.1 hg.begin', Option.bind_some]
  rw [v20_range]
  cases (reachB b b.2.1).find? (fun e => e.1 == c) <;> rfl

/-- Where marks lead to. -/
theorem at_run {b : Book} (h : GoodB b) : (l : List Int) → (∀ m ∈ l, 0 ≤ m ∧ m < (b.1.length : Int)) → (k : Int) → inB b k → ∃ w, walkO b.2.2 k l = some w ∧ lastI w = runW (nxB b) k l
  | [], _, k, hk => ⟨[k], rfl, rfl⟩
  | m :: l, hl, k, hk => by
    have hm := hl m List.mem_cons_self
    obtain ⟨j, rfl⟩ : ∃ j : Nat, m = (j : Int) := ⟨m.toNat, by omega⟩
    obtain ⟨h1, h2⟩ := h.nx hk (m := j) (by omega)
    obtain ⟨w, h3, h4⟩ := at_run h l (fun x hx => hl x (List.mem_cons_of_mem _ hx)) _ h2
    refine ⟨k :: w, ?_, ?_⟩
    · simp only [walkO, h1, Option.bind_some, h3, Option.map_some]
    · obtain ⟨r, hr, _⟩ := walkO_ne h3
      have : lastI (k :: w) = lastI w := by rw [hr]; simp [lastI]
      rw [this, h4]
      simp [runW]

theorem v85 (n : Nat) (hf : Fuel n) : ∀ (a b : List Int), a.length ≤ 1000 → s85 n a b = some (beforeW a b) := by
  intro a b ha
  have hlo := hf.lo
  have key : ∀ (k i fuel : Nat), i + k = min a.length b.length → k < fuel → loopG (s85_l0 n) fuel (a, b, (i : Int), ())
      ((fun (x : List Int × List Int × Unit) => match x with | (a_2, b_2, _) => some (decide (((List.length a_2 : Nat) : Int) < ((List.length b_2 : Nat) : Int)))), (fun (x : Bool × Unit) => match x with | (t4, _) => some t4), ()) = some (beforeW (a.drop i) (b.drop i)) := by
    intro k
    induction k with
    | zero =>
      intro i fuel hi hfu
      obtain ⟨fuel', rfl⟩ : ∃ k, fuel = k + 1 := ⟨fuel - 1, by omega⟩
      rw [loopG]
      have hlt : (decide ((i : Int) < ((List.length a : Nat) : Int)) && decide ((i : Int) < ((List.length b : Nat) : Int))) = false := by
        rw [Bool.and_eq_false_iff, decide_eq_false_iff_not, decide_eq_false_iff_not]
        omega
      simp only [s85_l0, hlt, cond_false]
      have hl : decide (((List.length a : Nat) : Int) < ((List.length b : Nat) : Int)) = decide ((a.drop i).length < (b.drop i).length) := by
        rw [List.length_drop, List.length_drop]
        congr 1
        rw [eq_iff_iff]
        omega
      rw [hl]
      have : a.drop i = [] ∨ b.drop i = [] := by
        rcases Nat.le_total a.length b.length with h | h
        · exact .inl (List.drop_of_length_le (by omega))
        · exact .inr (List.drop_of_length_le (by omega))
      rcases this with h | h
      · rw [h]
        cases b.drop i <;> rfl
      · rw [h]
        cases a.drop i <;> rfl
    | succ k ih =>
      intro i fuel hi hfu
      obtain ⟨fuel', rfl⟩ : ∃ k, fuel = k + 1 := ⟨fuel - 1, by omega⟩
      rw [loopG]
      have ha' : i < a.length := by omega
      have hb' : i < b.length := by omega
      have hlt : (decide ((i : Int) < ((List.length a : Nat) : Int)) && decide ((i : Int) < ((List.length b : Nat) : Int))) = true := by
        rw [Bool.and_eq_true, decide_eq_true_eq, decide_eq_true_eq]
        omega
      have hw : IntKind.wrap .i64 ((i : Int) + 1) = ((i + 1 : Nat) : Int) := by rw [wrap_id] <;> omega
      have hga : geti a (i : Int) = some a[i] := by rw [geti_nat, List.getElem?_eq_getElem ha']
      have hgb : geti b (i : Int) = some b[i] := by rw [geti_nat, List.getElem?_eq_getElem hb']
      simp only [s85_l0, hlt, cond_true, hga, hgb, Option.bind_some, hw]
      rw [List.drop_eq_getElem_cons ha', List.drop_eq_getElem_cons hb', beforeW]
      cases a[i] != b[i]
      · simp only [cond_false]
        exact ih (i + 1) fuel' (by omega) (by omega)
      · rfl
  have := key (min a.length b.length) 0 n (by omega) (by omega)
  unfold s85
  simpa using this

theorem v23 (n : Nat) (hf : Fuel n) (a b : List Int) (ha : a.length ≤ 1000) : s23 n a b = some (comesW a b) := by
  unfold s23 comesW
  have e1 : decide (((List.length a : Nat) : Int) < ((List.length b : Nat) : Int)) = decide (a.length < b.length) := by congr 1; rw [eq_iff_iff]; omega
  have e2 : (((List.length a : Nat) : Int) == ((List.length b : Nat) : Int)) = decide (a.length = b.length) := by
    rw [Bool.eq_iff_iff, beq_iff_eq, decide_eq_true_eq]; omega
  rw [e1, e2, v85 n hf a b ha]
  cases decide (a.length < b.length) <;> cases decide (a.length = b.length) <;> cases beforeW a b <;> rfl

theorem taste_shortest (b : Book) (c : Int) (l : List Int) : ∃ n, s3 n b c l = some true := by
  refine ⟨0 + 2000, ?_⟩
  generalize hm : (0 : Nat) = m
  have hm0 : m = 0 := hm.symm
  clear hm
  have hf : Fuel (m + 2000) := ⟨by omega, by omega⟩
  have ht := awake_ok m
  generalize hn : m + 2000 = n at *
  have hlo := hf.lo
  unfold s3
  simp only [ht, Option.bind_some, Bool.not_true, cond_false, show ((b.1, b.2.1, b.2.2) : Book) = b from rfl, v16 n b hf, show decide (((List.length l : Nat) : Int) > (12 : Int)) = !decide (l.length ≤ 12) from dec_gt _ 12]
  cases c1 : fewB b
  · rfl
  · obtain ⟨hb, _⟩ := few_fit c1 hf
    cases c2 : decide (l.length ≤ 12)
    · rfl
    · have hl : l.length ≤ 12 := by simpa using c2
      have hlt : Lt n l := by unfold Lt; omega
      simp only [Bool.not_true, Bool.or_self, Bool.not_false, part_true, v17 n b hf hb, Option.bind_some, bne]
      cases c3 : ((bookErr b).2 == 0)
      · rfl
      · simp only [Bool.not_true, Bool.or_self, Bool.not_false, part_true, v18 n b l hf hb.1 hlt, Option.bind_some]
        cases c4 : (marksErr b l == 0)
        · rfl
        · simp only [Bool.not_true, Bool.or_self, Bool.not_false, part_true, lenPred hf hb.2.2.1, v19, Option.bind_some]
          cases c5 : inR c 0 ((b.2.2.length : Int) - 1)
          · rfl
          · have he0 : (bookErr b).2 = 0 := by simpa using c3
            have hg := bookErr_good he0
            have hm := marksErr_zero.1 (show marksErr b l = 0 by simpa using c4)
            have hcr := inR_iff.1 c5
            have hcl := hg.classes
            have hst : sheetErrTo b c = 0 := by simp [sheetErrTo, firstErr, he0, c5, unl]
            obtain ⟨w, w1, w2⟩ := at_run hg l hm.2 b.2.1 hg.begin'
            have hF := reachB_found hg hg.begin'
            simp only [Bool.not_true, cond_false, Bool.or_self, v21 n b hf hb, v20_ok n b hf hb c hst hg, Option.bind_some, v22_ok n b l w hf (by omega) w1, w2]
            obtain ⟨u, hu, hu1, hu2⟩ := hF.least l hm.2
            cases hfd : (reachB b b.2.1).find? (fun e => e.1 == c) with
            | none =>
              have : ¬ runW (nxB b) b.2.1 l = c := fun h => by
                have := List.find?_eq_none.1 hfd u hu
                rw [hu1, h] at this
                simp at this
              have e : (runW (nxB b) b.2.1 l == c) = false := by simpa using this
              rw [e]
              rfl
            | some e =>
              have h1 := List.mem_of_find?_eq_some hfd
              have h2 : e.1 = c := by simpa using List.find?_some hfd
              have hel : e.2.length ≤ 40 := by
                obtain ⟨j, hj, hje⟩ := List.getElem_of_mem h1
                have q1 := hF.inv.len j e (by rw [List.getElem?_eq_getElem hj, hje])
                have q2 := nodup_lt b.2.2.length _ hF.inv.nodup (fun x hx => by
                  obtain ⟨z, hz, rfl⟩ := List.mem_map.1 hx
                  exact hF.inv.good z hz)
                rw [List.length_map] at q2
                omega
              have her := hF.inv.rng e h1
              have hmz : marksErr b e.2 = 0 := marksErr_zero.2 ⟨hel, her⟩
              have hlt2 : Lt n e.2 := by unfold Lt; omega
              obtain ⟨w', w1', w2'⟩ := at_run hg e.2 her b.2.1 hg.begin'
              have hec : runW (nxB b) b.2.1 e.2 = c := by rw [hF.inv.path e h1, h2]
              simp only [beq_self_eq_true, Bool.not_true, cond_false, v18 n b e.2 hf hb.1 hlt2, hmz, Option.bind_some, part_true, v22_ok n b e.2 w' hf (by omega) w1', w2', hec, Bool.and_self, Bool.true_and]
              cases hr : (runW (nxB b) b.2.1 l == c)
              · rfl
              · have hrc : runW (nxB b) b.2.1 l = c := by simpa using hr
                simp only [part_true, v23 n hf l e.2 (by omega), Option.bind_some, Bool.true_and]
                cases hcm : comesW l e.2
                · rfl
                · exfalso
                  have hcode := comes_code l e.2 hm.2 her hcm
                  -- the node is there once
                  have : u = e := by
                    obtain ⟨i, hi, hie⟩ := List.getElem_of_mem hu
                    obtain ⟨j, hj, hje⟩ := List.getElem_of_mem h1
                    have hij : i = j := by
                      refine (List.getElem_inj (xs := (reachB b b.2.1).map Prod.fst) (i := i) (j := j) (h₀ := by simpa using hi) (h₁ := by simpa using hj) hF.inv.nodup).1 ?_
                      rw [List.getElem_map, List.getElem_map, hie, hje, hu1, hrc, h2]
                    subst hij
                    rw [← hie, hje]
                  subst this
                  omega

end Go.Abs
