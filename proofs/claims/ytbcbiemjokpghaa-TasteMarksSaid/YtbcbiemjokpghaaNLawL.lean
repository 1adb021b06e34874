/- Steadiness counted from the other side; the tasters that are steady enough; TastePanels. -/
import Derived.Test.YtbcbiemjokpghaaNLawK
set_option linter.unusedSimpArgs false
set_option linter.unusedVariables false
namespace Go.Abs
open Go

def steadyJ (h : Int × Int → Int × Int → Nat) : ZZ → Nat
  | [] => 0
  | w :: r => sumN (fun z => h z w) r + steadyJ h r

theorem sumN_add (f g : Int × Int → Nat) : (l : ZZ) → sumN (fun z => f z + g z) l = sumN f l + sumN g l
  | [] => rfl
  | z :: l => by rw [sumN_cons, sumN_cons, sumN_cons, sumN_add f g l]; omega

theorem steadyI_eq (h : Int × Int → Int × Int → Nat) : (l pre : ZZ) → steadyI h pre l = sumN (fun z => sumN (h z) pre) l + steadyJ h l
  | [], pre => rfl
  | z :: r, pre => by
    have e : (fun y => sumN (h y) (pre ++ [z])) = fun y => sumN (h y) pre + h y z := by
      funext y
      rw [sumN_snoc]
    rw [steadyI, steadyI_eq h r (pre ++ [z]), e, sumN_add, sumN_cons, steadyJ]
    omega

theorem sumN_zero : (l : ZZ) → sumN (fun _ => 0) l = 0
  | [] => rfl
  | z :: l => by rw [sumN_cons, sumN_zero l]

theorem steadyI_nil (h : Int × Int → Int × Int → Nat) (l : ZZ) : steadyI h [] l = steadyJ h l := by
  rw [steadyI_eq]
  have : (fun z => sumN (h z) []) = fun _ => 0 := by funext z; rfl
  rw [this, sumN_zero, Nat.zero_add]

theorem v53_l0_0 (n : Nat) (hf : Fuel n) (p : Pan) (l : List Int) (t4 t41 : Int) (i : Nat) (w : Int × Int) (e1 : l.length = p.2.2.1.length) (hl : p.2.2.1.length ≤ 1000) (hi : i < p.2.2.1.length) (hw : (p.2.2.1.zip l)[i]? = some w)
    (c d : Nat) (hc : c ≤ 1000000) (hd : d ≤ 1000000) (k0 : List Int × Int × Int × Int × List Int × List (List Int) × Int × Int × Int × Int × Unit → Option (Int × Int)) :
    loopG (s53_l0_0 n) n (l, (i : Int), ((i + 1 : Nat) : Int), p.1, p.2.1, p.2.2.1, p.2.2.2, t4, t41, (c : Int), (d : Int), ()) (k0, ()) =
      k0 (l, (i : Int), p.1, p.2.1, p.2.2.1, p.2.2.2, t4, t41, ((c + sumN (fun z => same1 z w) ((p.2.2.1.zip l).drop (i + 1)) : Nat) : Int), ((d + sumN (fun z => glass1 z w) ((p.2.2.1.zip l).drop (i + 1)) : Nat) : Int), ()) := by
  have hlo := hf.lo
  have hZ : (p.2.2.1.zip l).length = p.2.2.1.length := by simp [e1]
  have hwp := List.getElem?_zip_eq_some.1 hw
  have hgi : geti p.2.2.1 (i : Int) = some w.1 := by rw [geti_nat]; exact hwp.1
  have hli : geti l (i : Int) = some w.2 := by rw [geti_nat]; exact hwp.2
  have hdl : ((p.2.2.1.zip l).drop (i + 1)).length = p.2.2.1.length - (i + 1) := by rw [List.length_drop, hZ]
  refine (list_loop (A := Nat × Nat) ((p.2.2.1.zip l).drop (i + 1)) (fun j a => (l, (i : Int), ((i + 1 + j : Nat) : Int), p.1, p.2.1, p.2.2.1, p.2.2.2, t4, t41, (a.1 : Int), (a.2 : Int), ()))
    (fun j a r => k0 (l, (i : Int), p.1, p.2.1, p.2.2.1, p.2.2.2, t4, t41, ((a.1 + sumN (fun z => same1 z w) r : Nat) : Int), ((a.2 + sumN (fun z => glass1 z w) r : Nat) : Int), ())) (fun j a => a.1 ≤ 1000000 + j ∧ a.2 ≤ 1000000 + j)
    (by rw [hdl]; unfold maxLen; omega) ?_ ?_ (c, d) ⟨by simpa using hc, by simpa using hd⟩ (by rw [hdl]; omega)).trans (by simp)
  · rintro j ⟨c, d⟩ z r hj hx hdr _ _ _ ⟨hc, hd⟩ again ih
    rw [hdl] at hj
    dsimp only at hc hd
    rw [List.getElem?_drop] at hx
    have hx' := List.getElem?_zip_eq_some.1 hx
    have hgk : geti p.2.2.1 ((i + 1 + j : Nat) : Int) = some z.1 := by rw [geti_nat]; exact hx'.1
    have hlk : geti l ((i + 1 + j : Nat) : Int) = some z.2 := by rw [geti_nat]; exact hx'.2
    have hlt : decide (((i + 1 + j : Nat) : Int) < ((List.length l : Nat) : Int)) = true := by rw [decide_eq_true_eq]; omega
    have hw1 : IntKind.wrap .i64 (((i + 1 + j : Nat) : Int) + 1) = ((i + 1 + (j + 1) : Nat) : Int) := by rw [wrap_id] <;> omega
    have hwc : IntKind.wrap .i64 ((c : Int) + 1) = ((c + 1 : Nat) : Int) := by rw [wrap_id] <;> omega
    have hwd : IntKind.wrap .i64 ((d : Int) + 1) = ((d + 1 : Nat) : Int) := by rw [wrap_id] <;> omega
    simp only [s53_l0_0, hlt, cond_true, hgi, hgk, hli, hlk, Option.bind_some, hw1, hwc, hwd, sumN_cons]
    cases h1 : (w.1 != z.1)
    · have q1 : w.1 = z.1 := by simpa using h1
      simp only [cond_false]
      cases h2 : (w.2 == z.2)
      · have q2 : ¬ z.2 = w.2 := fun e => by rw [e] at h2; simp at h2
        simp only [cond_false]
        rw [ih (c, d + 1) ⟨by dsimp only; omega, by dsimp only; omega⟩]
        simp only [same1, glass1, q1, q2, and_false, if_false, if_true, Nat.zero_add, Nat.add_assoc]
      · have q2 : z.2 = w.2 := by have : w.2 = z.2 := by simpa using h2
                                  exact this.symm
        simp only [cond_true]
        rw [ih (c + 1, d + 1) ⟨by dsimp only; omega, by dsimp only; omega⟩]
        simp only [same1, glass1, q1, q2, and_self, if_true, Nat.add_assoc]
    · have q1 : ¬ w.1 = z.1 := by simpa using h1
      simp only [cond_true]
      rw [ih (c, d) ⟨by dsimp only; omega, by dsimp only; omega⟩]
      simp only [same1, glass1, q1, false_and, if_false, Nat.zero_add]
  · rintro ⟨c, d⟩ _ _ again
    have hlt : decide (((i + 1 + ((p.2.2.1.zip l).drop (i + 1)).length : Nat) : Int) < ((List.length l : Nat) : Int)) = false := by rw [decide_eq_false_iff_not, hdl]; omega
    simp only [s53_l0_0, hlt, cond_false]
    rfl

theorem v53 (n : Nat) (hf : Fuel n) (p : Pan) (hp : GoodP p) (t : Int) (ht : 0 ≤ t ∧ t < (p.2.2.2.length : Int)) : s53 n p t = some (((steady p t).1 : Int), ((steady p t).2 : Int)) := by
  have hlo := hf.lo
  obtain ⟨h1, h2⟩ := tst_get ht
  obtain ⟨e1, _⟩ := hp.each _ h2
  have hg := hp.glasses
  unfold s53
  rw [h1]
  simp only [Option.bind_some]
  unfold steady
  rw [steadyI_nil, steadyI_nil]
  generalize tst p t = l at *
  have hZ : (p.2.2.1.zip l).length = p.2.2.1.length := by simp [e1]
  refine (list_loop (A := Nat × Nat) (p.2.2.1.zip l) (fun i c => (l, (i : Int), p.1, p.2.1, p.2.2.1, p.2.2.2, (0 : Int), (0 : Int), (c.1 : Int), (c.2 : Int), ()))
    (fun i c r => some (((c.1 + steadyJ same1 r : Nat) : Int), ((c.2 + steadyJ glass1 r : Nat) : Int)))
    (fun i c => c.1 ≤ i * 1000 ∧ c.2 ≤ i * 1000) (by rw [hZ]; unfold maxLen; omega) ?_ ?_ (0, 0) (by simp) (by rw [hZ]; omega)).trans (by simp)
  · rintro i ⟨c, d⟩ z r hi hx hd _ hlt hw ⟨hc, hd'⟩ again ih
    rw [hZ] at hi
    dsimp only at hc hd'
    have hlt' : decide ((i : Int) < ((List.length l : Nat) : Int)) = true := by rw [decide_eq_true_eq]; omega
    have hdr : (p.2.2.1.zip l).drop (i + 1) = r := by
      have := congrArg List.tail hd
      rw [List.tail_drop] at this
      exact this
    simp only [s53_l0, hlt', cond_true, hw]
    rw [v53_l0_0 n hf p l _ _ i z e1 hg.2 hi hx c d (by omega) (by omega), hdr]
    have l1 := sumN_le (fun y => same1 y z) (fun y => same1_le y z) r
    have l2 := sumN_le (fun y => glass1 y z) (fun y => glass1_le y z) r
    have hr : r.length ≤ 1000 := by rw [← hdr, List.length_drop, hZ]; omega
    simp only [hw]
    rw [ih (c + sumN (fun y => same1 y z) r, d + sumN (fun y => glass1 y z) r) ⟨by dsimp only; omega, by dsimp only; omega⟩]
    simp only [steadyJ, Nat.add_assoc]
  · rintro ⟨c, d⟩ _ _ again
    have hlt' : decide ((((p.2.2.1.zip l).length : Nat) : Int) < ((List.length l : Nat) : Int)) = false := by rw [decide_eq_false_iff_not, hZ]; omega
    simp only [s53_l0, hlt', cond_false, steadyJ]
    rfl

theorem v55 (n : Nat) (hf : Fuel n) (p : Pan) (hp : GoodP p) (least : Int × Int) : s55 n p least = some (steadiest p least) := by
  have hlo := hf.lo
  have hT := hp.tasters
  unfold s55 steadiest
  refine (count_loop (A := List Int) p.2.2.2.length (fun i acc => ((i : Int), p.1, p.2.1, p.2.2.1, p.2.2.2, least.1, least.2, acc, ()))
    (fun i acc => some (((List.range p.2.2.2.length).filter (isSteady p least)).map fun t => ((t : Nat) : Int))) (fun i acc => acc = ((List.range i).filter (isSteady p least)).map fun t => ((t : Nat) : Int)) (by unfold maxLen; omega) ?_ ?_ [] (by simp) (by omega))
  · intro i acc hi hlt hw hinv again ih
    have e := v53 n hf p hp (i : Int) ⟨by omega, by omega⟩
    have hal : acc.length ≤ i := by
      rw [hinv, List.length_map]
      exact Nat.le_trans (List.length_filter_le _ _) (by simp)
    have hch : chk (acc.length + ([(i : Int)] : List Int).length) = some () := chk_ok (by simp; omega)
    simp only [s55_l0, hlt, cond_true, show ((p.1, (p.2.1, (p.2.2.1, p.2.2.2))) : Pan) = p from rfl, e, Option.bind_some, hw, hch]
    have hr : ((List.range (i + 1)).filter (isSteady p least)).map (fun t => ((t : Nat) : Int)) = acc ++ (bif isSteady p least i then [((i : Nat) : Int)] else []) := by
      rw [List.range_succ, List.filter_append, List.map_append, ← hinv]
      cases h : isSteady p least i <;> simp [h]
    have hd : decide (IntKind.wrap .i64 (((steady p i).1 : Int) * least.2) ≥ IntKind.wrap .i64 (least.1 * ((steady p i).2 : Int))) = isSteady p least i := rfl
    rw [hd]
    cases h : isSteady p least i
    · simp only [cond_false]
      exact ih acc (by rw [hr, h]; simp)
    · simp only [cond_true]
      exact ih (acc ++ [(i : Int)]) (by rw [hr, h]; rfl)
  · intro acc hlt hinv again
    simp only [s55_l0, hlt, cond_false, hinv]

end Go.Abs
