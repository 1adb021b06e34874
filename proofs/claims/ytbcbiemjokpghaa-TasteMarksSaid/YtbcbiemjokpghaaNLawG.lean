/- Panels: steady tasters; what a panel marks. -/
import Derived.Test.YtbcbiemjokpghaaNLawF
set_option linter.unusedSimpArgs false
set_option linter.unusedVariables false
namespace Go.Abs
open Go

abbrev ZZ := List (Int × Int)
def same1 (z w : Int × Int) : Nat := if w.1 = z.1 ∧ z.2 = w.2 then 1 else 0
def glass1 (z w : Int × Int) : Nat := if w.1 = z.1 then 1 else 0
def sumN (f : Int × Int → Nat) (l : ZZ) : Nat := (l.map f).sum
theorem sumN_cons (f : Int × Int → Nat) (z : Int × Int) (l : ZZ) : sumN f (z :: l) = f z + sumN f l := by simp [sumN]
theorem sumN_snoc (f : Int × Int → Nat) (z : Int × Int) (l : ZZ) : sumN f (l ++ [z]) = sumN f l + f z := by simp [sumN]
theorem sumN_le (f : Int × Int → Nat) (h : ∀ z, f z ≤ 1) : (l : ZZ) → sumN f l ≤ l.length
  | [] => by simp [sumN]
  | z :: l => by have := sumN_le f h l; have := h z; rw [sumN_cons, List.length_cons]; omega
theorem same1_le (z w : Int × Int) : same1 z w ≤ 1 := by unfold same1; split <;> omega
theorem glass1_le (z w : Int × Int) : glass1 z w ≤ 1 := by unfold glass1; split <;> omega

/-- Pairs of glasses with the same cask, of the same mark: each glass with those before. -/
def steadyI (h : Int × Int → Int × Int → Nat) : ZZ → ZZ → Nat
  | _, [] => 0
  | pre, z :: r => sumN (h z) pre + steadyI h (pre ++ [z]) r

theorem v91_l0_0 (n : Nat) (hf : Fuel n) (p : Pan) (l : List Int) (a18 : List Int) (a19 t4 t41 : Int) (i : Nat) (z : Int × Int)
    (hlen : l.length = p.2.2.1.length) (hg : p.2.2.1.length ≤ 1000) (hi : i < p.2.2.1.length) (hz : (p.2.2.1.zip l)[i]? = some z) (a b : Nat) (ha : a ≤ 1000000) (hb : b ≤ 1000000)
    (k0 : List Int × List Int × Int × Int × Int × Int × List Int × List (List Int) × Int × Int × Int × Int × Unit → Option (Int × Int)) :
    loopG (s91_l0_0 n) n (l, (i : Int), z.1, a18, a19, (i : Int), (i : Int), (0 : Int), p.1, p.2.1, p.2.2.1, p.2.2.2, t4, t41, (a : Int), (b : Int), ()) (k0, ()) =
      k0 (l, a18, a19, (i : Int), p.1, p.2.1, p.2.2.1, p.2.2.2, t4, t41, ((a + sumN (same1 z) ((p.2.2.1.zip l).take i) : Nat) : Int), ((b + sumN (glass1 z) ((p.2.2.1.zip l).take i) : Nat) : Int), ()) := by
  have hlo := hf.lo
  have hZ : (p.2.2.1.zip l).length = p.2.2.1.length := by simp [hlen]
  have hT : ((p.2.2.1.zip l).take i).length = i := by simp [hlen]; omega
  have hli : geti l (i : Int) = some z.2 := by
    rw [geti_nat]
    rw [List.getElem?_zip_eq_some] at hz
    exact hz.2
  refine (list_loop (A := Nat × Nat) ((p.2.2.1.zip l).take i) (fun k c => (l, (i : Int), z.1, a18, a19, (i : Int), (i : Int), (k : Int), p.1, p.2.1, p.2.2.1, p.2.2.2, t4, t41, (c.1 : Int), (c.2 : Int), ()))
    (fun k c r => k0 (l, a18, a19, (i : Int), p.1, p.2.1, p.2.2.1, p.2.2.2, t4, t41, ((c.1 + sumN (same1 z) r : Nat) : Int), ((c.2 + sumN (glass1 z) r : Nat) : Int), ())) (fun k c => c.1 ≤ a + k ∧ c.2 ≤ b + k) (by rw [hT]; unfold maxLen; omega) ?_ ?_ (a, b) ⟨Nat.le_refl _, Nat.le_refl _⟩ (by rw [hT]; omega))
  · rintro k ⟨c, d⟩ ⟨g, y⟩ r hk hx hd _ hlt hw ⟨hc, hd'⟩ again ih
    rw [hT] at hk hlt
    rw [List.getElem?_take_of_lt hk, List.getElem?_zip_eq_some] at hx
    have hgk : geti p.2.2.1 (k : Int) = some g := by rw [geti_nat]; exact hx.1
    have hlk : geti l (k : Int) = some y := by rw [geti_nat]; exact hx.2
    dsimp only at hc hd'
    simp only [s91_l0_0, hlt, cond_true, hgk, hlk, hli, Option.bind_some, hw, sumN_cons, bne]
    have w1 : IntKind.wrap .i64 ((c : Int) + 1) = ((c + 1 : Nat) : Int) := by rw [wrap_id] <;> omega
    have w2 : IntKind.wrap .i64 ((d : Int) + 1) = ((d + 1 : Nat) : Int) := by rw [wrap_id] <;> omega
    rw [w1, w2]
    cases h1 : (g == z.1)
    · have e1 : ¬ g = z.1 := by simpa using h1
      simp only [Bool.not_false, cond_true]
      rw [ih (c, d) ⟨by dsimp only; omega, by dsimp only; omega⟩]
      simp [same1, glass1, e1]
    · have e1 : g = z.1 := by simpa using h1
      simp only [Bool.not_true, cond_false]
      cases h2 : (z.2 == y)
      · have e2 : ¬ z.2 = y := by simpa using h2
        simp only [cond_false]
        rw [ih (c, d + 1) ⟨by dsimp only; omega, by dsimp only; omega⟩]
        simp only [same1, glass1, e1, e2, and_false, if_false, if_true, Nat.zero_add, Nat.add_assoc]
      · have e2 : z.2 = y := by simpa using h2
        simp only [cond_true]
        rw [ih (c + 1, d + 1) ⟨by dsimp only; omega, by dsimp only; omega⟩]
        simp only [same1, glass1, e1, e2, and_self, if_true, Nat.add_assoc]
  · rintro ⟨c, d⟩ hlt _ again
    rw [hT] at hlt ⊢
    simp only [s91_l0_0, hlt, cond_false]
    rfl

def steady (p : Pan) (t : Int) : Nat × Nat := (steadyI same1 [] (p.2.2.1.zip (tst p t)), steadyI glass1 [] (p.2.2.1.zip (tst p t)))

theorem v91 (n : Nat) (hf : Fuel n) (p : Pan) (hp : GoodP p) (t : Int) (ht : 0 ≤ t ∧ t < (p.2.2.2.length : Int)) : s91 n p t = some (((steady p t).1 : Int), ((steady p t).2 : Int)) := by
  have hlo := hf.lo
  obtain ⟨h1, h2⟩ := tst_get ht
  obtain ⟨e1, _⟩ := hp.each _ h2
  have hg := hp.glasses
  unfold s91
  rw [h1]
  simp only [Option.bind_some]
  unfold steady
  generalize tst p t = l at *
  have hZ : (p.2.2.1.zip l).length = p.2.2.1.length := by simp [e1]
  refine (list_loop (A := Nat × Nat) (p.2.2.1.zip l) (fun i c => (l, p.2.2.1, (p.2.2.1.length : Int), (i : Int), p.1, p.2.1, p.2.2.1, p.2.2.2, (0 : Int), (0 : Int), (c.1 : Int), (c.2 : Int), ()))
    (fun i c r => some (((c.1 + steadyI same1 ((p.2.2.1.zip l).take i) r : Nat) : Int), ((c.2 + steadyI glass1 ((p.2.2.1.zip l).take i) r : Nat) : Int)))
    (fun i c => c.1 ≤ i * 1000 ∧ c.2 ≤ i * 1000) (by rw [hZ]; unfold maxLen; omega) ?_ ?_ (0, 0) (by simp) (by rw [hZ]; omega)).trans ?_
  · rintro i ⟨c, d⟩ z r hi hx hd _ hlt hw ⟨hc, hd'⟩ again ih
    rw [hZ] at hi hlt
    dsimp only at hc hd'
    have hx' := List.getElem?_zip_eq_some.1 hx
    have hgi : geti p.2.2.1 (i : Int) = some z.1 := by rw [geti_nat]; exact hx'.1
    simp only [s91_l0, hlt, cond_true, hgi, Option.bind_some]
    rw [v91_l0_0 n hf p l _ _ _ _ i z e1 hg.2 hi hx c d (by omega) (by omega)]
    simp only [hw]
    have l1 := sumN_le (same1 z) (same1_le z) ((p.2.2.1.zip l).take i)
    have l2 := sumN_le (glass1 z) (glass1_le z) ((p.2.2.1.zip l).take i)
    have hT : ((p.2.2.1.zip l).take i).length ≤ i := by simp; omega
    have ht1 : (p.2.2.1.zip l).take (i + 1) = (p.2.2.1.zip l).take i ++ [z] := by rw [List.take_add_one, hx]; rfl
    rw [ih (c + sumN (same1 z) ((p.2.2.1.zip l).take i), d + sumN (glass1 z) ((p.2.2.1.zip l).take i)) ⟨by dsimp only; omega, by dsimp only; omega⟩, ht1]
    simp only [steadyI, Nat.add_assoc]
  · rintro ⟨c, d⟩ hlt _ again
    rw [hZ] at hlt ⊢
    simp only [s91_l0, hlt, cond_false, steadyI]
    rfl
  · simp

def isSteady (p : Pan) (least : Int × Int) (t : Nat) : Bool := decide (IntKind.wrap .i64 (((steady p t).1 : Int) * least.2) ≥ IntKind.wrap .i64 (least.1 * ((steady p t).2 : Int)))
def steadiest (p : Pan) (least : Int × Int) : List Int := ((List.range p.2.2.2.length).filter (isSteady p least)).map fun t => ((t : Nat) : Int)

theorem v110 (n : Nat) (hf : Fuel n) (p : Pan) (hp : GoodP p) (least : Int × Int) : s110 n p least = some (steadiest p least) := by
  have hlo := hf.lo
  have hT := hp.tasters
  unfold s110 steadiest
  refine (count_loop (A := List Int) p.2.2.2.length (fun i acc => ((p.2.2.2.length : Int), (i : Int), p.1, p.2.1, p.2.2.1, p.2.2.2, least.1, least.2, acc, ()))
    (fun i acc => some (((List.range p.2.2.2.length).filter (isSteady p least)).map fun t => ((t : Nat) : Int))) (fun i acc => acc = ((List.range i).filter (isSteady p least)).map fun t => ((t : Nat) : Int)) (by unfold maxLen; omega) ?_ ?_ [] (by simp) (by omega))
  · intro i acc hi hlt hw hinv again ih
    have e := v91 n hf p hp (i : Int) ⟨by omega, by omega⟩
    have hal : acc.length ≤ i := by
      rw [hinv, List.length_map]
      exact Nat.le_trans (List.length_filter_le _ _) (by simp)
    have hch : chk (acc.length + ([(i : Int)] : List Int).length) = some () := chk_ok (by simp; omega)
    simp only [s110_l0, hlt, cond_true, show ((p.1, p.2.1, p.2.2.1, p.2.2.2) : Pan) = p from rfl, e, Option.bind_some, hw, hch]
    have hr : ((List.range (i + 1)).filter (isSteady p least)).map (fun t => ((t : Nat) : Int)) = acc ++ (bif isSteady p least i then [((i : Nat) : Int)] else []) := by
      rw [List.range_succ, List.filter_append, List.map_append, ← hinv]
      cases h : isSteady p least i <;> simp [h]
    have hd : decide (IntKind.wrap .i64 (((steady p i).1 : Int) * least.2) ≥ IntKind.wrap .i64 (least.1 * ((steady p i).2 : Int))) = isSteady p least i := rfl
    rw [hd]
    cases h : isSteady p least i
    · simp only [cond_false]
      exact ih acc (by rw [hr, h]; simp)
    · simp only [cond_true]
      exact ih (acc ++ [(i : Int)]) (by rw [hr, h]; rfl)
  · intro acc hlt hinv again
    simp only [s110_l0, hlt, cond_false, hinv]

def marked (p : Pan) (ts : List Int) : List Int := (List.range p.1.toNat).map fun (c : Nat) => markOf (tab p.2.1.toNat (cnt p (c : Int) ts))

theorem steadiest_ok (p : Pan) (least : Int × Int) (hT : p.2.2.2.length ≤ 1000) : okTs p (steadiest p least) ∧ (steadiest p least).length ≤ 1000 := by
  refine ⟨fun t ht => ?_, ?_⟩
  · unfold steadiest at ht
    obtain ⟨k, hk, rfl⟩ := List.mem_map.1 ht
    have := List.mem_range.1 (List.mem_filter.1 hk).1
    omega
  · unfold steadiest
    rw [List.length_map]
    exact Nat.le_trans (List.length_filter_le _ _) (by simpa using hT)

theorem v56_loop (n : Nat) (hf : Fuel n) (p : Pan) (hp : GoodP p) (ts : List Int) (hts : okTs p ts) (hl : ts.length ≤ 1000) (k0 : List Int × Unit → Option (List Int × Int)) :
    loopG (s56_l0 n) n (ts, p.1, (0 : Int), p.1, p.2.1, p.2.2.1, p.2.2.2, ([] : List Int), ()) (k0, ()) = k0 (marked p ts, ()) := by
  have hlo := hf.lo
  have hc := hp.casks
  have hC : ((p.1.toNat : Nat) : Int) = p.1 := by omega
  refine (count_loop (A := List Int) p.1.toNat (fun i acc => (ts, p.1, (i : Int), p.1, p.2.1, p.2.2.1, p.2.2.2, acc, ())) (fun i acc => k0 (marked p ts, ()))
    (fun i acc => acc = (List.range i).map fun (c : Nat) => markOf (tab p.2.1.toNat (cnt p (c : Int) ts))) (by unfold maxLen; omega) ?_ ?_ [] (by simp) (by omega))
  · intro i acc hi hlt hw hinv again ih
    rw [hC] at hlt
    have hal : acc.length = i := by rw [hinv]; simp
    have hch : ∀ x : Int, chk (acc.length + ([x] : List Int).length) = some () := fun x => chk_ok (by simp; omega)
    simp only [s56_l0, hlt, cond_true, show ((p.1, p.2.1, p.2.2.1, p.2.2.2) : Pan) = p from rfl, v88 n hf p hp (i : Int) ts hts hl, Option.bind_some, hw, hch]
    exact ih _ (by rw [List.range_succ, List.map_append, hinv]; rfl)
  · intro acc hlt hinv again
    rw [hC] at hlt
    have hE : decide (((p.1.toNat : Nat) : Int) < p.1) = false := by rw [hC]; exact hlt
    simp only [s56_l0, hE, cond_false]
    rw [hinv]
    rfl

theorem v56_ok (n : Nat) (hf : Fuel n) (p : Pan) (hp : fitP n p) (he : (panErr p).2 = 0) (least : Int × Int) (hs : s109 n least = some 0) : s56 n p least = some (marked p (steadiest p least), 0) := by
  have hlo := hf.lo
  have hg := panErr_good he
  obtain ⟨g1, g2⟩ := steadiest_ok p least hg.tasters.2
  unfold s56
  rw [show ((p.1, (p.2.1, (p.2.2.1, p.2.2.2))) : Pan) = p from rfl, show ((least.1, least.2) : Int × Int) = least from rfl, v89 n p hf hp, he]
  simp only [Option.bind_some, hs, v80 n [_, _] (by simp [maxLen]) (by simp; omega)]
  have e0 : (firstErr [(0 : Int), 0] != 0) = false := rfl
  rw [e0]
  simp only [cond_false]
  rw [show ((p.1, p.2.1, p.2.2.1, p.2.2.2) : Pan) = p from rfl, v110 n hf p hg least]
  simp only [Option.bind_some]
  rw [v56_loop n hf p hg _ g1 g2]

end Go.Abs
