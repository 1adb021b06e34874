/- Counts, glass by glass; the reference's marks. -/
import Derived.Test.YtbcbiemjokpghaaNLawM
set_option linter.unusedSimpArgs false
set_option linter.unusedVariables false
namespace Go.Abs
open Go

def oneAt (p : Pan) (cask : Int) (m i : Nat) (t : Int) : Nat := if p.2.2.1.getD i 0 = cask ∧ (tst p t).getD i 0 = (m : Int) then 1 else 0

theorem cntZ_range (cask : Int) (m : Nat) : (gs xs : List Int) → gs.length = xs.length → cntZ cask m gs xs = ((List.range gs.length).map fun i => if gs.getD i 0 = cask ∧ xs.getD i 0 = (m : Int) then 1 else 0).sum
  | [], [], _ => rfl
  | [], _ :: _, h => by simp at h
  | _ :: _, [], h => by simp at h
  | g :: gs, x :: xs, h => by
    have ih := cntZ_range cask m gs xs (by simpa using h)
    rw [List.length_cons, List.range_succ_eq_map, List.map_cons, List.map_map, List.sum_cons, cntZ, ih]
    rfl

theorem sum_add_map {α : Type} (f g : α → Nat) : (l : List α) → (l.map fun i => f i + g i).sum = (l.map f).sum + (l.map g).sum
  | [] => rfl
  | x :: l => by simp only [List.map_cons, List.sum_cons, sum_add_map f g l]; omega

theorem sum_zero_map {α : Type} : (l : List α) → (l.map fun _ => (0 : Nat)).sum = 0
  | [] => rfl
  | x :: l => by simp [sum_zero_map l]

theorem sum_swap {α β : Type} (F : α → β → Nat) (r : List β) : (l : List α) → (l.map fun t => (r.map (F t)).sum).sum = (r.map fun i => (l.map fun t => F t i).sum).sum
  | [] => by simp only [List.map_nil, List.sum_nil, sum_zero_map]
  | t :: l => by simp only [List.map_cons, List.sum_cons, sum_swap F r l, sum_add_map]

/-- What the first glasses give. -/
def cum (p : Pan) (cask : Int) (ts : List Int) (i m : Nat) : Nat := ((List.range i).map fun j => (ts.map (oneAt p cask m j)).sum).sum

theorem cum_all (p : Pan) (hp : GoodP p) (cask : Int) (ts : List Int) (hts : okTs p ts) (m : Nat) : cum p cask ts p.2.2.1.length m = cnt p cask ts m := by
  unfold cum cnt
  rw [← sum_swap (fun t i => oneAt p cask m i t)]
  congr 1
  apply List.map_congr_left
  intro t ht
  have h := hts t ht
  have e := (hp.each _ (tst_get h).2).1
  rw [cntZ_range cask m p.2.2.1 (tst p t) e.symm]
  rfl

theorem sum_le_map {α : Type} (f : α → Nat) (B : Nat) (h : ∀ x, f x ≤ B) : (l : List α) → (l.map f).sum ≤ l.length * B
  | [] => by simp
  | x :: l => by
    have := sum_le_map f B h l
    have := h x
    rw [List.map_cons, List.sum_cons, List.length_cons, Nat.succ_mul]
    omega

theorem oneAt_le (p : Pan) (cask : Int) (m i : Nat) (t : Int) : oneAt p cask m i t ≤ 1 := by unfold oneAt; split <;> omega

theorem cum_le (p : Pan) (cask : Int) (ts : List Int) (hl : ts.length ≤ 1000) (i m : Nat) : cum p cask ts i m ≤ i * 1000 := by
  unfold cum
  have := sum_le_map (fun j => (ts.map (oneAt p cask m j)).sum) 1000 (fun j => by
    have := sum_le_map (oneAt p cask m j) 1 (oneAt_le p cask m j) ts
    omega) (List.range i)
  simpa using this

theorem v33_l0_0 (n : Nat) (hf : Fuel n) (p : Pan) (hp : GoodP p) (cask : Int) (ts : List Int) (hts : okTs p ts) (hl : ts.length ≤ 1000) (i : Nat) (hi : i < p.2.2.1.length) (hgc : p.2.2.1.getD i 0 = cask) (f : Nat → Nat) (hfb : ∀ m, f m ≤ 1000000)
    (k0 : Int × List Int × Int × Int × Int × List Int × List (List Int) × List Int × Unit → Option (List Int)) :
    loopG (s33_l0_0 n) n (cask, ts, (i : Int), (0 : Int), p.1, p.2.1, p.2.2.1, p.2.2.2, tab p.2.1.toNat f, ()) (k0, ()) =
      k0 (cask, ts, (i : Int), p.1, p.2.1, p.2.2.1, p.2.2.2, tab p.2.1.toNat (fun m => f m + (ts.map (oneAt p cask m i)).sum), ()) := by
  have hlo := hf.lo
  have hgi : geti p.2.2.1 (i : Int) = some cask := by
    rw [geti_nat, List.getElem?_eq_getElem hi]
    rw [List.getD_eq_getElem?_getD, List.getElem?_eq_getElem hi] at hgc
    exact congrArg some hgc
  have hM := hp.marks
  refine (list_loop (A := Nat → Nat) ts (fun k f => (cask, ts, (i : Int), (k : Int), p.1, p.2.1, p.2.2.1, p.2.2.2, tab p.2.1.toNat f, ()))
    (fun k f r => k0 (cask, ts, (i : Int), p.1, p.2.1, p.2.2.1, p.2.2.2, tab p.2.1.toNat (fun m => f m + (r.map (oneAt p cask m i)).sum), ())) (fun k f => ∀ m, f m ≤ 1000000 + k) (by unfold maxLen; omega) ?_ ?_ f (by simpa using hfb) (by omega))
  · intro k f t r hk hx hd hg hlt hw hinv again ih
    have ht := hts t (List.mem_of_getElem? hx)
    obtain ⟨a1, a2⟩ := tst_get ht
    obtain ⟨e1, e2⟩ := hp.each _ a2
    have hil : i < (tst p t).length := by omega
    have hgl : geti (tst p t) (i : Int) = some (tst p t)[i] := by rw [geti_nat, List.getElem?_eq_getElem hil]
    have hr := e2 (tst p t)[i] (List.getElem_mem _)
    obtain ⟨m0, hm0⟩ : ∃ m0 : Nat, (tst p t)[i] = (m0 : Int) := ⟨((tst p t)[i]).toNat, by omega⟩
    rw [hm0] at hgl hr
    have hm0l : m0 < p.2.1.toNat := by omega
    have hfm := hinv m0
    have hwc : IntKind.wrap .i64 (((f m0 : Nat) : Int) + 1) = ((f m0 + 1 : Nat) : Int) := by rw [wrap_id] <;> omega
    simp only [s33_l0_0, hlt, part_true, hgi, Option.bind_some, beq_self_eq_true, Bool.and_self, cond_true, hg, a1, hgl, tab_get hm0l, hwc, tab_set hm0l, hw]
    rw [ih (fun m => if m = m0 then f m0 + 1 else f m) (fun m => by have := hinv m; split <;> omega)]
    congr 1
    have : tab p.2.1.toNat (fun m => (if m = m0 then f m0 + 1 else f m) + (r.map (oneAt p cask m i)).sum) = tab p.2.1.toNat (fun m => f m + ((t :: r).map (oneAt p cask m i)).sum) := by
      refine tab_ext fun m _ => ?_
      rw [List.map_cons, List.sum_cons]
      have hd : (tst p t).getD i 0 = (m0 : Int) := by rw [List.getD_eq_getElem?_getD, List.getElem?_eq_getElem hil, Option.getD_some, hm0]
      unfold oneAt
      rw [hgc, hd]
      by_cases hmm : m = m0
      · subst hmm; simp; omega
      · have : ¬ ((m0 : Int) = (m : Int)) := by omega
        simp [hmm, this]
    rw [this]
  · intro f hlt hinv again
    simp only [s33_l0_0, hlt, part_no, Option.bind_some, Bool.false_and, cond_false, List.map_nil, List.sum_nil, Nat.add_zero]

theorem v33_skip (n : Nat) (hf : Fuel n) (p : Pan) (cask : Int) (ts : List Int) (i : Nat) (hi : i < p.2.2.1.length) (hgc : ¬ p.2.2.1.getD i 0 = cask) (out : List Int)
    (k0 : Int × List Int × Int × Int × Int × List Int × List (List Int) × List Int × Unit → Option (List Int)) :
    loopG (s33_l0_0 n) n (cask, ts, (i : Int), (0 : Int), p.1, p.2.1, p.2.2.1, p.2.2.2, out, ()) (k0, ()) = k0 (cask, ts, (i : Int), p.1, p.2.1, p.2.2.1, p.2.2.2, out, ()) := by
  have hlo := hf.lo
  obtain ⟨n', rfl⟩ : ∃ n', n = n' + 1 := ⟨n - 1, by omega⟩
  have hgi : geti p.2.2.1 (i : Int) = some (p.2.2.1[i]) := by rw [geti_nat, List.getElem?_eq_getElem hi]
  have hne : (p.2.2.1[i] == cask) = false := by
    rw [List.getD_eq_getElem?_getD, List.getElem?_eq_getElem hi] at hgc
    simpa using hgc
  rw [loopG]
  cases hc : decide ((0 : Int) < ((List.length ts : Nat) : Int))
  · simp only [s33_l0_0, hc, part_no, Option.bind_some, Bool.false_and, cond_false]
  · simp only [s33_l0_0, hc, part_true, hgi, Option.bind_some, hne, Bool.and_false, cond_false]

theorem cum_succ (p : Pan) (cask : Int) (ts : List Int) (i m : Nat) : cum p cask ts (i + 1) m = cum p cask ts i m + (ts.map (oneAt p cask m i)).sum := by
  unfold cum
  rw [List.range_succ, List.map_append, List.sum_append]
  simp

theorem v33 (n : Nat) (hf : Fuel n) (p : Pan) (hp : GoodP p) (cask : Int) (ts : List Int) (hts : okTs p ts) (hl : ts.length ≤ 1000) : s33 n p cask ts = some (tab p.2.1.toNat (cnt p cask ts)) := by
  have hlo := hf.lo
  have hM := hp.marks
  have hG := hp.glasses
  unfold s33
  rw [chki_ok (by omega) (by omega), Option.bind_some, tab_zero]
  refine (count_loop (A := Unit) p.2.2.1.length (fun i _ => (cask, ts, (i : Int), p.1, p.2.1, p.2.2.1, p.2.2.2, tab p.2.1.toNat (cum p cask ts i), ())) (fun i _ => some (tab p.2.1.toNat (cnt p cask ts))) (fun _ _ => True) (by unfold maxLen; omega) ?_ ?_ () trivial (by omega))
  · intro i _ hi hlt hw _ again ih
    simp only [s33_l0, hlt, cond_true]
    by_cases hgc : p.2.2.1.getD i 0 = cask
    · rw [v33_l0_0 n hf p hp cask ts hts hl i hi hgc _ (fun m => by have := cum_le p cask ts hl i m; omega)]
      simp only [hw]
      have e : tab p.2.1.toNat (fun m => cum p cask ts i m + (ts.map (oneAt p cask m i)).sum) = tab p.2.1.toNat (cum p cask ts (i + 1)) := tab_ext fun m _ => (cum_succ p cask ts i m).symm
      rw [e]
      exact ih () trivial
    · rw [v33_skip n hf p cask ts i hi hgc]
      simp only [hw]
      have e : tab p.2.1.toNat (cum p cask ts i) = tab p.2.1.toNat (cum p cask ts (i + 1)) := tab_ext fun m _ => by
        rw [cum_succ]
        have : (oneAt p cask m i) = fun _ => 0 := by
          funext t
          unfold oneAt
          rw [if_neg fun h => hgc h.1]
        rw [this, sum_zero_map, Nat.add_zero]
      rw [e]
      exact ih () trivial
  · intro _ hlt _ again
    simp only [s33_l0, hlt, cond_false]
    have e : tab p.2.1.toNat (cum p cask ts p.2.2.1.length) = tab p.2.1.toNat (cnt p cask ts) := tab_ext fun m _ => cum_all p hp cask ts hts m
    rw [e]

end Go.Abs
