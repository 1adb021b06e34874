/- Panels: counts, marks, steadiness. -/
import Derived.Test.YtbcbiemjokpghaaNLawE
set_option linter.unusedSimpArgs false
set_option linter.unusedVariables false
namespace Go.Abs
open Go

/-- A list of numbers, by place. -/
def tab (M : Nat) (f : Nat → Nat) : List Int := (List.range M).map fun m => ((f m : Nat) : Int)
theorem tab_len (M : Nat) (f : Nat → Nat) : (tab M f).length = M := by simp [tab]
theorem tab_get {M : Nat} {f : Nat → Nat} {i : Nat} (h : i < M) : geti (tab M f) (i : Int) = some ((f i : Nat) : Int) := by
  rw [geti_nat]; simp [tab, h]
theorem tab_set {M : Nat} {f : Nat → Nat} {i v : Nat} (h : i < M) : seti (tab M f) (i : Int) (v : Int) = some (tab M fun m => if m = i then v else f m) := by
  rw [seti_nat _ _ _ (by rw [tab_len]; exact h)]
  congr 1
  apply List.ext_getElem
  · simp [tab]
  · intro j h1 h2
    simp only [tab, List.getElem_set, List.getElem_map, List.getElem_range]
    by_cases hj : i = j
    · subst hj; simp
    · rw [if_neg hj, if_neg (fun e => hj e.symm)]
theorem tab_ext {M : Nat} {f g : Nat → Nat} (h : ∀ m, m < M → f m = g m) : tab M f = tab M g := by
  unfold tab
  apply List.map_congr_left
  intro m hm
  rw [h m (by simpa using hm)]
theorem tab_zero (M : Nat) : List.replicate M (0 : Int) = tab M fun _ => 0 := by
  apply List.ext_getElem <;> simp [tab]

/-- How often a mark is given to a cask's glasses. -/
def cntZ (cask : Int) (m : Nat) : List Int → List Int → Nat
  | g :: gs, x :: xs => (if g = cask ∧ x = (m : Int) then 1 else 0) + cntZ cask m gs xs
  | _, _ => 0
theorem cntZ_le (cask : Int) (m : Nat) : (gs xs : List Int) → cntZ cask m gs xs ≤ gs.length
  | g :: gs, x :: xs => by
    have := cntZ_le cask m gs xs
    simp only [cntZ, List.length_cons]
    split <;> omega
  | [], _ => by simp [cntZ]
  | _ :: _, [] => by simp [cntZ]

/-- The taster's marks. -/
def tst (p : Pan) (t : Int) : List Int := p.2.2.2.getD t.toNat []
def cnt (p : Pan) (cask : Int) (ts : List Int) (m : Nat) : Nat := (ts.map fun t => cntZ cask m p.2.2.1 (tst p t)).sum

structure GoodP (p : Pan) : Prop where
  casks : 1 ≤ p.1 ∧ p.1 ≤ 30
  marks : 1 ≤ p.2.1 ∧ p.2.1 ≤ 6
  glasses : 0 < p.2.2.1.length ∧ p.2.2.1.length ≤ 1000
  tasters : 0 < p.2.2.2.length ∧ p.2.2.2.length ≤ 1000
  glass : ∀ g ∈ p.2.2.1, 0 ≤ g ∧ g < p.1
  each : ∀ l ∈ p.2.2.2, l.length = p.2.2.1.length ∧ ∀ k ∈ l, 0 ≤ k ∧ k < p.2.1

theorem tstErr_zero {p : Pan} {l : List Int} (h : tstErr p l = 0) : l.length = p.2.2.1.length ∧ ∀ k ∈ l, 0 ≤ k ∧ k < p.2.1 := by
  have := firstErr_zero.1 h
  simp only [List.mem_cons, List.not_mem_nil, or_false, forall_eq_or_imp, forall_eq, unl_zero (show (10 : Int) ≠ 0 by decide), unl_zero (show (6 : Int) ≠ 0 by decide), beq_iff_eq, Bool.not_eq_true'] at this
  obtain ⟨h2, h3⟩ := this
  refine ⟨by omega, fun k hk => ?_⟩
  have := any_false h3 k hk
  rw [Bool.not_eq_false', inR_iff] at this
  omega

theorem tstGo_all {p : Pan} : {l : List (List Int)} → {i : Nat} → (tstGo p i l).2 = 0 → ∀ t ∈ l, tstErr p t = 0
  | [], _, _ => by simp
  | c :: r, i, h => by
    simp only [tstGo] at h
    cases hc : (tstErr p c == 0)
    · rw [hc] at h
      simp only [cond_false] at h
      rw [h] at hc
      cases hc
    · rw [hc] at h
      simp only [cond_true] at h
      intro d hd
      rcases List.mem_cons.1 hd with rfl | hd
      · simpa using hc
      · exact tstGo_all h d hd

theorem panErr_good {p : Pan} (h : (panErr p).2 = 0) : GoodP p := by
  unfold panErr at h
  cases h1 : (panErr0 p == 0)
  · rw [h1] at h
    simp only [cond_false] at h
    rw [h] at h1
    cases h1
  · rw [h1] at h
    simp only [cond_true] at h
    have hs : panErr0 p = 0 := by simpa using h1
    have := firstErr_zero.1 hs
    simp only [List.mem_cons, List.not_mem_nil, or_false, forall_eq_or_imp, forall_eq, unl_zero (show (10 : Int) ≠ 0 by decide), unl_zero (show (8 : Int) ≠ 0 by decide), unl_zero (show (2 : Int) ≠ 0 by decide), unl_zero (show (6 : Int) ≠ 0 by decide), Bool.and_eq_true, decide_eq_true_eq, inR_iff, Bool.not_eq_true'] at this
    obtain ⟨⟨g1, g2⟩, ⟨g3, g4⟩, ⟨g5, g6⟩, g7⟩ := this
    refine ⟨g1, g2, ⟨g3, by omega⟩, ⟨g4, by omega⟩, fun g hg => ?_, fun l hl => tstErr_zero (tstGo_all h l hl)⟩
    have := any_false g7 g hg
    rw [Bool.not_eq_false', inR_iff] at this
    omega

theorem tst_get {p : Pan} {t : Int} (h : 0 ≤ t ∧ t < (p.2.2.2.length : Int)) : geti p.2.2.2 t = some (tst p t) ∧ tst p t ∈ p.2.2.2 := by
  have hg := geti_of h.1 h.2
  have : tst p t = p.2.2.2[t.toNat]'(by omega) := by
    unfold tst
    rw [List.getD_eq_getElem?_getD, List.getElem?_eq_getElem (by omega)]
    rfl
  rw [this]
  exact ⟨hg, List.getElem_mem _⟩

theorem v87_l0_0 (n : Nat) (hf : Fuel n) (p : Pan) (hp : GoodP p) (cask : Int) (a16 : List Int) (a17 a18 : Int) (l : List Int) (hl : l ∈ p.2.2.2) (f : Nat → Nat) (B : Nat) (hB : B ≤ 1000000) (hfB : ∀ m, f m ≤ B)
    (k0 : Int × List Int × Int × Int × Int × Int × List Int × List (List Int) × List Int × Unit → Option (List Int)) :
    loopG (s87_l0_0 n) n (cask, a16, a17, a18, l, (l.length : Int), (0 : Int), p.1, p.2.1, p.2.2.1, p.2.2.2, tab p.2.1.toNat f, ()) (k0, ()) =
      k0 (cask, a16, a17, a18, p.1, p.2.1, p.2.2.1, p.2.2.2, tab p.2.1.toNat (fun m => f m + cntZ cask m p.2.2.1 l), ()) := by
  have hlo := hf.lo
  obtain ⟨e1, e2⟩ := hp.each l hl
  have hg := hp.glasses
  have hlm : l.length ≤ maxLen := by unfold maxLen; omega
  have hn : l.length < n := by omega
  · refine (list_loop (A := Nat → Nat) l (fun i f => (cask, a16, a17, a18, l, (l.length : Int), (i : Int), p.1, p.2.1, p.2.2.1, p.2.2.2, tab p.2.1.toNat f, ()))
      (fun i f r => k0 (cask, a16, a17, a18, p.1, p.2.1, p.2.2.1, p.2.2.2, tab p.2.1.toNat (fun m => f m + cntZ cask m (p.2.2.1.drop i) r), ())) (fun i f => ∀ m, f m ≤ B + i) hlm ?_ ?_ f hfB hn)
    · intro i f x r hi hx hd hgx hlt hw hinv again ih
      have hgl : p.2.2.1[i]? = some p.2.2.1[i] := List.getElem?_eq_getElem (by omega)
      have hgg : geti p.2.2.1 (i : Int) = some p.2.2.1[i] := by rw [geti_nat, hgl]
      have hdg : p.2.2.1.drop i = p.2.2.1[i] :: p.2.2.1.drop (i + 1) := List.drop_eq_getElem_cons (by omega)
      have hxm := e2 x (List.mem_of_getElem? hx)
      obtain ⟨mx, rfl⟩ := Int.eq_ofNat_of_zero_le hxm.1
      have hmx : mx < p.2.1.toNat := by omega
      have hi1 : i < 1001 := by omega
      simp only [s87_l0_0, hlt, cond_true, hgx, hgg, Option.bind_some, hw]
      cases c : (p.2.2.1[i] == cask)
      · simp only [cond_false]
        rw [ih f (fun m => by have := hinv m; omega)]
        congr 6
        rw [hdg]
        have hne : ¬ p.2.2.1[i] = cask := by simpa using c
        have : tab p.2.1.toNat (fun m => f m + cntZ cask m (p.2.2.1.drop (i + 1)) r) = tab p.2.1.toNat (fun m => f m + cntZ cask m (p.2.2.1[i] :: p.2.2.1.drop (i + 1)) ((mx : Int) :: r)) := by
          refine tab_ext fun m _ => ?_
          simp [cntZ, hne]
        rw [this]
      · have he : p.2.2.1[i] = cask := by simpa using c
        simp only [cond_true]
        rw [tab_get hmx]
        simp only [Option.bind_some]
        have hfm := hinv mx
        have hwr : IntKind.wrap .i64 (((f mx : Nat) : Int) + 1) = ((f mx + 1 : Nat) : Int) := by rw [wrap_id] <;> omega
        rw [hwr, tab_set hmx]
        simp only [Option.bind_some]
        rw [ih (fun m => if m = mx then f mx + 1 else f m) (fun m => by have h1 := hinv m; have h2 := hinv mx; split <;> omega)]
        have : tab p.2.1.toNat (fun m => (if m = mx then f mx + 1 else f m) + cntZ cask m (p.2.2.1.drop (i + 1)) r) = tab p.2.1.toNat (fun m => f m + cntZ cask m (p.2.2.1.drop i) ((mx : Int) :: r)) := by
          refine tab_ext fun m _ => ?_
          rw [hdg]
          simp only [cntZ, he]
          by_cases hm : m = mx
          · subst hm; simp; omega
          · have : ¬ ((mx : Int) = (m : Int)) := by omega
            simp [hm, this]
        rw [this]
    · intro f hlt hinv again
      simp only [s87_l0_0, hlt, cond_false]
      have : tab p.2.1.toNat (fun m => f m + cntZ cask m (p.2.2.1.drop l.length) []) = tab p.2.1.toNat f := by
        refine tab_ext fun m _ => ?_
        cases p.2.2.1.drop l.length <;> simp [cntZ]
      rw [this]


def okTs (p : Pan) (ts : List Int) : Prop := ∀ t ∈ ts, 0 ≤ t ∧ t < (p.2.2.2.length : Int)

theorem v87 (n : Nat) (hf : Fuel n) (p : Pan) (hp : GoodP p) (cask : Int) (ts : List Int) (hts : okTs p ts) (hl : ts.length ≤ 1000) :
    s87 n p cask ts = some (tab p.2.1.toNat (cnt p cask ts)) := by
  have hlo := hf.lo
  have hm := hp.marks
  have hg := hp.glasses
  unfold s87
  rw [chki_ok (by omega) (by omega)]
  simp only [Option.bind_some]
  rw [tab_zero]
  refine (list_loop (A := Nat → Nat) ts (fun i f => (cask, ts, (ts.length : Int), (i : Int), p.1, p.2.1, p.2.2.1, p.2.2.2, tab p.2.1.toNat f, ()))
    (fun i f r => some (tab p.2.1.toNat (fun m => f m + cnt p cask r m))) (fun i f => ∀ m, f m ≤ i * 1000) (by unfold maxLen; omega) ?_ ?_ (fun _ => 0) (by simp) (by omega)).trans ?_
  · intro i f x r hi hx hd hgx hlt hw hinv again ih
    obtain ⟨h1, h2⟩ := tst_get (hts x (List.mem_of_getElem? hx))
    simp only [s87_l0, hlt, cond_true, hgx, h1, Option.bind_some]
    rw [v87_l0_0 n hf p hp cask ts (ts.length : Int) (i : Int) (tst p x) h2 f (i * 1000) (by omega) hinv]
    simp only [hw]
    rw [ih (fun m => f m + cntZ cask m p.2.2.1 (tst p x)) (fun m => by have := hinv m; have := cntZ_le cask m p.2.2.1 (tst p x); omega)]
    simp only [cnt, List.map_cons, List.sum_cons, Nat.add_assoc]
  · intro f hlt hinv again
    simp only [s87_l0, hlt, cond_false, cnt, List.map_nil, List.sum_nil, Nat.add_zero]
  · simp

/-- The greatest. -/
def maxL : List Int → Int
  | [] => 0
  | x :: r => r.foldl imax x

theorem v126 (n : Nat) (l : List Int) (hl : l.length ≤ maxLen) (hn : l.length < n) (hne : 0 < l.length) : s126 n l = some (maxL l) := by
  unfold s126
  cases l with
  | nil => simp at hne
  | cons a r =>
    have h1 : decide (((List.length (a :: r) : Nat) : Int) < (1 : Int)) = false := by simp; omega
    simp only [h1, cond_false]
    rw [show geti (a :: r) (0 : Int) = some a from rfl]
    simp only [Option.bind_some]
    simp only [List.length_cons] at hl hn
    have key := list_loop (body := s126_l0 n) (ks := ((fun (m_1, _) => some (m_1) : Int × Unit → Option Int), ())) (n := n) (A := Int) r (fun i m => (a :: r, m, ((i + 1 : Nat) : Int), ())) (fun i m s => some (s.foldl imax m)) (fun _ _ => True) (by omega) ?_ ?_ a trivial (by omega)
    · exact key
    · intro i m x s hi hx hd hg hlt hw _ again ih
      have hlt' : decide (((i + 1 : Nat) : Int) < ((List.length (a :: r) : Nat) : Int)) = true := by simp; omega
      have hg' : geti (a :: r) ((i + 1 : Nat) : Int) = some x := by rw [geti_nat]; simpa using hx
      have hw' : IntKind.wrap .i64 (((i + 1 : Nat) : Int) + 1) = ((i + 1 + 1 : Nat) : Int) := by unfold maxLen at hl; rw [wrap_id] <;> omega
      simp only [s126_l0, hlt', cond_true, hg', Option.bind_some, hw', List.foldl_cons]
      exact ih _ trivial
    · intro m hlt _ again
      have hlt' : decide (((r.length + 1 : Nat) : Int) < ((List.length (a :: r) : Nat) : Int)) = false := by simp
      simp only [s126_l0, hlt', cond_false, List.foldl_nil]

def markOf (l : List Int) : Int :=
  bif (maxL l == 0) || ((l.drop (idxF (fun x => maxL l == x) 0 l + 1).toNat).any fun x => maxL l == x) then -1 else idxF (fun x => maxL l == x) 0 l

theorem idxF_bounds {α : Type} (p : α → Bool) : (l : List α) → (i : Nat) → idxF p i l = -1 ∨ ((i : Int) ≤ idxF p i l ∧ idxF p i l < (i : Int) + l.length)
  | [], i => .inl rfl
  | x :: r, i => by
    simp only [idxF]
    cases p x
    · simp only [cond_false]
      rcases idxF_bounds p r (i + 1) with h | h
      · exact .inl h
      · right; simp only [List.length_cons]; omega
    · simp only [cond_true, List.length_cons]; omega

theorem imax_mem (a b : Int) : imax a b = a ∨ imax a b = b := by unfold imax; split <;> simp

theorem foldl_imax_mem : (l : List Int) → (a : Int) → l.foldl imax a = a ∨ l.foldl imax a ∈ l
  | [], a => .inl rfl
  | x :: r, a => by
    rw [List.foldl_cons]
    rcases foldl_imax_mem r (imax a x) with h | h
    · rcases imax_mem a x with g | g
      · left; rw [h, g]
      · right; rw [h, g]; exact List.mem_cons_self ..
    · right; exact List.mem_cons_of_mem _ h
theorem maxL_mem {l : List Int} (h : 0 < l.length) : maxL l ∈ l := by
  cases l with
  | nil => simp at h
  | cons a r =>
    rcases foldl_imax_mem r a with g | g
    · simp only [maxL, g]; exact List.mem_cons_self ..
    · exact List.mem_cons_of_mem _ g

theorem idxF_found {α : Type} {p : α → Bool} {l : List α} {i : Nat} (h : l.any p = true) : (i : Int) ≤ idxF p i l ∧ idxF p i l < (i : Int) + l.length := by
  have := idxF_any p l i
  rw [h, decide_eq_true_eq] at this
  rcases idxF_bounds p l i with h | h
  · omega
  · exact h

theorem mark_idx {l : List Int} (h : 0 < l.length) : 0 ≤ idxF (fun x => maxL l == x) 0 l ∧ idxF (fun x => maxL l == x) 0 l < l.length := by
  have := idxF_found (p := fun x => maxL l == x) (l := l) (i := 0) (List.any_eq_true.2 ⟨maxL l, maxL_mem h, by simp⟩)
  omega

theorem v88 (n : Nat) (hf : Fuel n) (p : Pan) (hp : GoodP p) (cask : Int) (ts : List Int) (hts : okTs p ts) (hl : ts.length ≤ 1000) :
    s88 n p cask ts = some (markOf (tab p.2.1.toNat (cnt p cask ts))) := by
  have hlo := hf.lo
  have hm := hp.marks
  unfold s88
  rw [show ((p.1, (p.2.1, (p.2.2.1, p.2.2.2))) : Pan) = p from rfl, v87 n hf p hp cask ts hts hl]
  simp only [Option.bind_some]
  generalize hL : tab p.2.1.toNat (cnt p cask ts) = l
  have hlen : l.length = p.2.1.toNat := by rw [← hL, tab_len]
  have h1 : 0 < l.length := by omega
  have h2 : l.length ≤ maxLen := by unfold maxLen; omega
  rw [v126 n l h2 (by omega) h1, Option.bind_some, v127 n l _ h2 (by omega)]
  simp only [Option.bind_some]
  have hi := mark_idx h1
  unfold markOf
  generalize maxL l = mx at *
  generalize hix : idxF (fun x => mx == x) 0 l = ix at *
  cases c : (mx == 0)
  · obtain ⟨j, rfl⟩ := Int.eq_ofNat_of_zero_le hi.1
    have hw : IntKind.wrap .i64 ((j : Int) + 1) = ((j + 1 : Nat) : Int) := by rw [wrap_id] <;> omega
    rw [hw, cut_nat _ _ _ (by omega) (Nat.le_refl _)]
    simp only [Bool.not_false, part_true, Option.bind_some, List.take_length]
    rw [v128 n _ _ (by simp; omega) (by simp; omega)]
    simp only [Option.bind_some, Bool.false_or]
    rw [show (((j : Nat) : Int) + 1).toNat = j + 1 from by omega]
    cases c2 : ((l.drop (j + 1)).any fun x => mx == x) <;> rfl
  · rfl

theorem v124 (n : Nat) (p : Pan) (x : Int) (hp : GoodP p) : s124 n p x = some (unl (inR x 0 (p.1 - 1)) 6) := by
  have := hp.casks
  unfold s124
  rw [v82, Option.bind_some, v81, wrap_id (by omega) (by omega)]
  rfl
theorem v90 (n : Nat) (p : Pan) (x : Int) (hl : p.2.2.2.length ≤ 1000) : s90 n p x = some (unl (inR x 0 ((p.2.2.2.length : Int) - 1)) 6) := by
  unfold s90
  rw [v82, Option.bind_some, v81, wrap_id (by omega) (by omega)]
  rfl

end Go.Abs
