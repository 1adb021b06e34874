/- Rule books, on: small ones, copies, the functions of the program. -/
import Derived.Test.YtbcbiemjokpghaaNLawC
set_option linter.unusedSimpArgs false
set_option linter.unusedVariables false
namespace Go.Abs
open Go

def fewC (c : Cls) : Bool := !((!decide (c.1.length ≤ 20) || !decide (c.2.1.length ≤ 8)) || !decide (c.2.2.length ≤ 8)) && !(c.2.2.any fun s => !decide (s.length ≤ 20))
def fewB (b : Book) : Bool :=
  bif !decide (b.1.length ≤ 8) || !decide (b.2.2.length ≤ 10) then false
  else !(b.1.any fun s => !decide (s.length ≤ 20)) && !(b.2.2.any fun c => !fewC c)

theorem v16_l0 (n : Nat) (hf : Fuel n) (l : List Txt) (b1 : Int) (b2 : List Cls) (h1 : Lt n l)
    (k0 : List Txt × Int × List Cls × Unit → Option Bool) (k1 : Bool × Unit → Option Bool) :
    loopG (s16_l0 n) n ((0 : Int), l, b1, b2, ()) (k0, k1, ()) =
      bif (l.any fun s => !decide (s.length ≤ 20)) then k1 (false, ()) else k0 (l, b1, b2, ()) := by
  refine (list_loop0 l (fun i => ((i : Int), l, b1, b2, ())) (fun i r => bif (r.any fun s => !decide (s.length ≤ 20)) then k1 (false, ()) else k0 (l, b1, b2, ())) (hf.le h1) ?_ ?_ h1)
  · intro i x r hi hx hd hg hlt hw again ih
    have a1 : decide (((List.length x : Nat) : Int) > (20 : Int)) = !decide (x.length ≤ 20) := dec_gt x 20
    simp only [s16_l0, hlt, cond_true, hg, Option.bind_some, hw, ih, a1, List.any_cons]
    cases h : decide (x.length ≤ 20) <;> rfl
  · intro hlt again
    simp only [s16_l0, hlt, cond_false]
    rfl

theorem v16_l1_0 (n : Nat) (hf : Fuel n) (i : Int) (l : List Txt) (b1 : Int) (b2 : List Cls) (c : Cls) (h1 : Lt n c.2.2)
    (k0 : Int × List Txt × Int × List Cls × Unit → Option Bool) (k1 : Bool × Unit → Option Bool) :
    loopG (s16_l1_0 n) n (i, (0 : Int), l, b1, b2, c.1, c.2.1, c.2.2, ()) (k0, k1, ()) =
      bif (c.2.2.any fun s => !decide (s.length ≤ 20)) then k1 (false, ()) else k0 (i, l, b1, b2, ()) := by
  refine (list_loop0 c.2.2 (fun k => (i, (k : Int), l, b1, b2, c.1, c.2.1, c.2.2, ())) (fun _ r => bif (r.any fun s => !decide (s.length ≤ 20)) then k1 (false, ()) else k0 (i, l, b1, b2, ())) (hf.le h1) ?_ ?_ h1)
  · intro k x r hi hx hd hg hlt hw again ih
    have a1 : decide (((List.length x : Nat) : Int) > (20 : Int)) = !decide (x.length ≤ 20) := dec_gt x 20
    simp only [s16_l1_0, hlt, cond_true, hg, Option.bind_some, hw, ih, a1, List.any_cons]
    cases h : decide (x.length ≤ 20) <;> rfl
  · intro hlt again
    simp only [s16_l1_0, hlt, cond_false]
    rfl

theorem v16_l1 (n : Nat) (hf : Fuel n) (l : List Txt) (b1 : Int) (cs : List Cls) (h1 : Lt n cs)
    (k0 : Unit → Option Bool) (k1 : Bool × Unit → Option Bool) :
    loopG (s16_l1 n) n ((0 : Int), l, b1, cs, ()) (k0, k1, ()) =
      bif (cs.any fun c => !fewC c) then k1 (false, ()) else k0 () := by
  have hlo := hf.lo
  refine (list_loop0 cs (fun k => ((k : Int), l, b1, cs, ())) (fun _ r => bif (r.any fun c => !fewC c) then k1 (false, ()) else k0 ()) (hf.le h1) ?_ ?_ h1)
  · intro k x r hi hx hd hg hlt hw again ih
    have a1 : decide (((List.length x.1 : Nat) : Int) > (20 : Int)) = !decide (x.1.length ≤ 20) := dec_gt x.1 20
    have a2 : decide (((List.length x.2.1 : Nat) : Int) > (8 : Int)) = !decide (x.2.1.length ≤ 8) := dec_gt x.2.1 8
    have a3 : decide (((List.length x.2.2 : Nat) : Int) > (8 : Int)) = !decide (x.2.2.length ≤ 8) := dec_gt x.2.2 8
    simp only [s16_l1, hlt, cond_true, hg, Option.bind_some, hw, ih, a1, a2, a3, List.any_cons, fewC]
    cases h : ((!decide (x.1.length ≤ 20) || !decide (x.2.1.length ≤ 8)) || !decide (x.2.2.length ≤ 8))
    · have h3 : x.2.2.length ≤ 8 := by
        simp only [Bool.or_eq_false_iff, Bool.not_eq_false', decide_eq_true_eq] at h
        exact h.2
      simp only [cond_false]
      rw [v16_l1_0 n hf k l b1 cs x (by unfold Lt; omega), hw, ih]
      cases h4 : x.2.2.any fun s => !decide (s.length ≤ 20) <;> rfl
    · rfl
  · intro hlt again
    simp only [s16_l1, hlt, cond_false]
    rfl

theorem v16 (n : Nat) (b : Book) (hf : Fuel n) : s16 n b = some (fewB b) := by
  have hlo := hf.lo
  unfold s16 fewB
  have a1 : decide (((List.length b.1 : Nat) : Int) > (8 : Int)) = !decide (b.1.length ≤ 8) := dec_gt b.1 8
  have a2 : decide (((List.length b.2.2 : Nat) : Int) > (10 : Int)) = !decide (b.2.2.length ≤ 10) := dec_gt b.2.2 10
  rw [a1, a2]
  cases h : (!decide (b.1.length ≤ 8) || !decide (b.2.2.length ≤ 10))
  · simp only [Bool.or_eq_false_iff, Bool.not_eq_false', decide_eq_true_eq] at h
    simp only [cond_false]
    rw [v16_l0 n hf b.1 _ _ (by unfold Lt; omega)]
    simp only [v16_l1 n hf b.1 b.2.1 b.2.2 (by unfold Lt; omega)]
    cases h1 : b.1.any fun s => !decide (s.length ≤ 20)
    · cases h2 : b.2.2.any fun c => !fewC c <;> rfl
    · rfl
  · rfl

theorem any_false {α : Type} {l : List α} {p : α → Bool} (h : l.any p = false) : ∀ x ∈ l, p x = false := by
  intro x hx
  exact Bool.eq_false_iff.2 fun he => by
    rw [List.any_eq_true.2 ⟨x, hx, he⟩] at h
    cases h

/-- A small one fits. -/
theorem few_fit {b : Book} (h : fewB b = true) {n : Nat} (hf : Fuel n) : fitB n b ∧ b.1.length ≤ 8 ∧ b.2.2.length ≤ 10 := by
  have hlo := hf.lo
  unfold fewB at h
  cases h1 : (!decide (b.1.length ≤ 8) || !decide (b.2.2.length ≤ 10))
  · rw [h1] at h
    simp only [cond_false, Bool.and_eq_true, Bool.not_eq_true'] at h
    simp only [Bool.or_eq_false_iff, Bool.not_eq_false', decide_eq_true_eq] at h1
    refine ⟨⟨by unfold Lt; omega, fun s hs => ?_, by unfold Lt; omega, fun c hc => ?_⟩, h1⟩
    · have := any_false h.1 s hs
      simp only [Bool.not_eq_false', decide_eq_true_eq] at this
      unfold Lt; omega
    · have := any_false h.2 c hc
      simp only [Bool.not_eq_false', fewC, Bool.and_eq_true, Bool.not_eq_true', Bool.or_eq_false_iff, decide_eq_true_eq] at this
      obtain ⟨⟨⟨g1, g2⟩, g3⟩, g4⟩ := this
      refine ⟨by unfold Lt; omega, by unfold Lt; omega, by unfold Lt; omega, fun s hs => ?_⟩
      have := any_false g4 s hs
      simp only [Bool.not_eq_false', decide_eq_true_eq] at this
      unfold Lt; omega
  · rw [h1] at h
    cases h

/-! Copies. -/
theorem v27 (n : Nat) (l : List Int) (hf : Fuel n) (h : Lt n l) : s27 n l = some l := by
  have := hf.hi
  unfold s27
  rw [chk_ok (by unfold Lt at h; simp; omega)]
  rfl
theorem v84 (n : Nat) (l : List Txt) (hf : Fuel n) (h : Lt n l) : s84 n l = some l := by
  have := hf.hi
  unfold s84
  rw [chk_ok (by unfold Lt at h; simp; omega)]
  rfl

theorem v21 (n : Nat) (b : Book) (hf : Fuel n) (hb : fitB n b) : s21 n b = some b := by
  have hhi := hf.hi
  obtain ⟨h1, h2, h3, h4⟩ := hb
  unfold s21
  rw [v84 n b.1 hf h1, Option.bind_some]
  refine (list_loop (A := List Cls) b.2.2 (fun i acc => ((i : Int), b.1, b.2.1, b.2.2, (0 : Int), b.1, b.2.1, acc, ())) (fun i acc r => some (b.1, b.2.1, acc ++ r)) (fun i acc => acc.length = i) (hf.le h3) ?_ ?_ [] rfl h3).trans ?_
  · intro i acc x r hi hx hd hg hlt hw hinv again ih
    obtain ⟨g1, g2, g3, g4⟩ := h4 x (List.mem_of_getElem? hx)
    have hch : chk (acc.length + ([(x.1, (x.2.1, x.2.2))] : List Cls).length) = some () := chk_ok (by unfold Lt at *; simp; omega)
    simp only [s21_l0, hlt, cond_true, hg, Option.bind_some, hw, v27 n _ hf g2, v84 n _ hf g3, hch]
    rw [ih (acc ++ [x]) (by simp [hinv])]
    simp
  · intro acc hlt hinv again
    simp only [s21_l0, hlt, cond_false, List.append_nil]
  · rfl

/-! The class of a sheet, the walk of marks. -/
def lastI (l : List Int) : Int := l.getLastD 0

theorem geti_last {l : List Int} {n : Nat} (hf : Fuel n) (h1 : Lt n l) (hne : l ≠ []) : geti l (IntKind.wrap .i64 ((l.length : Int) - 1)) = some (lastI l) := by
  have hpos : 0 < l.length := List.length_pos_iff.2 hne
  rw [cast_pred hpos (hf.le h1), geti_nat]
  unfold lastI
  rw [List.getLastD_eq_getLast?, List.getLast?_eq_getElem?, List.getElem?_eq_getElem (by omega)]
  rfl

theorem v41_ok (n : Nat) (b : Book) (s : Txt × List Int) (w : List Int) (c : Cls) (hf : Fuel n) (hb : fitB n b) (h1 : Lt n s.1) (h2 : s.2.length + 1 < n)
    (he : (bookErr b).2 = 0) (hs : sheetErr b s = 0) (hw : walkO b.2.2 b.2.1 s.2 = some w) (hc : geti b.2.2 (lastI w) = some c) : s41 n b s = some (c.1, 0) := by
  have hl : Lt n s.2 := by unfold Lt; omega
  obtain ⟨r, hr, hlen⟩ := walkO_ne hw
  unfold s41
  rw [show ((b.1, (b.2.1, b.2.2)) : Book) = b from rfl, show ((s.1, s.2) : Txt × List Int) = s from rfl, v104 n b s hf hb h1 hl, he]
  simp only [Option.bind_some, hs, bne, beq_self_eq_true, cond_true, Bool.not_true, cond_false]
  rw [show ((b.1, b.2.1, b.2.2) : Book) = b from rfl, v100 n b s.2 w hf h2 hw]
  simp only [Option.bind_some]
  rw [geti_last hf (by rw [hr]; unfold Lt; simp; omega) (by rw [hr]; simp), Option.bind_some, hc]
  rfl

theorem v41_bad (n : Nat) (b : Book) (s : Txt × List Int) (hf : Fuel n) (hb : fitB n b) (h1 : Lt n s.1) (h2 : Lt n s.2)
    (he : ((bif (bookErr b).2 == 0 then sheetErr b s else (bookErr b).2) == 0) = false) : s41 n b s = some ([], bif (bookErr b).2 == 0 then sheetErr b s else (bookErr b).2) := by
  unfold s41
  rw [show ((b.1, (b.2.1, b.2.2)) : Book) = b from rfl, show ((s.1, s.2) : Txt × List Int) = s from rfl, v104 n b s hf hb h1 h2]
  simp only [Option.bind_some, bne, he, Bool.not_false, cond_true]

theorem v38_ok (n : Nat) (b : Book) (l : List Int) (w : List Int) (hf : Fuel n) (hb : fitB n b) (h2 : l.length + 1 < n)
    (he : (bookErr b).2 = 0) (hs : marksErr b l = 0) (hw : walkO b.2.2 b.2.1 l = some w) : s38 n b l = some (w, 0) := by
  have hl : Lt n l := by unfold Lt; omega
  unfold s38
  rw [show ((b.1, (b.2.1, b.2.2)) : Book) = b from rfl, v79 n b hf hb, he]
  simp only [Option.bind_some, bne, beq_self_eq_true, Bool.not_true, cond_false]
  rw [show ((b.1, b.2.1, b.2.2) : Book) = b from rfl, v99 n b l hf hb.1 hl, hs]
  simp only [Option.bind_some, bne, beq_self_eq_true, Bool.not_true, cond_false]
  rw [v100 n b l w hf h2 hw]
  rfl

theorem v38_bad (n : Nat) (b : Book) (l : List Int) (hf : Fuel n) (hb : fitB n b) (h2 : Lt n l)
    (he : ((bif (bookErr b).2 == 0 then marksErr b l else (bookErr b).2) == 0) = false) : s38 n b l = some ([], bif (bookErr b).2 == 0 then marksErr b l else (bookErr b).2) := by
  unfold s38
  rw [show ((b.1, (b.2.1, b.2.2)) : Book) = b from rfl, v79 n b hf hb]
  simp only [Option.bind_some, bne]
  cases h : ((bookErr b).2 == 0)
  · rfl
  · rw [h] at he
    simp only [cond_true] at he
    simp only [Bool.not_true, cond_false, cond_true]
    rw [show ((b.1, b.2.1, b.2.2) : Book) = b from rfl, v99 n b l hf hb.1 h2]
    simp only [Option.bind_some, bne, he, Bool.not_false, cond_true]

/-! What it means that there is no error. -/
theorem firstErr_zero : {l : List Int} → firstErr l = 0 ↔ ∀ e ∈ l, e = 0
  | [] => by simp [firstErr]
  | e :: r => by
    simp only [firstErr]
    cases h : (e == 0)
    · have : e ≠ 0 := by simpa using h
      simp [this]
    · have : e = 0 := by simpa using h
      simp [this, firstErr_zero (l := r)]

theorem unl_zero {b : Bool} {e : Int} (he : e ≠ 0) : unl b e = 0 ↔ b = true := by
  cases b <;> simp [unl, he]

theorem inR_iff {x lo hi : Int} : inR x lo hi = true ↔ lo ≤ x ∧ x ≤ hi := by simp [inR]

theorem clsErr_zero {nm nc : Int} {pre : List Txt} {c : Cls} (h : clsErr nm nc pre c = 0) : (c.2.1.length : Int) = nm ∧ (c.2.2.length : Int) = nm ∧ (∀ k ∈ c.2.1, 0 ≤ k ∧ k < nc) := by
  have := firstErr_zero.1 h
  simp only [List.mem_cons, List.not_mem_nil, or_false, forall_eq_or_imp, forall_eq, unl_zero (show (10 : Int) ≠ 0 by decide), unl_zero (show (6 : Int) ≠ 0 by decide)] at this
  obtain ⟨_, h2, h3, _⟩ := this
  simp only [Bool.and_eq_true, beq_iff_eq] at h2
  refine ⟨h2.1, h2.2, fun k hk => ?_⟩
  rw [Bool.not_eq_true'] at h3
  have := any_false h3 k hk
  rw [Bool.not_eq_false', inR_iff] at this
  omega

theorem clsGo_all {nm nc : Int} : {l : List Cls} → {i : Nat} → {pre : List Txt} → (clsGo nm nc i pre l).2 = 0 → ∀ c ∈ l, (c.2.1.length : Int) = nm ∧ (c.2.2.length : Int) = nm ∧ (∀ k ∈ c.2.1, 0 ≤ k ∧ k < nc)
  | [], _, _, _ => by simp
  | c :: r, i, pre, h => by
    simp only [clsGo] at h
    cases hc : (clsErr nm nc pre c == 0)
    · rw [hc] at h
      simp only [cond_false] at h
      rw [h] at hc
      cases hc
    · rw [hc] at h
      simp only [cond_true] at h
      intro d hd
      rcases List.mem_cons.1 hd with rfl | hd
      · exact clsErr_zero (by simpa using hc)
      · exact clsGo_all h d hd

structure GoodB (b : Book) : Prop where
  marks : 0 < b.1.length ∧ b.1.length ≤ 6
  classes : 0 < b.2.2.length ∧ b.2.2.length ≤ 8
  begin' : 0 ≤ b.2.1 ∧ b.2.1 < b.2.2.length
  next : ∀ c ∈ b.2.2, c.2.1.length = b.1.length ∧ c.2.2.length = b.1.length ∧ ∀ k ∈ c.2.1, 0 ≤ k ∧ k < (b.2.2.length : Int)

theorem bookErr_good {b : Book} (h : (bookErr b).2 = 0) : GoodB b := by
  unfold bookErr at h
  cases h1 : (sizeErr b == 0)
  · rw [h1] at h
    simp only [cond_false] at h
    rw [h] at h1
    cases h1
  · rw [h1] at h
    simp only [cond_true] at h
    cases h2 : (marksGo [] b.1 == 0)
    · rw [h2] at h
      simp only [cond_false] at h
      rw [h] at h2
      cases h2
    · rw [h2] at h
      simp only [cond_true] at h
      cases h3 : inR b.2.1 0 ((b.2.2.length : Int) - 1)
      · rw [h3] at h
        simp at h
      · rw [h3] at h
        simp only [cond_true] at h
        have hs : sizeErr b = 0 := by simpa using h1
        have := firstErr_zero.1 hs
        simp only [List.mem_cons, List.not_mem_nil, or_false, forall_eq_or_imp, forall_eq, unl_zero (show (10 : Int) ≠ 0 by decide), unl_zero (show (8 : Int) ≠ 0 by decide), Bool.and_eq_true, decide_eq_true_eq] at this
        have hb := inR_iff.1 h3
        refine ⟨⟨this.1.1, this.2.1⟩, ⟨this.1.2, this.2.2⟩, by omega, fun c hc => ?_⟩
        obtain ⟨g1, g2, g3⟩ := clsGo_all h c hc
        exact ⟨by omega, by omega, g3⟩

theorem GoodB.step {b : Book} (h : GoodB b) {k m : Int} (hk : 0 ≤ k ∧ k < b.2.2.length) (hm : 0 ≤ m ∧ m < b.1.length) : ∃ k', stepTo b.2.2 k m = some k' ∧ 0 ≤ k' ∧ k' < b.2.2.length := by
  unfold stepTo
  rw [geti_of hk.1 hk.2, Option.bind_some]
  obtain ⟨g1, g2, g3⟩ := h.next b.2.2[k.toNat] (List.getElem_mem _)
  rw [geti_of hm.1 (by rw [g1]; exact hm.2)]
  exact ⟨_, rfl, g3 _ (List.getElem_mem _)⟩

theorem GoodB.walk {b : Book} (h : GoodB b) : (l : List Int) → (∀ m ∈ l, 0 ≤ m ∧ m < (b.1.length : Int)) → (k : Int) → 0 ≤ k ∧ k < b.2.2.length → ∃ w, walkO b.2.2 k l = some w ∧ ∀ x ∈ w, 0 ≤ x ∧ x < (b.2.2.length : Int)
  | [], _, k, hk => ⟨[k], rfl, by simpa using hk⟩
  | m :: l, hl, k, hk => by
    obtain ⟨k', h1, h2⟩ := h.step hk (hl m (List.mem_cons_self ..))
    obtain ⟨w, h3, h4⟩ := h.walk l (fun x hx => hl x (List.mem_cons_of_mem _ hx)) k' h2
    refine ⟨k :: w, ?_, fun x hx => ?_⟩
    · simp only [walkO, h1, Option.bind_some, h3, Option.map_some]
    · rcases List.mem_cons.1 hx with rfl | hx
      · exact hk
      · exact h4 x hx

theorem marksErr_zero {b : Book} {l : List Int} : marksErr b l = 0 ↔ l.length ≤ 40 ∧ ∀ m ∈ l, 0 ≤ m ∧ m < (b.1.length : Int) := by
  unfold marksErr
  rw [firstErr_zero]
  simp only [List.mem_cons, List.not_mem_nil, or_false, forall_eq_or_imp, forall_eq, unl_zero (show (8 : Int) ≠ 0 by decide), unl_zero (show (6 : Int) ≠ 0 by decide), decide_eq_true_eq, Bool.not_eq_true']
  refine and_congr Iff.rfl ⟨fun h m hm => ?_, fun h => ?_⟩
  · have := any_false h m hm
    rw [Bool.not_eq_false', inR_iff] at this
    omega
  · refine Bool.eq_false_iff.2 fun he => ?_
    obtain ⟨x, hx, hx2⟩ := List.any_eq_true.1 he
    have := h x hx
    rw [Bool.not_eq_true'] at hx2
    have hh := inR_iff.2 (show 0 ≤ x ∧ x ≤ (b.1.length : Int) - 1 by omega)
    rw [hh] at hx2
    cases hx2

end Go.Abs
