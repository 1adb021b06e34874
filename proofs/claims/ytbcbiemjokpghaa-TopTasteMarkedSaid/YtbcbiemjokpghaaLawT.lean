/- TopTasteMarked, in plain words. -/
import Derived.Test.YtbcbiemjokpghaaLawG
set_option linter.unusedSimpArgs false
set_option linter.unusedVariables false
namespace Go.Abs
open Go

theorem tasted_ok (m : Nat) : s71 (m + 2000) = some true := by kernel_rfl
theorem share01 (m : Nat) : s109 (m + 2000) (0, 1) = some 0 := by kernel_rfl

theorem steadyI_le (h : Int × Int → Int × Int → Nat) (h1 : ∀ z w, h z w ≤ 1) : (r pre : ZZ) → steadyI h pre r ≤ (pre.length + r.length) * r.length
  | [], pre => by simp [steadyI]
  | z :: r, pre => by
    have e1 := sumN_le (h z) (h1 z) pre
    have e2 := steadyI_le h h1 r (pre ++ [z])
    simp only [steadyI, List.length_append, List.length_cons, List.length_nil, Nat.zero_add] at e2 ⊢
    have e3 : (pre.length + (r.length + 1)) * (r.length + 1) = (pre.length + 1 + r.length) * r.length + (pre.length + (r.length + 1)) := by
      rw [Nat.mul_succ, Nat.add_assoc pre.length 1, Nat.add_comm 1]
    omega

theorem steady_small {p : Pan} (hp : GoodP p) {t : Int} : (steady p t).1 ≤ 1000000 := by
  unfold steady
  have := steadyI_le same1 same1_le (p.2.2.1.zip (tst p t)) []
  have hl : (p.2.2.1.zip (tst p t)).length ≤ 1000 := by have := hp.glasses; simp; omega
  simp only [List.length_nil, Nat.zero_add] at this
  have := Nat.mul_le_mul hl hl
  dsimp only
  omega

theorem steadiest01 {p : Pan} (hp : GoodP p) : steadiest p (0, 1) = (List.range p.2.2.2.length).map fun t => ((t : Nat) : Int) := by
  unfold steadiest
  rw [List.filter_eq_self.2]
  intro t _
  unfold isSteady
  have := steady_small hp (t := t)
  have w1 : IntKind.wrap .i64 (((steady p t).1 : Int) * 1) = ((steady p t).1 : Int) := by rw [wrap_id] <;> omega
  have w2 : IntKind.wrap .i64 (0 * ((steady p t).2 : Int)) = 0 := by rw [Int.zero_mul]; rfl
  rw [w1, w2]
  simp

theorem sum_range_getD (l : List (List Int)) (F : List Int → Nat) : ((List.range l.length).map fun (t : Nat) => F (l.getD t [])).sum = (l.map F).sum := by
  have : (List.range l.length).map (fun t => F (l.getD t [])) = l.map F := by
    apply List.ext_getElem
    · simp
    · intro i h1 h2
      simp at h1
      simp [h1]
  rw [this]

theorem cnt_all (p : Pan) (cask : Int) (m : Nat) : cnt p cask ((List.range p.2.2.2.length).map fun t => ((t : Nat) : Int)) m = (p.2.2.2.map (cntZ cask m p.2.2.1)).sum := by
  unfold cnt
  rw [List.map_map]
  exact sum_range_getD p.2.2.2 (cntZ cask m p.2.2.1)

def twice (p : Pan) : Pan := (p.1, p.2.1, p.2.2.1, p.2.2.2 ++ p.2.2.2)

theorem cnt_twice (p : Pan) (cask : Int) (m : Nat) :
    cnt (twice p) cask ((List.range (twice p).2.2.2.length).map fun t => ((t : Nat) : Int)) m = 2 * cnt p cask ((List.range p.2.2.2.length).map fun t => ((t : Nat) : Int)) m := by
  rw [cnt_all, cnt_all]
  show ((p.2.2.2 ++ p.2.2.2).map (cntZ cask m p.2.2.1)).sum = _
  rw [List.map_append, List.sum_append]
  omega

theorem imax_two (a b : Int) : imax (2 * a) (2 * b) = 2 * imax a b := by unfold imax; split <;> split <;> omega
theorem maxL_two (l : List Int) : maxL (l.map fun x => 2 * x) = 2 * maxL l := by
  cases l with
  | nil => rfl
  | cons a r =>
    simp only [List.map_cons, maxL]
    induction r generalizing a with
    | nil => rfl
    | cons b r ih => rw [List.map_cons, List.foldl_cons, List.foldl_cons, imax_two, ih]

theorem two_beq (a b : Int) : (2 * a == 2 * b) = (a == b) := by
  rw [Bool.eq_iff_iff]
  simp only [beq_iff_eq]
  omega

theorem idxF_two (a : Int) : (l : List Int) → (i : Nat) → idxF (fun x => 2 * a == x) i (l.map fun x => 2 * x) = idxF (fun x => a == x) i l
  | [], _ => rfl
  | x :: l, i => by simp only [List.map_cons, idxF, two_beq, idxF_two a l]

theorem markOf_two (l : List Int) : markOf (l.map fun x => 2 * x) = markOf l := by
  unfold markOf
  rw [maxL_two, idxF_two, ← List.map_drop, List.any_map]
  have e1 : (2 * maxL l == 0) = (maxL l == 0) := two_beq (maxL l) 0
  rw [e1]
  have e2 : ((fun x => 2 * maxL l == x) ∘ fun x => 2 * x) = fun x => maxL l == x := by
    funext x
    exact two_beq _ _
  rw [e2]

theorem tab_two (M : Nat) (f : Nat → Nat) : tab M (fun m => 2 * f m) = (tab M f).map fun x => 2 * x := by
  unfold tab
  rw [List.map_map]
  apply List.map_congr_left
  intro m _
  simp

theorem panErr_twice {p : Pan} (h : (panErr p).2 = 0) (h4 : p.2.2.2.length ≤ 4) : (panErr (twice p)).2 = 0 := by
  have hg := panErr_good h
  have h0 : panErr0 p = 0 := by
    unfold panErr at h
    cases h1 : (panErr0 p == 0)
    · rw [h1] at h; exact h
    · simpa using h1
  have h1 : ∀ t ∈ p.2.2.2, tstErr p t = 0 := by
    unfold panErr at h
    rw [h0] at h
    exact tstGo_all h
  have h2 : panErr0 (twice p) = 0 := by
    have := firstErr_zero.1 h0
    refine firstErr_zero.2 ?_
    have e4 : (twice p).2.2.2.length = p.2.2.2.length + p.2.2.2.length := List.length_append
    rw [e4, show (twice p).1 = p.1 from rfl, show (twice p).2.1 = p.2.1 from rfl, show (twice p).2.2.1 = p.2.2.1 from rfl]
    simp only [List.mem_cons, List.not_mem_nil, or_false, forall_eq_or_imp, forall_eq, unl_zero (show (10 : Int) ≠ 0 by decide), unl_zero (show (8 : Int) ≠ 0 by decide), unl_zero (show (2 : Int) ≠ 0 by decide), unl_zero (show (6 : Int) ≠ 0 by decide), Bool.and_eq_true, decide_eq_true_eq] at this ⊢
    obtain ⟨g1, g2, g3, g4⟩ := this
    exact ⟨g1, ⟨g2.1, by omega⟩, ⟨g3.1, by omega⟩, g4⟩
  have h3 : ∀ l i, (∀ t ∈ l, tstErr p t = 0) → tstGo (twice p) i l = (0, 0) := by
    intro l
    induction l with
    | nil => intro i _; rfl
    | cons c r ih =>
      intro i hh
      have e : tstErr (twice p) c = 0 := hh c (List.mem_cons_self ..)
      simp only [tstGo, e, beq_self_eq_true, cond_true]
      exact ih _ fun t ht => hh t (List.mem_cons_of_mem _ ht)
  unfold panErr
  rw [h2]
  simp only [beq_self_eq_true, cond_true]
  rw [h3 _ 0 (fun t ht => by
    rcases List.mem_append.1 ht with ht | ht <;> exact h1 t ht)]

theorem marked_twice {p : Pan} (hp : GoodP p) (hp2 : GoodP (twice p)) : marked (twice p) (steadiest (twice p) (0, 1)) = marked p (steadiest p (0, 1)) := by
  rw [steadiest01 hp, steadiest01 hp2]
  unfold marked
  apply List.map_congr_left
  intro c _
  have : tab (twice p).2.1.toNat (cnt (twice p) (c : Int) ((List.range (twice p).2.2.2.length).map fun t => ((t : Nat) : Int))) = (tab p.2.1.toNat (cnt p (c : Int) ((List.range p.2.2.2.length).map fun t => ((t : Nat) : Int)))).map fun x => 2 * x := by
    rw [← tab_two]
    exact tab_ext fun m _ => cnt_twice p c m
  rw [this, markOf_two]

theorem markOf_lt (l : List Int) (h : 0 < l.length) : markOf l < (l.length : Int) := by
  have := mark_idx h
  unfold markOf
  generalize idxF (fun x => maxL l == x) 0 l = ix at *
  cases (maxL l == 0 || (l.drop (ix + 1).toNat).any fun x => maxL l == x)
  · exact this.2
  · simp only [cond_true]; omega

/-- The law's last loop. -/
theorem v13_l0 (n : Nat) (hf : Fuel n) (b : Book) (hb : fitB n b) (he : (bookErr b).2 = 0) (l : List Int) (hl : l.length ≤ 1000) (hx : ∀ x ∈ l, x < (b.1.length : Int))
    (k0 : Unit → Option Bool) (k1 : Bool × Unit → Option Bool) :
    loopG (s13_l0 n) n (l, (0 : Int), b.1, b.2.1, b.2.2, ()) (k0, k1, ()) = k0 () := by
  have hlo := hf.lo
  have hg := bookErr_good he
  refine (list_loop0 l (fun i => (l, (i : Int), b.1, b.2.1, b.2.2, ())) (fun i r => k0 ()) (by unfold maxLen; omega) ?_ ?_ (by omega))
  · intro i x r hi hxi hd hgx hlt hw again ih
    simp only [s13_l0, hlt, cond_true, hgx, Option.bind_some, hw, ih]
    cases hneg : decide (x < 0)
    · have hx0 : 0 ≤ x := by simpa using hneg
      have hxb := hx x (List.mem_of_getElem? hxi)
      have hm : marksErr b [x, x] = 0 := marksErr_zero.2 ⟨by simp, by simp; omega⟩
      obtain ⟨w, hw1, hw2⟩ := hg.walk [x, x] (by simp; omega) b.2.1 ⟨hg.begin'.1, hg.begin'.2⟩
      obtain ⟨r', rfl, hr'⟩ := walkO_ne hw1
      match r', hr' with
      | [k1', k2'], _ =>
        have hk2 := hw2 k2' (by simp)
        have hcl := geti_of (l := b.2.2) hk2.1 hk2.2
        simp only [cond_false, show ((b.1, b.2.1, b.2.2) : Book) = b from rfl, v21 n b hf hb, Option.bind_some]
        rw [v41_ok n b ([98, 117, 116, 116], [x, x]) _ _ hf hb (by unfold Lt; simp; omega) (by simp; omega) he
          (firstErr_zero.2 (by simp only [List.mem_cons, List.not_mem_nil, or_false, forall_eq_or_imp, forall_eq]; exact ⟨rfl, hm⟩)) hw1 (by rw [show lastI [b.2.1, k1', k2'] = k2' from rfl]; exact hcl)]
        simp only [Option.bind_some]
        rw [v38_ok n b [x, x] _ hf hb (by simp; omega) he hm hw1]
        simp only [Option.bind_some]
        have q1 : ((((0 : Int) != (0 : Int)) || ((0 : Int) != (0 : Int))) || (((List.length [b.2.1, k1', k2'] : Nat) : Int) != (3 : Int))) = false := rfl
        rw [q1]
        simp only [Bool.not_false, part_true]
        rw [show geti [b.2.1, k1', k2'] (2 : Int) = some k2' from rfl]
        simp only [Option.bind_some, v19, lenPred hf hb.2.2.1]
        have q2 : inR k2' 0 ((b.2.2.length : Int) - 1) = true := inR_iff.2 ⟨hk2.1, by omega⟩
        rw [q2]
        simp only [Bool.not_true, Bool.or_false, Bool.not_false, part_true, hcl, Option.bind_some, bne, beq_self_eq_true, cond_false, Bool.false_or]
    · rfl
  · intro hlt again
    simp only [s13_l0, hlt, cond_false]

theorem top_taste_marked (b : Book) (p : Pan) : ∃ n, s13 n b p = some true := by
  refine ⟨0 + 2000, ?_⟩
  generalize hm : (0 : Nat) = m
  have hm0 : m = 0 := hm.symm
  clear hm
  have hf : Fuel (m + 2000) := ⟨by omega, by omega⟩
  have ht := tasted_ok m
  have hs := share01 m
  generalize hn : m + 2000 = n at *
  unfold s13
  simp only [ht, Option.bind_some, Bool.not_true, cond_false, show ((b.1, b.2.1, b.2.2) : Book) = b from rfl, show ((p.1, p.2.1, p.2.2.1, p.2.2.2) : Pan) = p from rfl, v16 n b hf]
  have a1 : decide (((List.length p.2.2.1 : Nat) : Int) > (8 : Int)) = !decide (p.2.2.1.length ≤ 8) := dec_gt _ 8
  have a2 : decide (((List.length p.2.2.2 : Nat) : Int) > (4 : Int)) = !decide (p.2.2.2.length ≤ 4) := dec_gt _ 4
  rw [a1, a2]
  cases c1 : fewB b
  · rfl
  · obtain ⟨hb, _⟩ := few_fit c1 hf
    cases c2 : decide (p.2.2.1.length ≤ 8)
    · rfl
    · cases c3 : decide (p.2.2.2.length ≤ 4)
      · rfl
      · simp only [Bool.not_true, Bool.or_self, Bool.not_false, part_true, v17 n b hf hb, Option.bind_some, Bool.false_or, bne]
        cases c4 : ((bookErr b).2 == 0)
        · rfl
        · have he : (bookErr b).2 = 0 := by simpa using c4
          have hgb := bookErr_good he
          have l1 : p.2.2.1.length ≤ 8 := by simpa using c2
          have l2 : p.2.2.2.length ≤ 4 := by simpa using c3
          have hq : fitQ n p := ⟨by unfold Lt; omega, by unfold Lt; omega⟩
          simp only [Bool.not_true, Bool.not_false, part_true, v29 n p hf hq, Option.bind_some, Bool.false_or]
          cases c5 : ((panErr p).2 == 0)
          · rfl
          · have hpe : (panErr p).2 = 0 := by simpa using c5
            have hg := panErr_good hpe
            have hp : fitP n p := ⟨hq.1, hq.2, fun t ht => by have := (hg.each t ht).1; unfold Lt; omega⟩
            cases c6 : (p.2.1 == ((List.length b.1 : Nat) : Int))
            · rfl
            · have hmk : p.2.1 = (b.1.length : Int) := by simpa using c6
              have hpe2 := panErr_twice hpe l2
              have hg2 := panErr_good hpe2
              have hp2 : fitP n (twice p) := ⟨hq.1, by have : (twice p).2.2.2.length = p.2.2.2.length + p.2.2.2.length := List.length_append; unfold Lt; omega, fun t ht => by have := (hg2.each t ht).1; have e : (twice p).2.2.1 = p.2.2.1 := rfl; rw [e] at this; unfold Lt; omega⟩
              have hml : (marked p (steadiest p (0, 1))).length = p.1.toNat := by simp [marked]
              have hck := hg.casks
              have hch : chk (p.2.2.2.length + p.2.2.2.length) = some () := chk_ok (by omega)
              simp only [Bool.not_true, cond_false, v26 n p hf hp, Option.bind_some, show ((p.1, p.2.1, p.2.2.1, p.2.2.2) : Pan) = p from rfl, v56_ok n hf p hp hpe (0, 1) hs, v72 n p.2.2.2 hf hp.2.1 hp.2.2, hch,
                show ((p.1, p.2.1, p.2.2.1, p.2.2.2 ++ p.2.2.2) : Pan) = twice p from rfl, v56_ok n hf (twice p) hp2 hpe2 (0, 1) hs, marked_twice hg hg2, beq_self_eq_true, Bool.not_false, part_true, Bool.false_or,
                v32 n (marked p (steadiest p (0, 1))) _ hf (by unfold Lt; omega), hml]
              rw [show (((p.1.toNat : Nat) : Int) == p.1) = true from by simp; omega]
              simp only [Bool.not_true, cond_false]
              refine v13_l0 n hf b hb he _ (by omega) (fun x hx => ?_) _ _
              obtain ⟨c, _, rfl⟩ := List.mem_map.1 hx
              have := markOf_lt (tab p.2.1.toNat (cnt p (c : Int) (steadiest p (0, 1)))) (by rw [tab_len]; have := hg.marks; omega)
              rw [tab_len] at this
              have := hg.marks
              omega

end Go.Abs
