/- Panels: which are right; counts, marks. -/
import Derived.Test.YtbcbiemjokpghaaNLawD
set_option linter.unusedSimpArgs false
set_option linter.unusedVariables false
namespace Go.Abs
open Go

abbrev Pan := Int × Int × List Int × List (List Int)
def fitP (n : Nat) (p : Pan) : Prop := Lt n p.2.2.1 ∧ Lt n p.2.2.2 ∧ ∀ t ∈ p.2.2.2, Lt n t

def tstErr (p : Pan) (l : List Int) : Int := firstErr [unl ((l.length : Int) == (p.2.2.1.length : Int)) 10, unl (!(l.any fun k => !inR k 0 (p.2.1 - 1))) 6]
def tstGo (p : Pan) : Nat → List (List Int) → Int × Int
  | _, [] => (0, 0)
  | i, l :: r => bif tstErr p l == 0 then tstGo p (i + 1) r else ((i : Int), tstErr p l)
def panErr0 (p : Pan) : Int := firstErr [unl (inR p.1 1 30 && inR p.2.1 1 6) 2, unl (decide (0 < p.2.2.1.length) && decide (0 < p.2.2.2.length)) 10,
  unl (decide (p.2.2.1.length ≤ 30) && decide (p.2.2.2.length ≤ 8)) 8, unl (!(p.2.2.1.any fun k => !inR k 0 (p.1 - 1))) 6]
def panErr (p : Pan) : Int × Int := bif panErr0 p == 0 then tstGo p 0 p.2.2.2 else (0, panErr0 p)

theorem tstGo_ok (p : Pan) : (l : List (List Int)) → (i : Nat) → ((tstGo p i l).2 == 0) = true → tstGo p i l = (0, 0)
  | [], _, _ => rfl
  | c :: r, i, h => by
    simp only [tstGo] at h ⊢
    cases hc : (tstErr p c == 0)
    · rw [hc] at h; simp only [cond_false] at h; rw [hc] at h; cases h
    · rw [hc] at h; exact tstGo_ok p r _ h

theorem v50_l0 (n : Nat) (hf : Fuel n) (p : Pan) (hp : fitP n p) (hm : IntKind.wrap .i64 (p.2.1 - 1) = p.2.1 - 1)
    (k0 : Unit → Option (Int × Int)) (k1 : Int × Int × Unit → Option (Int × Int)) :
    loopG (s50_l0 n) n (p, p.2.2.2, (p.2.2.2.length : Int), (0 : Int), ()) (k0, k1, ()) =
      bif (tstGo p 0 p.2.2.2).2 == 0 then k0 () else k1 ((tstGo p 0 p.2.2.2).1, (tstGo p 0 p.2.2.2).2, ()) := by
  obtain ⟨h1, h2, h3⟩ := hp
  have hlo := hf.lo
  refine (list_loop0 p.2.2.2 (fun i => (p, p.2.2.2, (p.2.2.2.length : Int), (i : Int), ())) (fun i r => bif (tstGo p i r).2 == 0 then k0 () else k1 ((tstGo p i r).1, (tstGo p i r).2, ())) (hf.le h2) ?_ ?_ h2)
  · intro i x r hi hx hd hg hlt hw again ih
    have hx' := h3 x (List.mem_of_getElem? hx)
    have e1 : s94 n x (fun y0 => s108 n y0 p) = some (x.any fun k => !inR k 0 (p.2.1 - 1)) := by
      refine v94 n _ _ _ (fun k _ => ?_) (hf.le hx') hx'
      simp [s108, v82, hm]
    simp only [s50_l0, hlt, cond_true, hg, Option.bind_some, hw, ih, e1, v81, v80 n [_, _] (by simp [maxLen]) (by simp; omega), tstGo, bne]
    have e2 : firstErr [unl (((List.length x : Nat) : Int) == ((List.length p.2.2.1 : Nat) : Int)) (10 : Int), unl (!(x.any fun k => !inR k 0 (p.2.1 - 1))) 6] = tstErr p x := rfl
    rw [e2]
    cases h : (tstErr p x == 0) <;> simp [h]
  · intro hlt again
    simp only [s50_l0, hlt, cond_false, tstGo]
    rfl

theorem v50 (n : Nat) (p : Pan) (hf : Fuel n) (hp : fitP n p) : s50 n p = some (panErr p) := by
  have hp' := hp
  obtain ⟨h1, h2, h3⟩ := hp
  have hlo := hf.lo
  unfold s50
  have e1 : s94 n p.2.2.1 (fun y0 => s107 n y0 (p.1, (p.2.1, (p.2.2.1, p.2.2.2)))) = some (p.2.2.1.any fun k => !inR k 0 (IntKind.wrap .i64 (p.1 - 1))) := by
    refine v94 n _ _ _ (fun k _ => ?_) (hf.le h1) h1
    simp [s107, v82]
  have a1 : decide (((List.length p.2.2.1 : Nat) : Int) ≤ (30 : Int)) = decide (p.2.2.1.length ≤ 30) := dec_le _ 30
  have a2 : decide (((List.length p.2.2.2 : Nat) : Int) ≤ (8 : Int)) = decide (p.2.2.2.length ≤ 8) := dec_le _ 8
  simp only [v82, Option.bind_some, e1, v81, v80 n [_, _, _, _] (by simp [maxLen]) (by simp; omega), a1, a2, dec_gt0]
  have hpart : ∀ b : Bool, part b (some (inR p.2.1 1 6)) false = some (b && inR p.2.1 1 6) := fun b => by cases b <;> rfl
  rw [hpart]
  simp only [Option.bind_some]
  have hand : (inR p.1 1 30 && (inR p.1 1 30 && inR p.2.1 1 6)) = (inR p.1 1 30 && inR p.2.1 1 6) := by cases inR p.1 1 30 <;> rfl
  rw [hand]
  unfold panErr panErr0
  cases c1 : inR p.1 1 30 && inR p.2.1 1 6
  · rfl
  · simp only [Bool.and_eq_true] at c1
    have hc := inR_iff.1 c1.1
    have hm := inR_iff.1 c1.2
    have w1 : IntKind.wrap .i64 (p.1 - 1) = p.1 - 1 := by rw [wrap_id] <;> omega
    have w2 : IntKind.wrap .i64 (p.2.1 - 1) = p.2.1 - 1 := by rw [wrap_id] <;> omega
    rw [w1]
    simp only [bne]
    cases c2 : (firstErr [unl true 2, unl (decide (0 < p.2.2.1.length) && decide (0 < p.2.2.2.length)) 10, unl (decide (p.2.2.1.length ≤ 30) && decide (p.2.2.2.length ≤ 8)) 8, unl (!(p.2.2.1.any fun k => !inR k 0 (p.1 - 1))) 6] == 0)
    · rfl
    · simp only [Bool.not_true, cond_false, cond_true]
      rw [show ((p.1, p.2.1, p.2.2.1, p.2.2.2) : Pan) = p from rfl, v50_l0 n hf p hp' w2]
      cases c3 : ((tstGo p 0 p.2.2.2).2 == 0)
      · rfl
      · rw [tstGo_ok _ _ _ c3]; rfl

theorem v89 (n : Nat) (p : Pan) (hf : Fuel n) (hp : fitP n p) : s89 n p = some (p, (panErr p).2) := by
  unfold s89
  rw [show ((p.1, (p.2.1, (p.2.2.1, p.2.2.2))) : Pan) = p from rfl, v50 n p hf hp]
  rfl

/-! The reference: tasters of a wrong length are never looked through. -/
def fitQ (n : Nat) (p : Pan) : Prop := Lt n p.2.2.1 ∧ Lt n p.2.2.2
theorem fitP.q {n : Nat} {p : Pan} (h : fitP n p) : fitQ n p := ⟨h.1, h.2.1⟩
theorem v52_l0 (n : Nat) (hf : Fuel n) (p : Pan) (hp : fitQ n p) (hm : IntKind.wrap .i64 (p.1 - 1) = p.1 - 1)
    (k0 : Int × Int × List Int × List (List Int) × Unit → Option (Int × Int)) (k1 : Int × Int × Unit → Option (Int × Int)) :
    loopG (s52_l0 n) n ((0 : Int), p.1, p.2.1, p.2.2.1, p.2.2.2, ()) (k0, k1, ()) =
      bif (p.2.2.1.any fun k => !inR k 0 (p.1 - 1)) then k1 (0, 6, ()) else k0 (p.1, p.2.1, p.2.2.1, p.2.2.2, ()) := by
  obtain ⟨h1, h2⟩ := hp
  refine (list_loop0 p.2.2.1 (fun i => ((i : Int), p.1, p.2.1, p.2.2.1, p.2.2.2, ())) (fun i r => bif (r.any fun k => !inR k 0 (p.1 - 1)) then k1 (0, 6, ()) else k0 (p.1, p.2.1, p.2.2.1, p.2.2.2, ())) (hf.le h1) ?_ ?_ h1)
  · intro i x r hi hx hd hg hlt hw again ih
    simp only [s52_l0, hlt, cond_true, hg, Option.bind_some, hw, ih, v19, hm, List.any_cons]
    cases h : inR x 0 (p.1 - 1) <;> simp [h]
  · intro hlt again
    simp only [s52_l0, hlt, cond_false]
    rfl

theorem v52_l1_0 (n : Nat) (hf : Fuel n) (p : Pan) (hm : IntKind.wrap .i64 (p.2.1 - 1) = p.2.1 - 1) (i : Nat) (l : List Int) (hl : p.2.2.2[i]? = some l) (hll : Lt n l)
    (k0 : Int × Int × Int × List Int × List (List Int) × Unit → Option (Int × Int)) (k1 : Int × Int × Unit → Option (Int × Int)) :
    loopG (s52_l1_0 n) n ((i : Int), (0 : Int), p.1, p.2.1, p.2.2.1, p.2.2.2, ()) (k0, k1, ()) =
      bif (l.any fun k => !inR k 0 (p.2.1 - 1)) then k1 (i, 6, ()) else k0 (i, p.1, p.2.1, p.2.2.1, p.2.2.2, ()) := by
  have hgl : geti p.2.2.2 (i : Int) = some l := by rw [geti_nat, hl]
  refine (list_loop0 l (fun k => ((i : Int), (k : Int), p.1, p.2.1, p.2.2.1, p.2.2.2, ())) (fun _ r => bif (r.any fun k => !inR k 0 (p.2.1 - 1)) then k1 (i, 6, ()) else k0 (i, p.1, p.2.1, p.2.2.1, p.2.2.2, ())) (hf.le hll) ?_ ?_ hll)
  · intro k x r hk hx hd hg hlt hw again ih
    simp only [s52_l1_0, hgl, hlt, cond_true, hg, Option.bind_some, hw, ih, v19, hm, List.any_cons]
    cases h : inR x 0 (p.2.1 - 1) <;> simp [h]
  · intro hlt again
    simp only [s52_l1_0, hgl, Option.bind_some, hlt, cond_false]
    rfl

theorem v52_l1 (n : Nat) (hf : Fuel n) (p : Pan) (hp : fitQ n p) (hm : IntKind.wrap .i64 (p.2.1 - 1) = p.2.1 - 1)
    (k0 : Unit → Option (Int × Int)) (k1 : Int × Int × Unit → Option (Int × Int)) :
    loopG (s52_l1 n) n ((0 : Int), p.1, p.2.1, p.2.2.1, p.2.2.2, ()) (k0, k1, ()) =
      bif (tstGo p 0 p.2.2.2).2 == 0 then k0 () else k1 ((tstGo p 0 p.2.2.2).1, (tstGo p 0 p.2.2.2).2, ()) := by
  obtain ⟨h1, h2⟩ := hp
  refine (list_loop0 p.2.2.2 (fun i => ((i : Int), p.1, p.2.1, p.2.2.1, p.2.2.2, ())) (fun i r => bif (tstGo p i r).2 == 0 then k0 () else k1 ((tstGo p i r).1, (tstGo p i r).2, ())) (hf.le h2) ?_ ?_ h2)
  · intro i x r hi hx hd hg hlt hw again ih
    have e := fun h k0 k1 => v52_l1_0 n hf p hm i x hx h k0 k1
    simp only [s52_l1, hlt, cond_true, hg, Option.bind_some, tstGo, tstErr, bne]
    cases c1 : (((List.length x : Nat) : Int) == ((List.length p.2.2.1 : Nat) : Int))
    · rfl
    · have hlx : (x.length : Int) = (p.2.2.1.length : Int) := by simpa using c1
      rw [e (by unfold Lt at *; omega)]
      simp only [hw, ih]
      cases c2 : (x.any fun k => !inR k 0 (p.2.1 - 1)) <;> rfl
  · intro hlt again
    simp only [s52_l1, hlt, cond_false, tstGo]
    rfl

theorem v52 (n : Nat) (p : Pan) (hf : Fuel n) (hp : fitQ n p) : s52 n p = some (panErr p) := by
  have hp' := hp
  obtain ⟨h1, h2⟩ := hp
  unfold s52
  have a1 : decide (((List.length p.2.2.1 : Nat) : Int) > (30 : Int)) = !decide (p.2.2.1.length ≤ 30) := dec_gt _ 30
  have a2 : decide (((List.length p.2.2.2 : Nat) : Int) > (8 : Int)) = !decide (p.2.2.2.length ≤ 8) := dec_gt _ 8
  simp only [v19, Option.bind_some, a1, a2, beq_zero]
  unfold panErr panErr0
  cases c1 : inR p.1 1 30
  · rfl
  · simp only [Bool.not_true, Bool.not_false, part_true, Option.bind_some]
    cases c1' : inR p.2.1 1 6
    · rfl
    · have hc := inR_iff.1 c1
      have hm := inR_iff.1 c1'
      have w1 : IntKind.wrap .i64 (p.1 - 1) = p.1 - 1 := by rw [wrap_id] <;> omega
      have w2 : IntKind.wrap .i64 (p.2.1 - 1) = p.2.1 - 1 := by rw [wrap_id] <;> omega
      simp only [v52_l0 n hf p hp' w1, v52_l1 n hf p hp' w2]
      cases c2 : decide (0 < p.2.2.1.length)
      · rfl
      · cases c3 : decide (0 < p.2.2.2.length)
        · rfl
        · cases c4 : decide (p.2.2.1.length ≤ 30)
          · rfl
          · cases c5 : decide (p.2.2.2.length ≤ 8)
            · rfl
            · cases c6 : (p.2.2.1.any fun k => !inR k 0 (p.1 - 1))
              · cases c7 : ((tstGo p 0 p.2.2.2).2 == 0)
                · simp [firstErr, unl, c7]
                · rw [tstGo_ok _ _ _ c7]; rfl
              · rfl

theorem v29 (n : Nat) (p : Pan) (hf : Fuel n) (hp : fitQ n p) : s29 n p = some (panErr p).2 := by
  unfold s29
  rw [show ((p.1, (p.2.1, (p.2.2.1, p.2.2.2))) : Pan) = p from rfl, v52 n p hf hp]
  rfl

/-! Copies. -/
theorem v72 (n : Nat) (l : List (List Int)) (hf : Fuel n) (h : Lt n l) (h2 : ∀ t ∈ l, Lt n t) : s72 n l = some l := by
  have hhi := hf.hi
  unfold s72
  refine (list_loop (A := List (List Int)) l (fun i acc => (l, (i : Int), acc, ())) (fun i acc r => some (acc ++ r)) (fun i acc => acc.length = i) (hf.le h) ?_ ?_ [] rfl h)
  · intro i acc x r hi hx hd hg hlt hw hinv again ih
    have hch : chk (acc.length + ([x] : List (List Int)).length) = some () := chk_ok (by unfold Lt at *; simp; omega)
    simp only [s72_l0, hlt, cond_true, hg, Option.bind_some, hw, v27 n _ hf (h2 x (List.mem_of_getElem? hx)), hch]
    rw [ih (acc ++ [x]) (by simp [hinv])]
    simp
  · intro acc hlt hinv again
    simp only [s72_l0, hlt, cond_false, List.append_nil]

theorem v26 (n : Nat) (p : Pan) (hf : Fuel n) (hp : fitP n p) : s26 n p = some p := by
  obtain ⟨h1, h2, h3⟩ := hp
  unfold s26
  rw [v27 n _ hf h1, Option.bind_some, v72 n _ hf h2 h3]
  rfl

theorem v32 (n : Nat) (a b : List Int) (hf : Fuel n) (h : Lt n a) : s32 n a b = some (a == b) := by
  unfold s32
  cases c : (((List.length a : Nat) : Int) == ((List.length b : Nat) : Int))
  · have hne : a ≠ b := by
      rintro rfl
      simp at c
    simp only [bne, c, Bool.not_false, cond_true]
    rw [(by simpa using hne : (a == b) = false)]
  · have hlen' : (a.length : Int) = (b.length : Int) := by simpa using c
    have hlen : a.length = b.length := by omega
    simp only [bne, c, Bool.not_true, cond_false]
    refine (list_loop0 a (fun i => (a, b, (i : Int), ())) (fun i r => some (r == b.drop i)) (hf.le h) ?_ ?_ h).trans (by simp)
    · intro i x r hi hx hd hg hlt hw again ih
      have hb : b[i]? = some b[i] := List.getElem?_eq_getElem (by omega)
      have hgb : geti b (i : Int) = some b[i] := by rw [geti_nat, hb]
      have hdb : b.drop i = b[i] :: b.drop (i + 1) := List.drop_eq_getElem_cons (by omega)
      simp only [s32_l0, hlt, cond_true, hg, hgb, Option.bind_some, hw, ih, bne]
      rw [hdb, List.cons_beq_cons]
      cases h : (x == b[i]) <;> rfl
    · intro hlt again
      simp only [s32_l0, hlt, cond_false]
      rw [hlen, List.drop_length]
      rfl

end Go.Abs
