/- Rule books, on: the reference's test, walks, copies. -/
import Derived.Test.YtbcbiemjokpghaaNLawB
set_option linter.unusedSimpArgs false
set_option linter.unusedVariables false
namespace Go.Abs
open Go

theorem v79 (n : Nat) (b : Book) (hf : Fuel n) (hb : fitB n b) : s79 n b = some (b, (bookErr b).2) := by
  unfold s79
  rw [show ((b.1, (b.2.1, b.2.2)) : Book) = b from rfl, v37 n b hf hb]
  rfl

def marksErr (b : Book) (l : List Int) : Int := firstErr [unl (decide (l.length ≤ 40)) 8, unl (!(l.any fun k => !inR k 0 ((b.1.length : Int) - 1))) 6]

theorem v99 (n : Nat) (b : Book) (l : List Int) (hf : Fuel n) (hb : Lt n b.1) (hl : Lt n l) : s99 n b l = some (marksErr b l) := by
  have hlo := hf.lo
  unfold s99
  have e1 : s94 n l (fun y0 => s132 n y0 (b.1, (b.2.1, b.2.2))) = some (l.any fun k => !inR k 0 ((b.1.length : Int) - 1)) := by
    refine v94 n _ _ _ (fun k _ => ?_) (hf.le hl) hl
    simp [s132, v82, lenPred hf hb]
  rw [e1]
  simp only [Option.bind_some, v81, v80 n [_, _] (by simp [maxLen]) (by simp; omega)]
  have : decide (((List.length l : Nat) : Int) ≤ (40 : Int)) = decide (l.length ≤ 40) := dec_le l 40
  rw [this]
  rfl

def sheetErr (b : Book) (s : Txt × List Int) : Int := firstErr [unl (nameOk s.1) 4, marksErr b s.2]

theorem v104 (n : Nat) (b : Book) (s : Txt × List Int) (hf : Fuel n) (hb : fitB n b) (h1 : Lt n s.1) (h2 : Lt n s.2) :
    s104 n b s = some (b, bif (bookErr b).2 == 0 then sheetErr b s else (bookErr b).2) := by
  have hlo := hf.lo
  unfold s104
  rw [show ((b.1, (b.2.1, b.2.2)) : Book) = b from rfl, v79 n b hf hb]
  simp only [Option.bind_some, bne, v98 n s.1 (hf.le h1) h1]
  cases h : ((bookErr b).2 == 0)
  · rfl
  · simp only [Bool.not_true, cond_false, v81, Option.bind_some, cond_true]
    rw [show ((b.1, b.2.1, b.2.2) : Book) = b from rfl, v99 n b s.2 hf hb.1 h2]
    simp only [Option.bind_some, v80 n [_, _] (by simp [maxLen]) (by simp; omega)]
    rfl

/-- The classes that a right walk comes to. -/
def stepTo (cs : List Cls) (k m : Int) : Option Int := (geti cs k).bind fun c => geti c.2.1 m
def walkO (cs : List Cls) : Int → List Int → Option (List Int)
  | k, [] => some [k]
  | k, m :: r => (stepTo cs k m).bind fun k' => (walkO cs k' r).map (k :: ·)

theorem walkO_ne {cs : List Cls} : {l : List Int} → {k : Int} → {w : List Int} → walkO cs k l = some w → ∃ r, w = k :: r ∧ r.length = l.length
  | [], k, w, h => by cases h; exact ⟨[], rfl, rfl⟩
  | m :: l, k, w, h => by
    simp only [walkO] at h
    cases hk : stepTo cs k m with
    | none => rw [hk] at h; cases h
    | some k' =>
      rw [hk] at h
      cases hw : walkO cs k' l with
      | none => simp [hw] at h
      | some w' =>
        simp [hw] at h
        obtain ⟨r, rfl, h2⟩ := walkO_ne hw
        exact ⟨k' :: r, h.symm, by simp [h2]⟩

theorem v100 (n : Nat) (b : Book) (l : List Int) (w : List Int) (hf : Fuel n) (hl : l.length + 1 < n) (hw : walkO b.2.2 b.2.1 l = some w) : s100 n b l = some w := by
  have hhi := hf.hi
  have hll : Lt n l := by unfold Lt; omega
  unfold s100
  refine (list_loop (A := List Int × Int) l (fun i a => (l, (l.length : Int), (i : Int), b.1, b.2.1, b.2.2, a.1 ++ [a.2], ())) (fun i a r => (walkO b.2.2 a.2 r).map (a.1 ++ ·)) (fun i a => a.1.length = i) (hf.le hll) ?_ ?_ ([], b.2.1) rfl hll).trans ?_
  · rintro i ⟨pre, k⟩ x r hi hx hd hg hlt hw' hinv again ih
    have hlen : IntKind.wrap .i64 (((pre ++ [k]).length : Nat) - (1 : Int)) = ((pre.length : Nat) : Int) := by
      have h1 : pre.length = i := hinv
      rw [List.length_append, List.length_singleton, wrap_id] <;> omega
    have hlast : geti (pre ++ [k]) ((pre.length : Nat) : Int) = some k := by rw [geti_nat]; simp
    simp only [s100_l0, hlt, cond_true, hg, Option.bind_some, hw', hlen, hlast]
    simp only [walkO, stepTo]
    cases hc : geti b.2.2 k with
    | none => rfl
    | some c =>
      simp only [Option.bind_some]
      cases hm : geti c.2.1 x with
      | none => rfl
      | some k' =>
        have h1 : pre.length = i := hinv
        have hch : chk ((pre ++ [k]).length + ([k'] : List Int).length) = some () := chk_ok (by simp; omega)
        simp only [Option.bind_some, hch]
        rw [ih (pre ++ [k], k') (by simp [h1])]
        simp [Option.map_map, Function.comp_def]
  · rintro ⟨pre, k⟩ hlt hinv again
    simp only [s100_l0, hlt, cond_false, walkO]
    rfl
  · rw [hw]; rfl

/-! The reference. -/
theorem v103_l0 (n : Nat) (hf : Fuel n) (b0 : List Txt) (b1 : Int) (cs : List Cls) (c : Cls) (i : Nat) (hi : i ≤ cs.length) (hc : Lt n cs)
    (k0 : List Txt × Int × List Cls × Txt × List Int × List Txt × Unit → Option Int) (k1 : Int × Unit → Option Int) :
    loopG (s103_l0 n) n ((i : Int), (0 : Int), b0, b1, cs, c.1, c.2.1, c.2.2, ()) (k0, k1, ()) =
      bif ((cs.take i).any fun d => d.1 == c.1) then k1 (5, ()) else k0 (b0, b1, cs, c.1, c.2.1, c.2.2, ()) := by
  have hlen : (cs.take i).length = i := by simp; omega
  have h1 : Lt n (cs.take i) := by unfold Lt at *; omega
  refine (list_loop0 (cs.take i) (fun k => ((i : Int), (k : Int), b0, b1, cs, c.1, c.2.1, c.2.2, ())) (fun _ r => bif (r.any fun d => d.1 == c.1) then k1 (5, ()) else k0 (b0, b1, cs, c.1, c.2.1, c.2.2, ())) (hf.le h1) ?_ ?_ h1)
  · intro k x r hk hx hd hg hlt hw again ih
    rw [hlen] at hlt hk
    have hg' : geti cs (k : Int) = some x := by
      rw [geti_nat] at hg ⊢
      rw [List.getElem?_take_of_lt hk] at hg
      exact hg
    simp only [s103_l0, hlt, cond_true, hg', Option.bind_some, hw, ih, List.any_cons]
    cases h : (x.1 == c.1) <;> simp [h]
  · intro hlt again
    rw [hlen] at hlt ⊢
    simp only [s103_l0, hlt, cond_false]
    rfl

theorem v103_l1 (n : Nat) (hf : Fuel n) (b0 : List Txt) (b1 : Int) (cs : List Cls) (c : Cls) (hc : Lt n cs) (h1 : Lt n c.2.1)
    (k0 : Txt × List Int × List Txt × Unit → Option Int) (k1 : Int × Unit → Option Int) :
    loopG (s103_l1 n) n ((0 : Int), b0, b1, cs, c.1, c.2.1, c.2.2, ()) (k0, k1, ()) =
      bif (c.2.1.any fun k => !inR k 0 ((cs.length : Int) - 1)) then k1 (6, ()) else k0 (c.1, c.2.1, c.2.2, ()) := by
  refine (list_loop0 c.2.1 (fun k => ((k : Int), b0, b1, cs, c.1, c.2.1, c.2.2, ())) (fun _ r => bif (r.any fun k => !inR k 0 ((cs.length : Int) - 1)) then k1 (6, ()) else k0 (c.1, c.2.1, c.2.2, ())) (hf.le h1) ?_ ?_ h1)
  · intro k x r hk hx hd hg hlt hw again ih
    simp only [s103_l1, hlt, cond_true, hg, Option.bind_some, hw, ih, List.any_cons, v19, lenPred hf hc]
    cases h : (inR x 0 ((cs.length : Int) - 1)) <;> simp [h]
  · intro hlt again
    simp only [s103_l1, hlt, cond_false]
    rfl

theorem v103_l2 (n : Nat) (hf : Fuel n) (c : Cls) (h1 : Lt n c.2.2) (h2 : ∀ s ∈ c.2.2, Lt n s)
    (k0 : Unit → Option Int) (k1 : Int × Unit → Option Int) :
    loopG (s103_l2 n) n ((0 : Int), c.1, c.2.1, c.2.2, ()) (k0, k1, ()) =
      bif (c.2.2.any fun s => !nameOk s) then k1 (4, ()) else k0 () := by
  refine (list_loop0 c.2.2 (fun k => ((k : Int), c.1, c.2.1, c.2.2, ())) (fun _ r => bif (r.any fun s => !nameOk s) then k1 (4, ()) else k0 ()) (hf.le h1) ?_ ?_ h1)
  · intro k x r hk hx hd hg hlt hw again ih
    have hs := h2 x (List.mem_of_getElem? hx)
    simp only [s103_l2, hlt, cond_true, hg, Option.bind_some, hw, ih, List.any_cons, v101 n x (hf.le hs) hs]
    cases h : nameOk x <;> simp [h]
  · intro hlt again
    simp only [s103_l2, hlt, cond_false]
    rfl

theorem any_flip {α : Type} (l : List α) (f : α → Txt) (c : Txt) : (l.any fun d => f d == c) = (l.map f).any fun x => c == x := by
  rw [List.any_map]
  congr 1
  funext d
  exact BEq.comm

theorem ne_and (a b c : Int) : ((a != c) || (b != c)) = !((a == c) && (b == c)) := by
  simp only [bne, Bool.not_and]

theorem v103 (n : Nat) (hf : Fuel n) (b : Book) (hb : fitB n b) (i : Nat) (c : Cls) (hc : b.2.2[i]? = some c) :
    s103 n b (i : Int) = some (clsErr b.1.length b.2.2.length ((b.2.2.take i).map (·.1)) c) := by
  obtain ⟨h1, h2, h3, h4⟩ := hb
  obtain ⟨g1, g2, g3, g4⟩ := h4 c (List.mem_of_getElem? hc)
  have hi : i < b.2.2.length := (List.getElem?_eq_some_iff.1 hc).1
  unfold s103
  rw [geti_nat, hc]
  simp only [Option.bind_some, v101 n c.1 (hf.le g1) g1]
  rw [v103_l0 n hf b.1 b.2.1 b.2.2 c i (by omega) h3]
  simp only [v103_l1 n hf b.1 b.2.1 b.2.2 c h3 g2, v103_l2 n hf c g3 g4, any_flip, ne_and]
  unfold clsErr nameErrS
  cases h5 : nameOk c.1
  · rfl
  · cases h6 : ((b.2.2.take i).map (·.1)).any fun x => c.1 == x
    · cases h7 : (((c.2.1.length : Int) == (b.1.length : Int)) && ((c.2.2.length : Int) == (b.1.length : Int)))
      · rfl
      · cases h8 : c.2.1.any fun k => !inR k 0 ((b.2.2.length : Int) - 1)
        · cases h9 : c.2.2.any fun s => !nameOk s <;> rfl
        · rfl
    · rfl

theorem v39_l0 (n : Nat) (hf : Fuel n) (marks : List Txt) (b1 : Int) (b2 : List Cls) (h1 : Lt n marks) (h2 : ∀ s ∈ marks, Lt n s)
    (k0 : List Txt × Int × List Cls × Unit → Option (Int × Int)) (k1 : Int × Int × Unit → Option (Int × Int)) :
    loopG (s39_l0 n) n ((0 : Int), marks, b1, b2, ()) (k0, k1, ()) =
      bif marksGo [] marks == 0 then k0 (marks, b1, b2, ()) else k1 (0, marksGo [] marks, ()) := by
  refine (list_loop0 marks (fun i => ((i : Int), marks, b1, b2, ())) (fun i r => bif marksGo (marks.take i) r == 0 then k0 (marks, b1, b2, ()) else k1 (0, marksGo (marks.take i) r, ())) (hf.le h1) ?_ ?_ h1)
  · intro i x r hi hx hd hg hlt hw again ih
    have hx' := h2 x (List.mem_of_getElem? hx)
    have htk : Lt n (marks.take i) := by unfold Lt at *; simp; omega
    have ht : marks.take (i + 1) = marks.take i ++ [x] := by rw [List.take_add_one, hx]; rfl
    simp only [s39_l0, hlt, cond_true, hg, Option.bind_some, hw, ih, cut_zero marks i (by omega), v101 n x (hf.le hx') hx', v102 n (marks.take i) x (hf.le htk) htk, ht, marksGo, nameErrS]
    cases h5 : nameOk x
    · rfl
    · cases h6 : (marks.take i).any fun y => x == y <;> rfl
  · intro hlt again
    simp only [s39_l0, hlt, cond_false, marksGo]
    rfl

theorem v39_l1 (n : Nat) (hf : Fuel n) (b : Book) (hb : fitB n b)
    (k0 : Unit → Option (Int × Int)) (k1 : Int × Int × Unit → Option (Int × Int)) :
    loopG (s39_l1 n) n ((0 : Int), b.1, b.2.1, b.2.2, ()) (k0, k1, ()) =
      bif (clsGo b.1.length b.2.2.length 0 [] b.2.2).2 == 0 then k0 () else k1 ((clsGo b.1.length b.2.2.length 0 [] b.2.2).1, (clsGo b.1.length b.2.2.length 0 [] b.2.2).2, ()) := by
  have h3 := hb.2.2.1
  refine (list_loop0 b.2.2 (fun i => ((i : Int), b.1, b.2.1, b.2.2, ())) (fun i r => bif (clsGo b.1.length b.2.2.length i ((b.2.2.take i).map (·.1)) r).2 == 0 then k0 () else k1 ((clsGo b.1.length b.2.2.length i ((b.2.2.take i).map (·.1)) r).1, (clsGo b.1.length b.2.2.length i ((b.2.2.take i).map (·.1)) r).2, ())) (hf.le h3) ?_ ?_ h3)
  · intro i x r hi hx hd hg hlt hw again ih
    have hc := v103 n hf b hb i x hx
    have ht : ((b.2.2.take (i + 1)).map (·.1)) = (b.2.2.take i).map (·.1) ++ [x.1] := by rw [List.take_add_one, hx]; simp
    simp only [s39_l1, hlt, cond_true, Option.bind_some, hw, ih, hc, ht, clsGo, bne]
    cases h : (clsErr b.1.length b.2.2.length ((b.2.2.take i).map (·.1)) x == 0) <;> simp only [h, cond_false, cond_true, Bool.not_false, Bool.not_true]
  · intro hlt again
    simp only [s39_l1, hlt, cond_false, clsGo]
    rfl

theorem v39 (n : Nat) (b : Book) (hf : Fuel n) (hb : fitB n b) : s39 n b = some (bookErr b) := by
  have hb' := hb
  obtain ⟨h1, h2, h3, h4⟩ := hb
  unfold s39
  rw [v39_l0 n hf b.1 b.2.1 b.2.2 h1 h2]
  have a3 : decide (((List.length b.1 : Nat) : Int) > (6 : Int)) = !decide (b.1.length ≤ 6) := dec_gt b.1 6
  have a4 : decide (((List.length b.2.2 : Nat) : Int) > (8 : Int)) = !decide (b.2.2.length ≤ 8) := dec_gt b.2.2 8
  simp only [v39_l1 n hf b hb', v19, lenPred hf h3, Option.bind_some, beq_zero, a3, a4]
  unfold bookErr sizeErr
  cases z1 : decide (0 < b.1.length)
  · rfl
  · cases z2 : decide (0 < b.2.2.length)
    · rfl
    · cases z3 : decide (b.1.length ≤ 6)
      · rfl
      · cases z4 : decide (b.2.2.length ≤ 8)
        · rfl
        · simp only [Bool.not_true, Bool.or_false, cond_false]
          cases hm : (marksGo [] b.1 == 0)
          · rfl
          · cases hi : inR b.2.1 0 ((b.2.2.length : Int) - 1)
            · rfl
            · cases hc : ((clsGo (b.1.length : Int) (b.2.2.length : Int) 0 [] b.2.2).2 == 0)
              · rfl
              · rw [clsGo_ok _ _ _ _ _ hc]; rfl

theorem v17 (n : Nat) (b : Book) (hf : Fuel n) (hb : fitB n b) : s17 n b = some (bookErr b).2 := by
  unfold s17
  rw [show ((b.1, (b.2.1, b.2.2)) : Book) = b from rfl, v39 n b hf hb]
  rfl

end Go.Abs
