/- What a walk's classes say; TasteSheets. -/
import Derived.Test.YtbcbiemjokpghaaNLawH
set_option linter.unusedSimpArgs false
set_option linter.unusedVariables false
namespace Go.Abs
open Go

theorem v45 (n : Nat) (a b : List Txt) (hf : Fuel n) (h : Lt n a) : s45 n a b = some (a == b) := by
  unfold s45
  cases c : (((List.length a : Nat) : Int) == ((List.length b : Nat) : Int))
  · have hne : a ≠ b := by
      rintro rfl
      simp at c
    simp only [bne, c, Bool.not_false, cond_true]
    rw [(by simpa using hne : (a == b) = false)]
  · have hlen' : (a.length : Int) = (b.length : Int) := by simpa using c
    have hlen : a.length = b.length := by omega
    simp only [bne, c, Bool.not_true, cond_false]
    refine (list_loop0 a (fun i => (a, b, (i : Int), ())) (fun i r => some (r == b.drop i)) (hf.le h) ?_ ?_ h).trans (by simp)
    · intro i x r hi hx hd hg hlt hw again ih
      have hb : b[i]? = some b[i] := List.getElem?_eq_getElem (by omega)
      have hgb : geti b (i : Int) = some b[i] := by rw [geti_nat, hb]
      have hdb : b.drop i = b[i] :: b.drop (i + 1) := List.drop_eq_getElem_cons (by omega)
      simp only [s45_l0, hlt, cond_true, hg, hgb, Option.bind_some, hw, ih, bne]
      rw [hdb, List.cons_beq_cons]
      cases h : (x == b[i]) <;> rfl
    · intro hlt again
      simp only [s45_l0, hlt, cond_false]
      rw [hlen, List.drop_length]
      rfl

/-- What is said on a walk. -/
def sayO (cs : List Cls) : List Int → List Int → Option (List Txt)
  | _, [] => some []
  | k :: w, m :: l => (geti cs k).bind fun c => (geti c.2.2 m).bind fun t => (sayO cs w l).map (t :: ·)
  | [], _ :: _ => none

theorem v43_loop (n : Nat) (hf : Fuel n) (b : Book) (w l : List Int) (hl : Lt n l) (k0 : List Txt × Unit → Option (List Txt × Int)) :
    loopG (s43_l0 n) n (w, l, ((List.length l : Nat) : Int), (0 : Int), b.1, b.2.1, b.2.2, ([] : List Txt), ()) (k0, ()) = (sayO b.2.2 w l).bind fun o => k0 (o, ()) := by
  have hhi := hf.hi
  refine (list_loop (A := List Txt) l (fun i acc => (w, l, (l.length : Int), (i : Int), b.1, b.2.1, b.2.2, acc, ())) (fun i acc r => (sayO b.2.2 (w.drop i) r).bind fun o => k0 (acc ++ o, ())) (fun i acc => acc.length = i) (hf.le hl) ?_ ?_ [] rfl hl)
  · intro i acc x r hi hx hd hg hlt hw' hinv again ih
    simp only [s43_l0, hlt, cond_true, hg, Option.bind_some, hw', geti_nat w i]
    cases hwi : w[i]? with
    | none =>
      have hwl : w.length ≤ i := List.getElem?_eq_none_iff.1 hwi
      rw [List.drop_eq_nil_of_le hwl]
      rfl
    | some k =>
      have hil : i < w.length := (List.getElem?_eq_some_iff.1 hwi).1
      have hk : w[i] = k := (List.getElem?_eq_some_iff.1 hwi).2
      rw [List.drop_eq_getElem_cons hil, hk]
      simp only [sayO, Option.bind_some]
      cases hc : geti b.2.2 k with
      | none => rfl
      | some c =>
        simp only [Option.bind_some]
        cases hm : geti c.2.2 x with
        | none => rfl
        | some t =>
          have hch : chk (acc.length + ([t] : List Txt).length) = some () := chk_ok (by unfold Lt at hl; simp; omega)
          simp only [Option.bind_some, hch]
          rw [ih (acc ++ [t]) (by simp [hinv])]
          cases sayO b.2.2 (w.drop (i + 1)) r <;> simp
  · intro acc hlt hinv again
    simp only [s43_l0, hlt, cond_false, sayO, Option.bind_some, List.append_nil]

theorem v46_loop (n : Nat) (hf : Fuel n) (b : Book) (w l : List Int) (hl : Lt n l) (k0 : List Txt × Unit → Option (List Txt)) :
    loopG (s46_l0 n) n (l, w, (0 : Int), b.1, b.2.1, b.2.2, ([] : List Txt), ()) (k0, ()) = (sayO b.2.2 w l).bind fun o => k0 (o, ()) := by
  have hhi := hf.hi
  refine (list_loop (A := List Txt) l (fun i acc => (l, w, (i : Int), b.1, b.2.1, b.2.2, acc, ())) (fun i acc r => (sayO b.2.2 (w.drop i) r).bind fun o => k0 (acc ++ o, ())) (fun i acc => acc.length = i) (hf.le hl) ?_ ?_ [] rfl hl)
  · intro i acc x r hi hx hd hg hlt hw' hinv again ih
    simp only [s46_l0, hlt, cond_true, hg, Option.bind_some, hw', geti_nat w i]
    cases hwi : w[i]? with
    | none =>
      have hwl : w.length ≤ i := List.getElem?_eq_none_iff.1 hwi
      rw [List.drop_eq_nil_of_le hwl]
      rfl
    | some k =>
      have hil : i < w.length := (List.getElem?_eq_some_iff.1 hwi).1
      have hk : w[i] = k := (List.getElem?_eq_some_iff.1 hwi).2
      rw [List.drop_eq_getElem_cons hil, hk]
      simp only [sayO, Option.bind_some]
      cases hc : geti b.2.2 k with
      | none => rfl
      | some c =>
        simp only [Option.bind_some]
        cases hm : geti c.2.2 x with
        | none => rfl
        | some t =>
          have hch : chk (acc.length + ([t] : List Txt).length) = some () := chk_ok (by unfold Lt at hl; simp; omega)
          simp only [Option.bind_some, hch]
          rw [ih (acc ++ [t]) (by simp [hinv])]
          cases sayO b.2.2 (w.drop (i + 1)) r <;> simp
  · intro acc hlt hinv again
    simp only [s46_l0, hlt, cond_false, sayO, Option.bind_some, List.append_nil]

theorem v43_ok (n : Nat) (b : Book) (s : Txt × List Int) (w : List Int) (o : List Txt) (hf : Fuel n) (hb : fitB n b) (h1 : Lt n s.1) (h2 : s.2.length + 1 < n)
    (he : (bookErr b).2 = 0) (hs : sheetErr b s = 0) (hw : walkO b.2.2 b.2.1 s.2 = some w) (ho : sayO b.2.2 w s.2 = some o) : s43 n b s = some (o, 0) := by
  have hl : Lt n s.2 := by unfold Lt; omega
  unfold s43
  rw [show ((b.1, (b.2.1, b.2.2)) : Book) = b from rfl, show ((s.1, s.2) : Txt × List Int) = s from rfl, v104 n b s hf hb h1 hl, he]
  simp only [Option.bind_some, hs, bne, beq_self_eq_true, cond_true, Bool.not_true, cond_false]
  rw [show ((b.1, b.2.1, b.2.2) : Book) = b from rfl, v100 n b s.2 w hf h2 hw]
  simp only [Option.bind_some]
  rw [v43_loop n hf b w s.2 hl, ho]
  rfl

theorem v43_bad (n : Nat) (b : Book) (s : Txt × List Int) (hf : Fuel n) (hb : fitB n b) (h1 : Lt n s.1) (h2 : Lt n s.2)
    (he : ((bif (bookErr b).2 == 0 then sheetErr b s else (bookErr b).2) == 0) = false) : s43 n b s = some ([], bif (bookErr b).2 == 0 then sheetErr b s else (bookErr b).2) := by
  unfold s43
  rw [show ((b.1, (b.2.1, b.2.2)) : Book) = b from rfl, show ((s.1, s.2) : Txt × List Int) = s from rfl, v104 n b s hf hb h1 h2]
  simp only [Option.bind_some, bne, he, Bool.not_false, cond_true]

theorem v46_ok (n : Nat) (b : Book) (l w : List Int) (o : List Txt) (hf : Fuel n) (h2 : l.length + 1 < n) (hw : walkO b.2.2 b.2.1 l = some w) (ho : sayO b.2.2 w l = some o) : s46 n b l = some o := by
  have hl : Lt n l := by unfold Lt; omega
  unfold s46
  rw [show ((b.1, (b.2.1, b.2.2)) : Book) = b from rfl, v40 n b l w hf h2 hw]
  simp only [Option.bind_some]
  rw [v46_loop n hf b w l hl, ho]
  rfl

theorem v22_ok (n : Nat) (b : Book) (l w : List Int) (hf : Fuel n) (h2 : l.length + 1 < n) (hw : walkO b.2.2 b.2.1 l = some w) : s22 n b l = some (lastI w) := by
  obtain ⟨r, hr, hlen⟩ := walkO_ne hw
  unfold s22
  rw [show ((b.1, (b.2.1, b.2.2)) : Book) = b from rfl, v40 n b l w hf h2 hw]
  simp only [Option.bind_some]
  rw [geti_last hf (by rw [hr]; unfold Lt; simp; omega) (by rw [hr]; simp)]
  rfl

theorem v44 (n : Nat) (b : Book) (s : Txt × List Int) (hf : Fuel n) (hb : Lt n b.1) (h1 : Lt n s.1) (h2 : Lt n s.2) : s44 n b s = some (sheetErr b s) := by
  unfold s44 sheetErr
  rw [v101 n s.1 (hf.le h1) h1]
  simp only [Option.bind_some, firstErr]
  cases nameOk s.1
  · rfl
  · simp only [Bool.not_true, cond_false, show ((b.1, (b.2.1, b.2.2)) : Book) = b from rfl, v18 n b s.2 hf hb h2, Option.bind_some]
    cases h : (marksErr b s.2 == 0)
    · simp [unl, h]
    · have : marksErr b s.2 = 0 := by simpa using h
      simp [unl, this]

theorem GoodB.say {b : Book} (h : GoodB b) : (l w : List Int) → (∀ m ∈ l, 0 ≤ m ∧ m < (b.1.length : Int)) → (∀ x ∈ w, 0 ≤ x ∧ x < (b.2.2.length : Int)) → l.length ≤ w.length → ∃ o, sayO b.2.2 w l = some o ∧ o.length = l.length
  | [], w, _, _, _ => ⟨[], by cases w <;> rfl, rfl⟩
  | m :: l, [], _, _, hlen => by simp at hlen
  | m :: l, k :: w, hl, hw, hlen => by
    obtain ⟨o, h1, h2⟩ := h.say l w (fun x hx => hl x (List.mem_cons_of_mem _ hx)) (fun x hx => hw x (List.mem_cons_of_mem _ hx)) (by simpa using hlen)
    have hk := hw k (List.mem_cons_self ..)
    have hm := hl m (List.mem_cons_self ..)
    obtain ⟨_, g2, _⟩ := h.next b.2.2[k.toNat] (List.getElem_mem _)
    refine ⟨(b.2.2[k.toNat]'(by omega)).2.2[m.toNat]'(by rw [g2]; omega) :: o, ?_, by simp [h2]⟩
    simp only [sayO, geti_of hk.1 hk.2, Option.bind_some]
    rw [geti_of hm.1 (by rw [g2]; exact hm.2)]
    simp [h1]

theorem sheetErr_zero {b : Book} {s : Txt × List Int} (h : sheetErr b s = 0) : marksErr b s.2 = 0 := by
  have := firstErr_zero.1 h
  exact this _ (by simp)

theorem lastI_mem {l : List Int} (h : l ≠ []) : lastI l ∈ l := by
  unfold lastI
  rw [List.getLastD_eq_getLast?, List.getLast?_eq_some_getLast h]
  exact List.getLast_mem h

theorem taste_sheets (b : Book) (s : Txt × List Int) : ∃ n, s7 n b s = some true := by
  refine ⟨0 + 2000, ?_⟩
  generalize hm : (0 : Nat) = m
  have hm0 : m = 0 := hm.symm
  clear hm
  have hf : Fuel (m + 2000) := ⟨by omega, by omega⟩
  have ht := awake_ok m
  generalize hn : m + 2000 = n at *
  unfold s7
  simp only [ht, Option.bind_some, Bool.not_true, cond_false, show ((b.1, b.2.1, b.2.2) : Book) = b from rfl, show ((s.1, s.2) : Txt × List Int) = s from rfl, v16 n b hf]
  rw [show decide (((List.length s.1 : Nat) : Int) > (20 : Int)) = !decide (s.1.length ≤ 20) from dec_gt _ 20]
  cases c1 : fewB b
  · rfl
  · obtain ⟨hb, _⟩ := few_fit c1 hf
    simp only [Bool.not_true, Bool.not_false, part_true, v36, Option.bind_some, Bool.false_or]
    cases c2 : fewM s.2
    · rfl
    · cases c0 : decide (s.1.length ≤ 20)
      · rfl
      · have hs1 : s.1.length ≤ 20 := by simpa using c0
        have hl := fewM_le c2
        have h1 : Lt n s.1 := by unfold Lt; omega
        have hlt : Lt n s.2 := by unfold Lt; omega
        have hl1 : s.2.length + 1 < n := by omega
        have v42 : s42 n s = some s := by
          unfold s42
          rw [v27 n s.2 hf hlt]
          rfl
        simp only [Bool.not_true, Bool.or_self, cond_false, v21 n b hf hb, Option.bind_some, v42, v17 n b hf hb]
        cases c3 : ((bookErr b).2 == 0)
        · have he : ((bif (bookErr b).2 == 0 then sheetErr b s else (bookErr b).2) == 0) = false := by rw [c3]; exact c3
          rw [v41_bad n b s hf hb h1 hlt he, v43_bad n b s hf hb h1 hlt he, c3]
          simp [bne, c3]
        · have he0 : (bookErr b).2 = 0 := by simpa using c3
          simp only [cond_true, v44 n b s hf hb.1 h1 hlt]
          cases c4 : (sheetErr b s == 0)
          · have he : ((bif (bookErr b).2 == 0 then sheetErr b s else (bookErr b).2) == 0) = false := by rw [c3]; exact c4
            rw [v41_bad n b s hf hb h1 hlt he, v43_bad n b s hf hb h1 hlt he, c3]
            simp [bne, c4]
          · have hs0 : sheetErr b s = 0 := by simpa using c4
            have hm0' := sheetErr_zero hs0
            have hg := bookErr_good he0
            have hmk := (marksErr_zero.1 hm0').2
            obtain ⟨w, hw, hwr⟩ := hg.walk s.2 hmk b.2.1 hg.begin'
            obtain ⟨r, hr, hrl⟩ := walkO_ne hw
            obtain ⟨o, ho, hol⟩ := hg.say s.2 w hmk hwr (by rw [hr]; simp; omega)
            have hla := hwr _ (lastI_mem (by rw [hr]; simp : w ≠ []))
            have hc := geti_of (l := b.2.2) hla.1 hla.2
            rw [v41_ok n b s w _ hf hb h1 hl1 he0 hs0 hw hc, v43_ok n b s w o hf hb h1 hl1 he0 hs0 hw ho]
            simp only [Option.bind_some, bne, c4, Bool.not_true, cond_false, beq_self_eq_true, part_true, v22_ok n b s.2 w hf hl1 hw, hc, Bool.true_and, Bool.and_self, v46_ok n b s.2 w o hf hl1 hw ho, v45 n o o hf (by unfold Lt; omega), hs0]

end Go.Abs
