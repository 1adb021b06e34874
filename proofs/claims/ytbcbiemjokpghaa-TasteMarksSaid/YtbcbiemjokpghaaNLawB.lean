/- Rule books: which are right; walks; classes. -/
import Derived.Test.YtbcbiemjokpghaaNLawA
set_option linter.unusedSimpArgs false
set_option linter.unusedVariables false
namespace Go.Abs
open Go

abbrev Txt := List UInt8
abbrev Cls := Txt × List Int × List Txt
abbrev Book := List Txt × Int × List Cls

def Lt {α : Type} (n : Nat) (l : List α) : Prop := l.length < n
def fitC (n : Nat) (c : Cls) : Prop := Lt n c.1 ∧ Lt n c.2.1 ∧ Lt n c.2.2 ∧ ∀ s ∈ c.2.2, Lt n s
def fitB (n : Nat) (b : Book) : Prop := Lt n b.1 ∧ (∀ s ∈ b.1, Lt n s) ∧ Lt n b.2.2 ∧ ∀ c ∈ b.2.2, fitC n c
structure Fuel (n : Nat) : Prop where
  lo : 2000 ≤ n
  hi : n ≤ 2147483648
theorem Fuel.le {n : Nat} (h : Fuel n) {α : Type} {l : List α} (hl : Lt n l) : l.length ≤ maxLen := by
  have := h.hi
  unfold Lt at hl
  unfold maxLen
  omega

def nameErrS (name : Txt) (others : List Txt) : Int := firstErr [unl (nameOk name) 4, unl (!(others.any fun x => name == x)) 5]
def marksGo (pre : List Txt) : List Txt → Int
  | [] => 0
  | m :: r => bif nameErrS m pre == 0 then marksGo (pre ++ [m]) r else nameErrS m pre
def clsErr (nm nc : Int) (pre : List Txt) (c : Cls) : Int :=
  firstErr [nameErrS c.1 pre, unl (((c.2.1.length : Int) == nm) && ((c.2.2.length : Int) == nm)) 10, unl (!(c.2.1.any fun k => !inR k 0 (nc - 1))) 6, unl (!(c.2.2.any fun s => !nameOk s)) 4]
def clsGo (nm nc : Int) : Nat → List Txt → List Cls → Int × Int
  | _, _, [] => (0, 0)
  | i, pre, c :: r => bif clsErr nm nc pre c == 0 then clsGo nm nc (i + 1) (pre ++ [c.1]) r else ((i : Int), clsErr nm nc pre c)
def sizeErr (b : Book) : Int := firstErr [unl (decide (0 < b.1.length) && decide (0 < b.2.2.length)) 10, unl (decide (b.1.length ≤ 6) && decide (b.2.2.length ≤ 8)) 8]
def bookErr (b : Book) : Int × Int :=
  bif sizeErr b == 0 then
    (bif marksGo [] b.1 == 0 then
      (bif inR b.2.1 0 ((b.2.2.length : Int) - 1) then clsGo b.1.length b.2.2.length 0 [] b.2.2 else (0, 6))
    else (0, marksGo [] b.1))
  else (0, sizeErr b)

theorem v92 (n : Nat) (name : Txt) (others : List Txt) (hf : Fuel n) (h1 : Lt n name) (h2 : Lt n others) : s92 n name others = some (nameErrS name others) := by
  unfold s92
  have := hf.lo
  rw [v98 n name (hf.le h1) h1, Option.bind_some, v81, Option.bind_some, v129 n others name (hf.le h2) h2, Option.bind_some, v81, Option.bind_some, v80 n _ (by simp [maxLen]) (by simp; omega)]
  rfl

/-- Marks, one after the other: both programs. -/
theorem v37_l0 (n : Nat) (hf : Fuel n) (marks : List Txt) (m : Int) (b1 : Int) (b2 : List Cls) (cl : Int) (h1 : Lt n marks) (h2 : ∀ s ∈ marks, Lt n s)
    (k0 : Int × List Txt × Int × List Cls × Int × Unit → Option (Int × Int)) (k1 : Int × Int × Unit → Option (Int × Int)) :
    loopG (s37_l0 n) n (m, marks, (marks.length : Int), (0 : Int), marks, b1, b2, cl, ()) (k0, k1, ()) =
      bif marksGo [] marks == 0 then k0 (m, marks, b1, b2, cl, ()) else k1 (0, marksGo [] marks, ()) := by
  refine (list_loop0 marks (fun i => (m, marks, (marks.length : Int), (i : Int), marks, b1, b2, cl, ())) (fun i r => bif marksGo (marks.take i) r == 0 then k0 (m, marks, b1, b2, cl, ()) else k1 (0, marksGo (marks.take i) r, ())) (hf.le h1) ?_ ?_ h1)
  · intro i x r hi hx hd hg hlt hw again ih
    have hx' : x ∈ marks := List.mem_of_getElem? hx
    simp only [s37_l0, hlt, cond_true, hg, Option.bind_some, hw, ih, cut_zero marks i (by omega), v92 n x (marks.take i) hf (h2 x hx') (by unfold Lt at *; simp; omega)]
    have ht : marks.take (i + 1) = marks.take i ++ [x] := by rw [List.take_add_one, hx]; rfl
    simp only [ht, bne, marksGo]
    cases h : (nameErrS x (marks.take i) == 0) <;> simp [h]
  · intro hlt again
    simp only [s37_l0, hlt, cond_false, marksGo]
    rfl

theorem v93 (n : Nat) (x c0 : Int) : s93 n x c0 = some (inR x 0 (IntKind.wrap .i64 (c0 - 1))) := rfl

theorem v37_l1 (n : Nat) (hf : Fuel n) (nm nc : Int) (isC : Int → Option Bool) (hC : ∀ x, isC x = some (inR x 0 (nc - 1))) (l : List Cls) (h1 : Lt n l) (h2 : ∀ c ∈ l, fitC n c)
    (k0 : Unit → Option (Int × Int)) (k1 : Int × Int × Unit → Option (Int × Int)) :
    loopG (s37_l1 n) n (nm, isC, l, (l.length : Int), (0 : Int), ([] : List Txt), ()) (k0, k1, ()) =
      bif (clsGo nm nc 0 [] l).2 == 0 then k0 () else k1 ((clsGo nm nc 0 [] l).1, (clsGo nm nc 0 [] l).2, ()) := by
  have hlo := hf.lo
  have hhi := hf.hi
  refine (list_loop (A := List Txt) l (fun i names => (nm, isC, l, (l.length : Int), (i : Int), names, ())) (fun i names r => bif (clsGo nm nc i names r).2 == 0 then k0 () else k1 ((clsGo nm nc i names r).1, (clsGo nm nc i names r).2, ()))
    (fun i names => names.length = i) (hf.le h1) ?_ ?_ [] rfl h1)
  · intro i names x r hi hx hd hg hlt hw hinv again ih
    obtain ⟨g1, g2, g3, g4⟩ := h2 x (List.mem_of_getElem? hx)
    have hnm : Lt n names := by unfold Lt at *; omega
    have e1 : s94 n x.2.1 (fun y0 => s95 n y0 isC) = some (x.2.1.any fun k => !inR k 0 (nc - 1)) := by
      refine v94 n _ _ (fun k => !inR k 0 (nc - 1)) (fun k _ => ?_) (hf.le g2) g2
      simp [s95, hC]
    have e2 : s96 n x.2.2 (fun x => s97 n x) = some (x.2.2.any fun s => !nameOk s) := by
      refine v96 n _ _ (fun s => !nameOk s) (fun s hs => ?_) (hf.le g3) g3
      simp [s97, v98 n s (hf.le (g4 s hs)) (g4 s hs)]
    simp only [s37_l1, hlt, cond_true, hg, Option.bind_some, hw, e1, e2, v92 n x.1 names hf g1 hnm, v81, v80 n [_, _, _, _] (by simp [maxLen]) (by simp; omega)]
    have hch : chk (names.length + ([x.1] : List Txt).length) = some () := chk_ok (by unfold Lt at *; simp; omega)
    rw [hch]
    simp only [Option.bind_some]
    rw [ih (names ++ [x.1]) (by simp [hinv])]
    have e3 : firstErr [nameErrS x.1 names, unl (((x.2.1.length : Int) == nm) && ((x.2.2.length : Int) == nm)) 10, unl (!(x.2.1.any fun k => !inR k 0 (nc - 1))) 6, unl (!(x.2.2.any fun s => !nameOk s)) 4] = clsErr nm nc names x := rfl
    rw [e3]
    simp only [clsGo, bne]
    cases h : (clsErr nm nc names x == 0) <;> simp [h]
  · intro names hlt hinv again
    simp only [s37_l1, hlt, cond_false, clsGo]
    rfl

theorem clsGo_ok (nm nc : Int) : (l : List Cls) → (i : Nat) → (pre : List Txt) → ((clsGo nm nc i pre l).2 == 0) = true → clsGo nm nc i pre l = (0, 0)
  | [], _, _, _ => rfl
  | c :: r, i, pre, h => by
    simp only [clsGo] at h ⊢
    cases hc : (clsErr nm nc pre c == 0)
    · rw [hc] at h; simp only [cond_false] at h; rw [hc] at h; cases h
    · rw [hc] at h; exact clsGo_ok nm nc r _ _ h

theorem dec_gt0 {α : Type} (l : List α) : decide (((List.length l : Nat) : Int) > (0 : Int)) = decide (0 < l.length) := by simp
theorem dec_le {α : Type} (l : List α) (k : Nat) : decide (((List.length l : Nat) : Int) ≤ (k : Int)) = decide (l.length ≤ k) := by congr 1; simp
theorem dec_gt {α : Type} (l : List α) (k : Nat) : decide (((List.length l : Nat) : Int) > (k : Int)) = !decide (l.length ≤ k) := by
  by_cases h : l.length ≤ k
  · rw [decide_eq_true h, decide_eq_false]; rfl; omega
  · rw [decide_eq_false h, decide_eq_true]; rfl; omega
theorem beq_zero {α : Type} (l : List α) : (((List.length l : Nat) : Int) == (0 : Int)) = !decide (0 < l.length) := by
  cases l <;> simp
  omega

theorem lenPred {α : Type} {n : Nat} (hf : Fuel n) {l : List α} (h : Lt n l) : IntKind.wrap .i64 ((l.length : Int) - 1) = (l.length : Int) - 1 := by
  have := hf.hi
  unfold Lt at h
  rw [wrap_id] <;> omega

theorem v37 (n : Nat) (b : Book) (hf : Fuel n) (hb : fitB n b) : s37 n b = some (bookErr b) := by
  obtain ⟨h1, h2, h3, h4⟩ := hb
  have hlo := hf.lo
  unfold s37
  simp only [v81, Option.bind_some, v80 n [_, _] (by simp [maxLen]) (by simp; omega), dec_gt0]
  have e0 : firstErr [unl (decide (0 < b.1.length) && decide (0 < b.2.2.length)) (10 : Int), unl ((decide (((List.length b.1 : Nat) : Int) ≤ (6 : Int))) && (decide (((List.length b.2.2 : Nat) : Int) ≤ (8 : Int)))) (8 : Int)] = sizeErr b := by
    unfold sizeErr
    have a3 : decide (((List.length b.1 : Nat) : Int) ≤ (6 : Int)) = decide (b.1.length ≤ 6) := dec_le b.1 6
    have a4 : decide (((List.length b.2.2 : Nat) : Int) ≤ (8 : Int)) = decide (b.2.2.length ≤ 8) := dec_le b.2.2 8
    rw [a3, a4]
  rw [e0, v37_l0 n hf b.1 _ _ _ _ h1 h2]
  unfold bookErr
  simp only [bne, v93, Option.bind_some, lenPred hf h3]
  cases hs : (sizeErr b == 0)
  · rfl
  · cases hm : (marksGo [] b.1 == 0)
    · rfl
    · cases hi : inR b.2.1 0 ((b.2.2.length : Int) - 1)
      · rfl
      · simp only [Bool.not_true, cond_false, cond_true]
        rw [v37_l1 n hf _ (b.2.2.length : Int) _ (fun x => rfl) b.2.2 h3 h4]
        cases hc : ((clsGo (b.1.length : Int) (b.2.2.length : Int) 0 [] b.2.2).2 == 0)
        · rfl
        · rw [clsGo_ok _ _ _ _ _ hc]; rfl

end Go.Abs
