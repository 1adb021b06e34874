/- What the small functions compute. -/
import Derived.Test.YtbcbiemjokpghaaNG4b
import Derived.Test.YtbcbiemjokpghaaNPlainA
set_option linter.unusedSimpArgs false
set_option linter.unusedVariables false
namespace Go.Abs
open Go

/-! Specifications. -/
def firstErr : List Int → Int
  | [] => 0
  | e :: r => bif e == 0 then firstErr r else e
def unl (ok : Bool) (e : Int) : Int := bif ok then 0 else e
def inR (n lo hi : Int) : Bool := decide (lo ≤ n) && decide (n ≤ hi)

def chOk (first : Bool) (c : UInt8) : Bool :=
  let n : Int := (c.toNat : Int)
  let letter := (decide (n ≥ 97) && decide (n ≤ 122)) || (decide (n ≥ 65) && decide (n ≤ 90))
  !(!letter && (first || (n != 45 && (decide (n < 48) || decide (n > 57)))))
def charsOk : Nat → List UInt8 → Bool
  | _, [] => true
  | i, c :: r => chOk (i == 0) c && charsOk (i + 1) r
def nameOk (s : List UInt8) : Bool := charsOk 0 s && s != [] && decide (s.length ≤ 12)

theorem v81 (n : Nat) (ok : Bool) (e : Int) : s81 n ok e = some (unl ok e) := by
  unfold s81 unl
  cases ok <;> rfl
theorem v82 (n : Nat) (x lo hi : Int) : s82 n x lo hi = some (inR x lo hi) := rfl
theorem v19 (n : Nat) (x lo hi : Int) : s19 n x lo hi = some (inR x lo hi) := rfl

theorem v80 (n : Nat) (l : List Int) (hl : l.length ≤ maxLen) (hn : l.length < n) : s80 n l = some (firstErr l) := by
  unfold s80
  refine list_loop0 l (fun i => (l, (l.length : Int), (i : Int), ())) (fun _ r => some (firstErr r)) hl ?_ ?_ hn
  · intro i x r hi hx hd hg hlt hw again ih
    simp only [s80_l0, hlt, cond_true, hg, Option.bind_some, hw, ih, firstErr, bne]
    cases h : (x == 0) <;> rfl
  · intro hlt again
    simp only [s80_l0, hlt, cond_false, firstErr]

theorem zero_beq (i : Nat) : ((i : Int) == 0) = (i == 0) := by
  cases i <;> simp
  omega

theorem v98 (n : Nat) (s : List UInt8) (hl : s.length ≤ maxLen) (hn : s.length < n) : s98 n s = some (nameOk s) := by
  unfold s98
  have hb : (bytesOf s).length = s.length := by simp [bytesOf]
  rw [hb]
  refine (list_loop0 s (fun i => (s, bytesOf s, (s.length : Int), (i : Int), ())) (fun i r => some (charsOk i r && s != [] && decide (s.length ≤ 12))) hl ?_ ?_ hn)
  · intro i x r hi hx hd hg hlt hw again ih
    have hg' : geti (bytesOf s) (i : Int) = some (x.toNat : Int) := by
      rw [geti_nat]; simp [bytesOf, hx]
    simp only [s98_l0, hlt, cond_true, hg', Option.bind_some, hw, ih, charsOk, chOk, zero_beq]
    rw [bif_eq]
    split
    · rename_i h
      rw [h]; rfl
    · rename_i h
      rw [Bool.not_eq_true] at h
      rw [h]; rfl
  · intro hlt again
    simp only [s98_l0, hlt, cond_false, charsOk, Bool.true_and]
    congr 2
    simp
    omega

theorem v101 (n : Nat) (s : List UInt8) (hl : s.length ≤ maxLen) (hn : s.length < n) : s101 n s = some (nameOk s) := by
  unfold s101
  rw [bif_eq]
  split
  · rename_i h
    have : nameOk s = false := by
      unfold nameOk
      cases s with
      | nil => simp
      | cons c r =>
        simp only [Bool.or_eq_true, decide_eq_true_eq] at h
        have : ¬ (c :: r).length ≤ 12 := by rcases h with h | h <;> simp at h ⊢ <;> omega
        simp only [this, decide_false, Bool.and_false]
    rw [this]
  · rename_i h
    have h12 : 1 ≤ s.length ∧ s.length ≤ 12 := by simp at h; omega
    refine (list_loop0 s (fun i => (s, (i : Int), ())) (fun i r => some (charsOk i r)) hl ?_ ?_ hn).trans ?_
    · intro i x r hi hx hd hg hlt hw again ih
      simp only [s101_l0, hlt, cond_true, hg, Option.bind_some, hw, ih, charsOk, chOk, zero_beq]
      rw [bif_eq]
      split
      · rename_i h
        rw [h]; rfl
      · rename_i h
        rw [Bool.not_eq_true] at h
        rw [h]; rfl
    · intro hlt again
      simp only [s101_l0, hlt, cond_false, charsOk]
    · unfold nameOk
      have : s != [] := by cases s <;> simp at h12 ⊢
      simp [this, h12]

/-- The place of the first element that is so, or -1. -/
def idxF {α : Type} (p : α → Bool) : Nat → List α → Int
  | _, [] => -1
  | i, x :: r => bif p x then (i : Int) else idxF p (i + 1) r
theorem idxF_any {α : Type} (p : α → Bool) (l : List α) : ∀ i, decide (idxF p i l ≥ 0) = l.any p := by
  induction l with
  | nil => intro i; rfl
  | cons x r ih =>
    intro i
    rw [List.any_cons, ← ih (i + 1)]
    cases h : p x <;> simp [idxF, h]

theorem v143 (n : Nat) (s : List (List UInt8)) (v : List UInt8) (hl : s.length ≤ maxLen) (hn : s.length < n) : s143 n s v = some (idxF (fun x => v == x) 0 s) := by
  unfold s143
  refine list_loop0 s (fun i => (s, v, (s.length : Int), (i : Int), ())) (fun i r => some (idxF (fun x => v == x) i r)) hl ?_ ?_ hn
  · intro i x r hi hx hd hg hlt hw again ih
    simp only [s143_l0, hlt, cond_true, hg, Option.bind_some, hw, ih, idxF]
    cases h : (v == x) <;> rfl
  · intro hlt again
    simp only [s143_l0, hlt, cond_false, idxF]

theorem v129 (n : Nat) (s : List (List UInt8)) (v : List UInt8) (hl : s.length ≤ maxLen) (hn : s.length < n) : s129 n s v = some (s.any fun x => v == x) := by
  unfold s129
  rw [v143 n s v hl hn, Option.bind_some, idxF_any]

theorem v127 (n : Nat) (s : List Int) (v : Int) (hl : s.length ≤ maxLen) (hn : s.length < n) : s127 n s v = some (idxF (fun x => v == x) 0 s) := by
  unfold s127
  refine list_loop0 s (fun i => (s, v, (s.length : Int), (i : Int), ())) (fun i r => some (idxF (fun x => v == x) i r)) hl ?_ ?_ hn
  · intro i x r hi hx hd hg hlt hw again ih
    simp only [s127_l0, hlt, cond_true, hg, Option.bind_some, hw, ih, idxF]
    cases h : (v == x) <;> rfl
  · intro hlt again
    simp only [s127_l0, hlt, cond_false, idxF]

theorem v128 (n : Nat) (s : List Int) (v : Int) (hl : s.length ≤ maxLen) (hn : s.length < n) : s128 n s v = some (s.any fun x => v == x) := by
  unfold s128
  rw [v127 n s v hl hn, Option.bind_some, idxF_any]

theorem v102 (n : Nat) (s : List (List UInt8)) (v : List UInt8) (hl : s.length ≤ maxLen) (hn : s.length < n) : s102 n s v = some (s.any fun x => v == x) := by
  unfold s102
  refine list_loop0 s (fun i => (s, v, (i : Int), ())) (fun i r => some (r.any fun x => v == x)) hl ?_ ?_ hn
  · intro i x r hi hx hd hg hlt hw again ih
    simp only [s102_l0, hlt, cond_true, hg, Option.bind_some, hw, ih, List.any_cons]
    rw [BEq.comm]
    cases h : (v == x) <;> rfl
  · intro hlt again
    simp only [s102_l0, hlt, cond_false, List.any_nil]

theorem v130 (n : Nat) (s : List Int) (f : Int → Option Bool) (q : Int → Bool) (hf : ∀ x ∈ s, f x = some (q x)) (hl : s.length ≤ maxLen) (hn : s.length < n) : s130 n s f = some (idxF q 0 s) := by
  unfold s130
  refine list_loop0 s (fun i => (s, f, (s.length : Int), (i : Int), ())) (fun i r => some (idxF q i r)) hl ?_ ?_ hn
  · intro i x r hi hx hd hg hlt hw again ih
    simp only [s130_l0, hlt, cond_true, hg, Option.bind_some, hw, ih, idxF, hf x (List.mem_of_getElem? hx)]
    cases h : q x <;> rfl
  · intro hlt again
    simp only [s130_l0, hlt, cond_false, idxF]
theorem v94 (n : Nat) (s : List Int) (f : Int → Option Bool) (q : Int → Bool) (hf : ∀ x ∈ s, f x = some (q x)) (hl : s.length ≤ maxLen) (hn : s.length < n) : s94 n s f = some (s.any q) := by
  unfold s94
  rw [v130 n s f q hf hl hn, Option.bind_some, idxF_any]
theorem v131 (n : Nat) (s : List (List UInt8)) (f : List UInt8 → Option Bool) (q : List UInt8 → Bool) (hf : ∀ x ∈ s, f x = some (q x)) (hl : s.length ≤ maxLen) (hn : s.length < n) : s131 n s f = some (idxF q 0 s) := by
  unfold s131
  refine list_loop0 s (fun i => (s, f, (s.length : Int), (i : Int), ())) (fun i r => some (idxF q i r)) hl ?_ ?_ hn
  · intro i x r hi hx hd hg hlt hw again ih
    simp only [s131_l0, hlt, cond_true, hg, Option.bind_some, hw, ih, idxF, hf x (List.mem_of_getElem? hx)]
    cases h : q x <;> rfl
  · intro hlt again
    simp only [s131_l0, hlt, cond_false, idxF]
theorem v96 (n : Nat) (s : List (List UInt8)) (f : List UInt8 → Option Bool) (q : List UInt8 → Bool) (hf : ∀ x ∈ s, f x = some (q x)) (hl : s.length ≤ maxLen) (hn : s.length < n) : s96 n s f = some (s.any q) := by
  unfold s96
  rw [v131 n s f q hf hl hn, Option.bind_some, idxF_any]

end Go.Abs
