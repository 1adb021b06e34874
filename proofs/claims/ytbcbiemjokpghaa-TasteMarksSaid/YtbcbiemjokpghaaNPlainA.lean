/- Plain facts on the printed functions' words: rounds of loops, elements, wraps. No program. -/
import Derived.Test.YtbcbiemjokpghaaNAbsV
set_option linter.unusedSimpArgs false
set_option linter.unusedVariables false
namespace Go.Abs
open Go

theorem wrap_id {x : Int} (h1 : -9223372036854775808 ≤ x) (h2 : x ≤ 9223372036854775807) : IntKind.wrap .i64 x = x := by
  simp [IntKind.wrap, IntKind.bits, IntKind.signed]
  omega

theorem wrap_lo (x : Int) : -9223372036854775808 ≤ IntKind.wrap .i64 x := by
  simp [IntKind.wrap, IntKind.bits, IntKind.signed]
  omega
theorem wrap_hi (x : Int) : IntKind.wrap .i64 x ≤ 9223372036854775807 := by
  simp [IntKind.wrap, IntKind.bits, IntKind.signed]
  omega

theorem geti_nat {α : Type} (l : List α) (i : Nat) : geti l (i : Int) = l[i]? := by simp [geti]
theorem geti_neg {α : Type} {l : List α} {i : Int} (h : i < 0) : geti l i = none := by
  unfold geti
  rw [if_neg (by omega)]
theorem geti_of {α : Type} {l : List α} {i : Int} (h0 : 0 ≤ i) (h1 : i < (l.length : Int)) : geti l i = some (l[i.toNat]'(by omega)) := by
  unfold geti
  rw [if_pos h0, List.getElem?_eq_getElem]
theorem seti_nat {α : Type} (l : List α) (i : Nat) (x : α) (h : i < l.length) : seti l (i : Int) x = some (l.set i x) := by
  unfold seti
  rw [if_pos ⟨by omega, by simpa using h⟩]
  simp
theorem cut_nat {α : Type} (l : List α) (i j : Nat) (h : i ≤ j) (hj : j ≤ l.length) : cut l (i : Int) (j : Int) = some ((l.take j).drop i) := by
  unfold cut
  rw [if_pos ⟨by omega, by omega, by omega⟩]
  simp
theorem cut_zero {α : Type} (l : List α) (j : Nat) (hj : j ≤ l.length) : cut l 0 (j : Int) = some (l.take j) := by
  have := cut_nat l 0 j (Nat.zero_le _) hj
  simpa using this
theorem chk_ok {n : Nat} (h : n ≤ 4294967296) : chk n = some () := by unfold chk most; rw [if_pos h]
theorem chki_ok {n : Int} (h0 : 0 ≤ n) (h : n ≤ 4294967296) : chki n = some () := by
  unfold chki most
  rw [if_pos ⟨h0, by simpa using h⟩]

theorem part_false {α : Type} (m : Option α) (d : α) : part false m d = some d := rfl

section
variable {D Ks R : Type} {body : D → (D → Option R) → Ks → Option R} {ks : Ks}

/-- A loop, by a relation between what stands in the slots and the result, and a measure. -/
theorem loop_rule (I : D → Option R → Prop) (μ : D → Nat)
    (h : ∀ d r, I d r → ∀ again, (∀ d' r', I d' r' → μ d' < μ d → again d' = r') → body d again ks = r) :
    ∀ (n : Nat) (d : D) (r : Option R), I d r → μ d < n → loopG body n d ks = r := by
  intro n
  induction n with
  | zero => intro d r _ hn; omega
  | succ n ih =>
    intro d r hI hn
    exact h d r hI _ fun d' r' hI' hm => ih d' r' hI' (by omega)

/-- A loop over a list, with what is gathered. -/
theorem list_loop {α A : Type} {n : Nat} (l : List α) (F : Nat → A → D) (G : Nat → A → List α → Option R) (Inv : Nat → A → Prop) (hl : l.length ≤ maxLen)
    (hs : ∀ i acc x r, i < l.length → l[i]? = some x → l.drop i = x :: r → geti l (i : Int) = some x → decide ((i : Int) < (l.length : Int)) = true → IntKind.wrap .i64 ((i : Int) + 1) = ((i + 1 : Nat) : Int) → Inv i acc →
      ∀ again, (∀ acc', Inv (i + 1) acc' → again (F (i + 1) acc') = G (i + 1) acc' r) → body (F i acc) again ks = G i acc (x :: r))
    (he : ∀ acc, decide ((l.length : Int) < (l.length : Int)) = false → Inv l.length acc → ∀ again, body (F l.length acc) again ks = G l.length acc [])
    (acc : A) (h0 : Inv 0 acc) (hn : l.length < n) : loopG body n (F 0 acc) ks = G 0 acc l := by
  have key : ∀ (m i : Nat) (acc : A), i ≤ l.length → Inv i acc → l.length - i < m → loopG body m (F i acc) ks = G i acc (l.drop i) := by
    intro m
    induction m with
    | zero => intro i acc _ _ h; omega
    | succ m ih =>
      intro i acc hi hI hm
      rw [loopG]
      by_cases h : i = l.length
      · subst h
        rw [List.drop_length]
        exact he acc (by simp) hI _
      · have hlt : i < l.length := by omega
        have hd : l.drop i = l[i] :: l.drop (i + 1) := List.drop_eq_getElem_cons hlt
        rw [hd]
        refine hs i acc l[i] (l.drop (i + 1)) hlt (List.getElem?_eq_getElem hlt) hd (by rw [geti_nat, List.getElem?_eq_getElem hlt]) (by simpa using hlt) (by rw [wrap_id] <;> unfold maxLen at hl <;> omega) hI _ fun acc' hI' => ?_
        exact ih (i + 1) acc' (by omega) hI' (by omega)
  have := key n 0 acc (Nat.zero_le _) h0 (by omega)
  simpa using this

theorem list_loop0 {α : Type} {n : Nat} (l : List α) (F : Nat → D) (G : Nat → List α → Option R) (hl : l.length ≤ maxLen)
    (hs : ∀ i x r, i < l.length → l[i]? = some x → l.drop i = x :: r → geti l (i : Int) = some x → decide ((i : Int) < (l.length : Int)) = true → IntKind.wrap .i64 ((i : Int) + 1) = ((i + 1 : Nat) : Int) →
      ∀ again, again (F (i + 1)) = G (i + 1) r → body (F i) again ks = G i (x :: r))
    (he : decide ((l.length : Int) < (l.length : Int)) = false → ∀ again, body (F l.length) again ks = G l.length [])
    (hn : l.length < n) : loopG body n (F 0) ks = G 0 l :=
  list_loop (A := Unit) l (fun i _ => F i) (fun i _ r => G i r) (fun _ _ => True) hl (fun i _ x r h1 h2 h3 h4 h5 h6 _ again ih => hs i x r h1 h2 h3 h4 h5 h6 again (ih () trivial)) (fun _ h _ again => he h again) () trivial hn

/-- A loop over the numbers below one. -/
theorem count_loop {A : Type} {n : Nat} (len : Nat) (F : Nat → A → D) (G : Nat → A → Option R) (Inv : Nat → A → Prop) (hl : len ≤ maxLen)
    (hs : ∀ i acc, i < len → decide ((i : Int) < (len : Int)) = true → IntKind.wrap .i64 ((i : Int) + 1) = ((i + 1 : Nat) : Int) → Inv i acc →
      ∀ again, (∀ acc', Inv (i + 1) acc' → again (F (i + 1) acc') = G (i + 1) acc') → body (F i acc) again ks = G i acc)
    (he : ∀ acc, decide ((len : Int) < (len : Int)) = false → Inv len acc → ∀ again, body (F len acc) again ks = G len acc)
    (acc : A) (h0 : Inv 0 acc) (hn : len < n) : loopG body n (F 0 acc) ks = G 0 acc := by
  have key : ∀ (m i : Nat) (acc : A), i ≤ len → Inv i acc → len - i < m → loopG body m (F i acc) ks = G i acc := by
    intro m
    induction m with
    | zero => intro i acc _ _ h; omega
    | succ m ih =>
      intro i acc hi hI hm
      rw [loopG]
      by_cases h : i = len
      · subst h
        exact he acc (by simp) hI _
      · have hlt : i < len := by omega
        refine hs i acc hlt (by simpa using hlt) (by rw [wrap_id] <;> unfold maxLen at hl <;> omega) hI _ fun acc' hI' => ?_
        exact ih (i + 1) acc' (by omega) hI' (by omega)
  exact key n 0 acc (Nat.zero_le _) h0 (by omega)
end

theorem cast_pred {n : Nat} (h : 0 < n) (hm : n ≤ maxLen) : IntKind.wrap .i64 ((n : Int) - 1) = ((n - 1 : Nat) : Int) := by
  unfold maxLen at hm
  rw [wrap_id] <;> omega

theorem bif_eq {α : Type} (b : Bool) (x y : α) : (bif b then x else y) = if b = true then x else y := by cases b <;> rfl

end Go.Abs
