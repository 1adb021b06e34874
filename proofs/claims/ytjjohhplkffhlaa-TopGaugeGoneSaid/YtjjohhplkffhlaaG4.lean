/- Parts of one proof, joined: How much is gone: what chapter 4 computes of a book of two gaugings. Plain. Who is blamed, and the law. Plain. -/
import Derived.Test.YtjjohhplkffhlaaG3
set_option linter.unusedSimpArgs false
set_option linter.unusedVariables false
namespace Go.Abs
open Go

theorem inR_iff {x a b : Int} : inR x a b = true ↔ a ≤ x ∧ x ≤ b := by simp [inR]

theorem loop_step {D Ks R : Type} {body : D → (D → Option R) → Ks → Option R} (n : Nat) (d : D) (ks : Ks) : loopG body (n + 1) d ks = body d (fun d => loopG body n d ks) ks := rfl

theorem v48 (n : Nat) {x b : Int} (hb : b = 1000 ∨ b = 100000) (h1 : -1000000000000000000 ≤ x) (h2 : x ≤ 1000000000000000000) : s48 n x b = some (x / b) := by
  unfold s48 qdiv qrem
  have hb0 : b ≠ 0 := by omega
  rw [if_neg hb0, if_neg hb0, Option.bind_some, Option.bind_some]
  by_cases hx : 0 ≤ x
  · have e1 : x.tdiv b = x / b := Int.tdiv_eq_ediv_of_nonneg hx
    have e2 : x.tmod b = x % b := Int.tmod_eq_emod_of_nonneg hx
    have e3 : 0 ≤ x % b := Int.emod_nonneg _ hb0
    have d : decide (x % b < 0) = false := by simp; omega
    rw [e1, e2, d, cond_false]
    rw [wrap_id] <;> rcases hb with rfl | rfl <;> omega
  · obtain ⟨y, rfl⟩ : ∃ y, x = -y := ⟨-x, by omega⟩
    have e1 : (-y).tdiv b = -(y / b) := by rw [Int.neg_tdiv, Int.tdiv_eq_ediv_of_nonneg (by omega)]
    have e2 : (-y).tmod b = -(y % b) := by rw [Int.neg_tmod, Int.tmod_eq_emod_of_nonneg (by omega)]
    rw [e1, e2]
    have w1 : IntKind.wrap .i64 (-(y / b)) = -(y / b) := by rw [wrap_id] <;> rcases hb with rfl | rfl <;> omega
    rw [w1]
    by_cases hm : y % b = 0
    · have d : decide (-(y % b) < 0) = false := by simp; omega
      rw [d, cond_false]
      congr 1
      rcases hb with rfl | rfl <;> omega
    · have h3 : 0 ≤ y % b := Int.emod_nonneg _ hb0
      have d : decide (-(y % b) < 0) = true := by simp; omega
      rw [d, cond_true]
      rw [wrap_id] <;> rcases hb with rfl | rfl <;> first | (congr 1; omega) | omega

theorem v49 (n : Nat) {x b : Int} (hb : b = 1000 ∨ b = 100000) (h1 : -1000000000000000000 ≤ x) (h2 : x ≤ 1000000000000000000) : s49 n x b = some (-(-x / b)) := by
  unfold s49
  have w1 : IntKind.wrap .i64 (0 - x) = -x := by rw [wrap_id] <;> omega
  rw [w1, v48 n hb (by omega) (by omega), Option.bind_some]
  rw [wrap_id] <;> rcases hb with rfl | rfl <;> first | (congr 1; omega) | omega

abbrev Rdg := List UInt8 × Int × Int × Int
abbrev Mov := Int × List UInt8 × List UInt8 × Int
abbrev Bok := (Int × Int) × List Rdg × List Mov

def caskN : List UInt8 := [99, 97, 115, 107]

/-- A book of two gaugings of one cask. -/
structure Two (lo hi d0 d1 a0 c0 a1 c1 : Int) : Prop where
  l0 : 0 ≤ lo
  l1 : lo ≤ hi
  l2 : hi ≤ 1000
  e0 : 0 ≤ d0
  e1 : d0 ≤ d1
  e2 : d1 ≤ 8
  f0 : 0 ≤ a0
  f1 : a0 ≤ c0
  f2 : c0 ≤ 50200
  g0 : 0 ≤ a1
  g1 : a1 ≤ c1
  g2 : c1 ≤ 50200

def two (lo hi d0 d1 a0 c0 a1 c1 : Int) : Bok := ((lo, hi), [(caskN, 1000 * d0, a0, c0), (caskN, 1000 * d1, a1, c1)], [])

theorem v22s (n : Nat) (l : List Int) (hl : l.length ≤ 8) (hn : 8 < n) : s22 n l = some (firstErr l) := v22 n l (by unfold maxLen; omega) (by omega)

theorem v63 (n : Nat) {d a c : Int} (hn : 12 < n) (h1 : 0 ≤ d) (h2 : d ≤ 8) (h3 : 0 ≤ a) (h4 : a ≤ c) (h5 : c ≤ 50200) : s63 n (caskN, 1000 * d, a, c) = some 0 := by
  have nm : nameOk caskN = true := by decide
  have i1 : s60 n (1000 * d) = some true := by
    show some (inR (1000 * d) 0 _) = _
    rw [inR_iff.2 ⟨by omega, by omega⟩]
  have i2 : s81 n a = some true := by
    show some (inR a 0 _) = _
    rw [inR_iff.2 ⟨by omega, by omega⟩]
  have i3 : s81 n c = some true := by
    show some (inR c 0 _) = _
    rw [inR_iff.2 ⟨by omega, by omega⟩]
  have i4 : s61 n (a, c) = some 0 := by
    unfold s61
    rw [v23]
    have : decide (a ≤ c) = true := by simpa using h4
    rw [this]; rfl
  unfold s63
  simp only [i1, i2, i3, i4, v59 n caskN (by decide) (by unfold caskN; simp; omega), nm, Option.bind_some, part_true, Bool.and_self, v23, unl, cond_true, v22s n [0, 0, 0] (by simp) (by omega)]
  rfl

theorem v62 (n : Nat) {lo hi d0 d1 a0 c0 a1 c1 : Int} (hn : 12 < n) (h : Two lo hi d0 d1 a0 c0 a1 c1) :
    s62 n [(caskN, 1000 * d0, a0, c0), (caskN, 1000 * d1, a1, c1)] (fun x => s63 n x) (fun x => s64 n x) = some (-1, 0) := by
  obtain ⟨m, rfl⟩ : ∃ m, n = m + 1 + 1 + 1 := ⟨n - 3, by omega⟩
  have k0 := v63 (m + 1 + 1 + 1) hn h.e0 (by have := h.e1; have := h.e2; omega) h.f0 h.f1 h.f2
  have k1 := v63 (m + 1 + 1 + 1) hn (d := d1) (by have := h.e0; have := h.e1; omega) h.e2 h.g0 h.g1 h.g2
  have ge : decide (1000 * d1 ≥ 1000 * d0) = true := by have := h.e1; simp; omega
  have w1 : IntKind.wrap .i64 ((0 : Int) + 1) = 1 := by decide
  have w2 : IntKind.wrap .i64 ((1 : Int) + 1) = 2 := by decide
  have w3 : imax 0 (IntKind.wrap .i64 ((1 : Int) - 1)) = 0 := by decide
  have q : s22 (m + 1 + 1 + 1) [0, 0] = some 0 := v22s _ [0, 0] (by simp) (by omega)
  unfold s62
  rw [loop_step]
  simp only [s62_l0, List.length_cons, List.length_nil]
  simp only [show decide ((0 : Int) < ((0 + 1 + 1 : Nat) : Int)) = true from rfl, cond_true, show ∀ x y : Rdg, geti [x, y] 0 = some x from fun _ _ => rfl, Option.bind_some, k0, show (!((0 : Int) == 0)) = false from rfl, part_false, show (((0 : Int) == 0) || decide ((0 : Int) ≥ 0)) = true from rfl, v23, unl, q, show ((0 : Int) != 0) = false from rfl, cond_false, w1]
  rw [loop_step]
  simp only [s62_l0]
  simp only [show decide ((1 : Int) < ((0 + 1 + 1 : Nat) : Int)) = true from rfl, cond_true, show ∀ x y : Rdg, geti [x, y] 1 = some y from fun _ _ => rfl, show ∀ x y : Rdg, geti [x, y] 0 = some x from fun _ _ => rfl, Option.bind_some, k1, show (!((1 : Int) == 0)) = true from rfl, part_true, w3, s64, ge, Bool.or_true, v23, unl, q, show ((0 : Int) != 0) = false from rfl, cond_false, w2]
  rw [loop_step]
  simp only [s62_l0]
  rfl

theorem v52 (n : Nat) {lo hi d0 d1 a0 c0 a1 c1 : Int} (hn : 12 < n) (h : Two lo hi d0 d1 a0 c0 a1 c1) : s52 n (two lo hi d0 d1 a0 c0 a1 c1) = some ((0, 0), 0) := by
  have h0 := h.l0
  have h1 := h.l1
  have h2 := h.l2
  have i1 : inR lo 0 100000 = true := inR_iff.2 ⟨by omega, by omega⟩
  have i2 : inR hi 0 100000 = true := inR_iff.2 ⟨by omega, by omega⟩
  have i4 : s61 n (lo, hi) = some 0 := by
    unfold s61
    rw [v23]
    have : decide (lo ≤ hi) = true := by simpa using h1
    rw [this]; rfl
  have i5 : s65 n [] (fun x => s66 n x) (fun x => s67 n x) = some (-1, 0) := by
    obtain ⟨m, rfl⟩ : ∃ m, n = m + 1 := ⟨n - 1, by omega⟩
    rfl
  have q : s22 n [0, 0, 0] = some 0 := v22s n [0, 0, 0] (by simp) (by omega)
  have hv := v62 n hn h
  unfold s52 two
  simp only [v41, i1, i2, i4, Option.bind_some, part_true, Bool.and_self, v23, unl, cond_true]
  simp only [show (decide ((([(caskN, 1000 * d0, a0, c0), (caskN, 1000 * d1, a1, c1)] : List Rdg).length : Int) ≤ 40) && decide ((([] : List Mov).length : Int) ≤ 60)) = true from rfl, cond_true, q, Option.bind_some, show ((0 : Int) != 0) = false from rfl, cond_false, hv, i5]

theorem v31 (n : Nat) {lo hi d0 d1 a0 c0 a1 c1 : Int} (hn : 12 < n) (h : Two lo hi d0 d1 a0 c0 a1 c1) : s31 n (two lo hi d0 d1 a0 c0 a1 c1) = some (two lo hi d0 d1 a0 c0 a1 c1, 0) := by
  unfold s31
  have := v52 n hn h
  unfold two at this ⊢
  rw [this]; rfl

theorem v29 (n : Nat) {lo hi d0 d1 a0 c0 a1 c1 : Int} (hn : 12 < n) (h : Two lo hi d0 d1 a0 c0 a1 c1) :
    s29 n (two lo hi d0 d1 a0 c0 a1 c1) (caskN, 1000 * d0, a0, c0) (1000 * d1) = some (1000 * (a0 - hi * (d1 - d0)), 1000 * (c0 - lo * (d1 - d0))) ∧
    0 ≤ lo * (d1 - d0) ∧ lo * (d1 - d0) ≤ hi * (d1 - d0) ∧ hi * (d1 - d0) ≤ 8000 := by
  obtain ⟨h0, h1, h2, k0, k1, k2, f0, f1, f2, g0, g1, g2⟩ := h
  have b1 : 0 ≤ lo * (d1 - d0) := Int.mul_nonneg h0 (by omega)
  have b2 : lo * (d1 - d0) ≤ hi * (d1 - d0) := Int.mul_le_mul_of_nonneg_right h1 (by omega)
  have b3 : hi * (d1 - d0) ≤ 1000 * 8 := Int.mul_le_mul h2 (by omega) (by omega) (by omega)
  refine ⟨?_, b1, b2, by omega⟩
  have hnet : s51 n ((lo, hi), [(caskN, 1000 * d0, a0, c0), (caskN, 1000 * d1, a1, c1)], []) caskN (1000 * d0) (1000 * d1) = some 0 := by
    obtain ⟨m, rfl⟩ : ∃ m, n = m + 1 := ⟨n - 1, by omega⟩
    rfl
  unfold s29 two
  have w0 : IntKind.wrap .i64 (1000 * d1 - 1000 * d0) = 1000 * (d1 - d0) := by rw [wrap_id] <;> omega
  have ge : decide (1000 * (d1 - d0) ≥ 0) = true := by simp; omega
  simp only [w0, ge, cond_true, hnet, Option.bind_some, Int.add_zero]
  have m1 : hi * (1000 * (d1 - d0)) = 1000 * (hi * (d1 - d0)) := by rw [Int.mul_left_comm]
  have m2 : lo * (1000 * (d1 - d0)) = 1000 * (lo * (d1 - d0)) := by rw [Int.mul_left_comm]
  rw [m1, m2]
  generalize hi * (d1 - d0) = p at *
  generalize lo * (d1 - d0) = q at *
  have w1 : IntKind.wrap .i64 a0 = a0 := wrap_id (by omega) (by omega)
  have w2 : IntKind.wrap .i64 c0 = c0 := wrap_id (by omega) (by omega)
  have w3 : IntKind.wrap .i64 (1000 * a0) = 1000 * a0 := wrap_id (by omega) (by omega)
  have w4 : IntKind.wrap .i64 (1000 * c0) = 1000 * c0 := wrap_id (by omega) (by omega)
  have w5 : IntKind.wrap .i64 (1000 * p) = 1000 * p := wrap_id (by omega) (by omega)
  have w6 : IntKind.wrap .i64 (1000 * q) = 1000 * q := wrap_id (by omega) (by omega)
  rw [w1, w2, w3, w4, w5, w6]
  have w7 : IntKind.wrap .i64 (1000 * a0 - 1000 * p) = 1000 * (a0 - p) := by rw [wrap_id] <;> omega
  have w8 : IntKind.wrap .i64 (1000 * c0 - 1000 * q) = 1000 * (c0 - q) := by rw [wrap_id] <;> omega
  rw [w7, w8]

/-- Whether the two gaugings contradict. -/
def clash (lo hi d0 d1 a0 c0 a1 c1 : Int) : Bool := decide (a0 - hi * (d1 - d0) > c1) || decide (c0 - lo * (d1 - d0) < a1)

theorem v30 (n : Nat) {lo hi d0 d1 a0 c0 a1 c1 : Int} (hn : 12 < n) (h : Two lo hi d0 d1 a0 c0 a1 c1) : s30 n (two lo hi d0 d1 a0 c0 a1 c1) 0 1 = some (clash lo hi d0 d1 a0 c0 a1 c1) := by
  obtain ⟨e, b⟩ := v29 n hn h
  obtain ⟨h0, h1, h2, k0, k1, k2, f0, f1, f2, g0, g1, g2⟩ := h
  unfold s30
  unfold two at e ⊢
  simp only [show ∀ x y : Rdg, geti [x, y] 0 = some x from fun _ _ => rfl, show ∀ x y : Rdg, geti [x, y] 1 = some y from fun _ _ => rfl, Option.bind_some]
  rw [e]
  have w1 : IntKind.wrap .i64 (1000 * c1) = 1000 * c1 := wrap_id (by omega) (by omega)
  have w2 : IntKind.wrap .i64 (1000 * a1) = 1000 * a1 := wrap_id (by omega) (by omega)
  simp only [Option.bind_some, w1, w2, show (caskN == caskN) = true from by decide, Bool.true_and, clash]
  congr 2
  · apply decide_eq_decide.2; omega
  · apply decide_eq_decide.2; omega

theorem v32 (n : Nat) {lo hi d0 d1 a0 c0 a1 c1 : Int} (hn : 12 < n) (h : Two lo hi d0 d1 a0 c0 a1 c1) :
    s32 n (two lo hi d0 d1 a0 c0 a1 c1) = some (bif clash lo hi d0 d1 a0 c0 a1 c1 then [(0, 1)] else []) := by
  have e := v30 n hn h
  unfold two at e
  obtain ⟨m, rfl⟩ : ∃ m, n = m + 1 + 1 + 1 := ⟨n - 3, by omega⟩
  unfold s32 two
  have w1 : IntKind.wrap .i64 ((0 : Int) + 1) = 1 := by decide
  have w2 : IntKind.wrap .i64 ((1 : Int) + 1) = 2 := by decide
  simp only [List.length_cons, List.length_nil]
  rw [loop_step]
  simp only [s32_l0, show decide ((0 : Int) < ((0 + 1 + 1 : Nat) : Int)) = true from rfl, cond_true, w1]
  rw [loop_step]
  simp only [s32_l0_0, List.length_cons, List.length_nil, show decide ((1 : Int) < ((0 + 1 + 1 : Nat) : Int)) = true from rfl, cond_true, e, Option.bind_some, w2]
  cases clash lo hi d0 d1 a0 c0 a1 c1 <;> rfl

theorem v27 (n : Nat) {lo hi d0 d1 a0 c0 a1 c1 : Int} (hn : 12 < n) (h : Two lo hi d0 d1 a0 c0 a1 c1) : s27 n (two lo hi d0 d1 a0 c0 a1 c1) (0, 1) = some (two lo hi d0 d1 a0 c0 a1 c1, 0) := by
  have e := v31 n hn h
  have k1 := h.e1
  unfold s27
  unfold two at e ⊢
  have q3 : s22 n [0, 0, 0] = some 0 := v22s n [0, 0, 0] (by simp) (by omega)
  have q2 : s22 n [0, 0] = some 0 := v22s n [0, 0] (by simp) (by omega)
  have r0 : ∀ b, s50 n ((lo, hi), [(caskN, 1000 * d0, a0, c0), (caskN, 1000 * d1, a1, c1)], b) 0 = some 0 := fun b => rfl
  have r1 : ∀ b, s50 n ((lo, hi), [(caskN, 1000 * d0, a0, c0), (caskN, 1000 * d1, a1, c1)], b) 1 = some 0 := fun b => rfl
  have ge : decide (1000 * d0 ≤ 1000 * d1) = true := by simp; omega
  simp only [e, Option.bind_some, r0, r1, q3, show ((0 : Int) != 0) = false from rfl, cond_false, show ∀ x y : Rdg, geti [x, y] 0 = some x from fun _ _ => rfl, show ∀ x y : Rdg, geti [x, y] 1 = some y from fun _ _ => rfl,
    show (caskN == caskN) = true from by decide, v23, unl, cond_true, show decide ((0 : Int) < 1) = true from rfl, ge, Bool.and_self, q2]

/-- How much is gone. -/
theorem v13 (n : Nat) {lo hi d0 d1 a0 c0 a1 c1 : Int} (hn : 12 < n) (h : Two lo hi d0 d1 a0 c0 a1 c1) :
    s13 n (two lo hi d0 d1 a0 c0 a1 c1) (0, 1) = some ((a0 - hi * (d1 - d0) - c1, c0 - lo * (d1 - d0) - a1), 0) := by
  have e := v27 n hn h
  obtain ⟨e2, b⟩ := v29 n hn h
  obtain ⟨h0, h1, h2, k0, k1, k2, f0, f1, f2, g0, g1, g2⟩ := h
  unfold s13
  unfold two at e e2 ⊢
  simp only [e, Option.bind_some, show ((0 : Int) != 0) = false from rfl, cond_false, show ∀ x y : Rdg, geti [x, y] 0 = some x from fun _ _ => rfl, show ∀ x y : Rdg, geti [x, y] 1 = some y from fun _ _ => rfl, e2]
  generalize hi * (d1 - d0) = p at *
  generalize lo * (d1 - d0) = q at *
  have t : s28 n (1000 * (a0 - p), 1000 * (c0 - q)) = some (a0 - p, c0 - q) := by
    unfold s28
    rw [v48 n (.inl rfl) (by omega) (by omega), v49 n (.inl rfl) (by omega) (by omega), Option.bind_some, Option.bind_some]
    have e1 : 1000 * (a0 - p) / 1000 = a0 - p := by omega
    have e2 : -(-(1000 * (c0 - q)) / 1000) = c0 - q := by omega
    rw [e1, e2]
  rw [t, Option.bind_some]
  have w1 : IntKind.wrap .i64 (a0 - p - c1) = a0 - p - c1 := wrap_id (by omega) (by omega)
  have w2 : IntKind.wrap .i64 (c0 - q - a1) = c0 - q - a1 := wrap_id (by omega) (by omega)
  simp only [w1, w2]

theorem v15 (n : Nat) {lo hi d0 d1 a0 c0 a1 c1 : Int} (hn : 12 < n) (h : Two lo hi d0 d1 a0 c0 a1 c1) : s15 n (two lo hi d0 d1 a0 c0 a1 c1) (0, 1) = some (clash lo hi d0 d1 a0 c0 a1 c1, 0) := by
  have e := v27 n hn h
  have e2 := v30 n hn h
  unfold s15
  unfold two at e e2 ⊢
  simp only [e, Option.bind_some, show ((0 : Int) == 0) = true from rfl, part_true, e2, Bool.true_and]

end Go.Abs

set_option linter.unusedSimpArgs false
set_option linter.unusedVariables false
namespace Go.Abs
open Go

theorem loop_at {D Ks R : Type} {body : D → (D → Option R) → Ks → Option R} (m : Nat) {n : Nat} (h : n = m + 1) (d : D) (ks : Ks) : loopG body n d ks = body d (fun d => loopG body m d ks) ks := by
  subst h
  rfl

theorem sort_nil (n : Nat) : s33 n [] = some [] := by
  unfold s33
  rw [chk_ok (by simp)]
  simp

theorem sort_01 (n : Nat) : s33 n [0, 1] = some [0, 1] := by
  unfold s33
  rw [chk_ok (by simp), Option.bind_some]
  congr 1
  exact List.mergeSort_of_pairwise (by simp)

theorem compact_nil (n : Nat) : s34 n [] = some [] := by
  unfold s34
  rw [chk_ok (by simp)]
  rfl

theorem compact_01 (n : Nat) : s34 n [0, 1] = some [0, 1] := by
  unfold s34
  rw [chk_ok (by simp), Option.bind_some]
  rfl

theorem s16_a (n : Nat) (p : Int × Int) (ag : List (Int × Int) × List (Int × Int) × Int × Int × List Int × Unit → Option (List Int × Int)) (k : List (Int × Int) × List Int × Unit → Option (List Int × Int)) :
    s16_l0 n ([p], [p], 1, 0, [], ()) ag (k, ()) = ag ([p], [p], 1, 1, [p.1, p.2], ()) := by
  have w : IntKind.wrap .i64 ((0 : Int) + 1) = 1 := by decide
  have g : geti [p] 0 = some p := rfl
  have c : chk (List.length ([] : List Int) + List.length [p.1, p.2]) = some () := chk_ok (by simp)
  simp only [s16_l0, show decide ((0 : Int) < 1) = true from rfl, cond_true, g, Option.bind_some, c, w, List.nil_append]

theorem s16_b (n : Nat) (p : Int × Int) (a : List Int) (ag : List (Int × Int) × List (Int × Int) × Int × Int × List Int × Unit → Option (List Int × Int)) (k : List (Int × Int) × List Int × Unit → Option (List Int × Int)) :
    s16_l0 n ([p], [p], 1, 1, a, ()) ag (k, ()) = k ([p], a, ()) := rfl

theorem s16_z (n : Nat) (ag : List (Int × Int) × List (Int × Int) × Int × Int × List Int × Unit → Option (List Int × Int)) (k : List (Int × Int) × List Int × Unit → Option (List Int × Int)) :
    s16_l0 n ([], [], 0, 0, [], ()) ag (k, ()) = k ([], [], ()) := rfl

/-- The rest: who is blamed of no pairs, and of one. -/
def restB (pairs : List (Int × Int)) (l : List Int) : Option (List Int × Int) :=
  bif decide (((List.length l : Nat) : Int) > (14 : Int)) then some (([] : List Int), (8 : Int))
  else (shlI .u64 (1 : Int) ((List.length l : Nat) : Int)).bind fun q =>
    loopG (s16_l1 2000) 2000 (pairs, l, (fun y0 => s35 2000 y0 l), (IntKind.wrap .u64 (q - (1 : Int))), (IntKind.wrap .u64 (q - (1 : Int))), ())
      (fun (x : List Int × (Int → Option Int) × Int × Unit) =>
        loopG (s16_l2 2000) 2000 (x.2.1, x.2.2.1, x.1, ((List.length x.1 : Nat) : Int), (0 : Int), ([] : List Int), ())
          (fun (x : List Int × Unit) => some (x.1, (0 : Int)), ()), ())

theorem rest0 : restB [] [] = some ([], 0) := by kernel_rfl
theorem rest1 : restB [(0, 1)] [0, 1] = some ([0], 0) := by kernel_rfl

def contB (x : List (Int × Int) × List Int × Unit) : Option (List Int × Int) :=
  (s33 2000 x.2.1).bind fun l => (s34 2000 l).bind fun l => restB x.1 l

theorem contB_of {pairs : List (Int × Int)} {l a b : List Int} {r : Option (List Int × Int)} (h1 : s33 2000 l = some a) (h2 : s34 2000 a = some b) (h3 : restB pairs b = r) : contB (pairs, l, ()) = r := by
  unfold contB
  simp only [h1, h2, h3, Option.bind_some]

theorem cont0 : contB ([], [], ()) = some ([], 0) := contB_of (sort_nil 2000) (compact_nil 2000) rest0
theorem cont1 : contB ([(0, 1)], [0, 1], ()) = some ([0], 0) := contB_of (sort_01 2000) (compact_01 2000) rest1

theorem v16 {lo hi d0 d1 a0 c0 a1 c1 : Int} (h : Two lo hi d0 d1 a0 c0 a1 c1) : ∃ l : List Int, s16 2000 (two lo hi d0 d1 a0 c0 a1 c1) = some (l, 0) ∧ (l.length : Int) = bif clash lo hi d0 d1 a0 c0 a1 c1 then 1 else 0 := by
  have e := v31 2000 (by omega) h
  have e2 := v32 2000 (by omega) h
  unfold s16
  unfold two at e e2 ⊢
  simp only [e, Option.bind_some, show ((0 : Int) != 0) = false from rfl, cond_false, e2]
  cases clash lo hi d0 d1 a0 c0 a1 c1
  · refine ⟨[], ?_, rfl⟩
    refine (loop_at (body := s16_l0 2000) (ks := (contB, ())) 1999 rfl ([], [], 0, 0, [], ())).trans ?_
    rw [s16_z, cont0]
  · refine ⟨[0], ?_, rfl⟩
    refine (loop_at (body := s16_l0 2000) (ks := (contB, ())) 1999 rfl ([(0, 1)], [(0, 1)], 1, 0, [], ())).trans ?_
    rw [s16_a, loop_at (body := s16_l0 2000) 1998 rfl, s16_b, cont1]

theorem v14 (n : Nat) (lo hi d0 d1 a0 c0 a1 c1 : Int) : s14 n (two lo hi d0 d1 a0 c0 a1 c1) = some (two lo hi d0 d1 a0 c0 a1 c1) := by
  unfold s14 two
  rw [chk_ok (by simp), chk_ok (by simp)]
  rfl

theorem awake_ok : s5 2000 = some true := by kernel_rfl

/-- A round of the loop that makes the book. -/
theorem s4_step (n : Nat) {V L mv b b1 taken i d d0 : Int} {w : Int × Int} {ds : List Int} {ws : List (Int × Int)} {acc : List Rdg} (hV0 : 0 ≤ V) (hV : V ≤ 50000) (hL0 : 0 ≤ L) (hL : L ≤ 1000) (ht0 : 0 ≤ taken) (ht : taken ≤ 20000)
    (hi : i = 0 ∨ i = 1) (h1 : geti ds i = some d) (h0 : geti ds 0 = some d0) (hw : geti ws i = some w) (hacc : acc.length ≤ 2)
    {again : Int × Int × Int × Int × Int × List Int × List (Int × Int) × Int × Int × List Rdg × Unit → Option Bool} {k0 : Int × Int × Int × List Rdg × Unit → Option Bool} {k1 : Bool × Unit → Option Bool}
    (hk : k1 (true, ()) = some true)
    (ha : 0 ≤ d → d ≤ 8 → (i = 1 → d0 ≤ d) → 0 ≤ w.1 → w.1 ≤ 100 → 0 ≤ w.2 → w.2 ≤ 100 → 100 ≤ V - L * d - i * taken →
      again (taken, i + 1, V, L, mv, ds, ws, b, b1, acc ++ [(caskN, 1000 * d, V - L * d - i * taken - w.1, V - L * d - i * taken + w.2)], ()) = some true) :
    s4_l0 n (taken, i, V, L, mv, ds, ws, b, b1, acc, ()) again (k0, k1, ()) = some true := by
  have hlt : decide (i < 2) = true := by rcases hi with rfl | rfl <;> decide
  simp only [s4_l0, hlt, cond_true, h1, Option.bind_some, v12]
  cases hx : inR d 0 8
  · simp only [Bool.not_false, Bool.not_true, Bool.false_and, part_false, Option.bind_some, Bool.true_or, cond_true, hk]
  obtain ⟨hd1, hd2⟩ := inR_iff.1 hx
  have hp0 : 0 ≤ L * d := Int.mul_nonneg hL0 hd1
  have hp : L * d ≤ 1000 * 8 := Int.mul_le_mul hL hd2 hd1 (by omega)
  have hit : 0 ≤ i * taken ∧ i * taken ≤ 20000 := by rcases hi with rfl | rfl <;> omega
  have hbeh : ∃ e2 e3 : Int, part ((!(!true)) && decide (i > 0)) (some d) 0 = some e2 ∧ part ((!(!true)) && decide (i > 0)) (geti ds 0) 0 = some e3 ∧
      (decide (i > 0) && decide (e2 < e3)) = decide (i = 1 ∧ d < d0) := by
    rcases hi with rfl | rfl
    · exact ⟨0, 0, rfl, rfl, by simp⟩
    · refine ⟨d, d0, rfl, by rw [h0]; rfl, by simp⟩
  obtain ⟨e2, e3, q2, q3, q4⟩ := hbeh
  simp only [q2, q3, Option.bind_some, q4]
  by_cases hb : i = 1 ∧ d < d0
  · have : decide (i = 1 ∧ d < d0) = true := by simpa using hb
    simp only [this, Bool.not_true, Bool.false_or, part_false, Option.bind_some, Bool.true_or, cond_true, hk]
  · have : decide (i = 1 ∧ d < d0) = false := by simpa using hb
    simp only [this, Bool.not_true, Bool.not_false, Bool.false_or, Bool.or_false, part_true, hw, Option.bind_some]
    cases hw1 : inR w.1 0 100
    · simp only [Bool.not_false, Bool.not_true, part_false, Option.bind_some, Bool.true_or, cond_true, hk]
    cases hw2 : inR w.2 0 100
    · simp only [Bool.not_false, Bool.not_true, part_true, hw2, Option.bind_some, Bool.true_or, Bool.or_true, cond_true, hk]
    obtain ⟨u1, u2⟩ := inR_iff.1 hw1
    obtain ⟨u3, u4⟩ := inR_iff.1 hw2
    have w1 : IntKind.wrap .i64 (L * d) = L * d := wrap_id (by omega) (by omega)
    have w2 : IntKind.wrap .i64 (V - L * d) = V - L * d := wrap_id (by omega) (by omega)
    have w3 : IntKind.wrap .i64 (i * taken) = i * taken := wrap_id (by omega) (by omega)
    have w4 : IntKind.wrap .i64 (V - L * d - i * taken) = V - L * d - i * taken := wrap_id (by omega) (by omega)
    have w5 : IntKind.wrap .i64 (1000 * d) = 1000 * d := wrap_id (by omega) (by omega)
    have w6 : IntKind.wrap .i64 (V - L * d - i * taken - w.1) = V - L * d - i * taken - w.1 := wrap_id (by omega) (by omega)
    have w7 : IntKind.wrap .i64 (V - L * d - i * taken + w.2) = V - L * d - i * taken + w.2 := wrap_id (by omega) (by omega)
    have w8 : IntKind.wrap .i64 (i + 1) = i + 1 := by rcases hi with rfl | rfl <;> decide
    simp only [part_true, hw2, Option.bind_some, Bool.not_true, Bool.not_false, Bool.or_false, Bool.false_or, w1, w2, w3, w4]
    by_cases hn : V - L * d - i * taken < 100
    · have : decide (V - L * d - i * taken < 100) = true := by simpa using hn
      simp only [this, cond_true, hk]
    · have : decide (V - L * d - i * taken < 100) = false := by simpa using hn
      simp only [this, cond_false, Option.bind_some, w5, w6, w7, w8]
      rw [chk_ok (by simp; omega), Option.bind_some]
      exact ha hd1 hd2 (fun hi1 => by simp only [not_and] at hb; have := hb hi1; omega) u1 u2 u3 u4 (by omega)

/-- How much is gone, and who is blamed. -/
theorem gauge_gone (x : Int × Int × Int × (List Int) × (List (Int × Int))) (loss : Int × Int) (taken : Int) : ∃ n, s4 n x loss taken = some true := by
  refine ⟨2000, ?_⟩
  obtain ⟨V, L, mv, ds, ws⟩ := x
  unfold s4
  rw [awake_ok, Option.bind_some]
  simp only [Bool.not_true, cond_false, v12, Option.bind_some]
  cases h1 : inR V 0 50000
  · simp only [Bool.not_false, Bool.not_true, part_false, Option.bind_some, Bool.true_or, cond_true]
  cases h2 : inR loss.1 0 L
  · simp only [Bool.not_false, Bool.not_true, part_true, part_false, h2, Option.bind_some, Bool.true_or, Bool.or_true, cond_true]
  cases h3 : inR loss.2 L 1000
  · simp only [Bool.not_false, Bool.not_true, part_true, part_false, h2, h3, Option.bind_some, Bool.true_or, Bool.or_true, Bool.or_false, Bool.false_or, cond_true]
  simp only [Bool.not_false, Bool.not_true, part_true, h2, h3, Option.bind_some, Bool.or_false, Bool.false_or]
  cases h4 : (mv != (0 : Int))
  rotate_left
  · simp only [Bool.true_or, Bool.not_true, part_false, Option.bind_some, cond_true]
  cases h5 : (((List.length ds : Nat) : Int) != (2 : Int))
  rotate_left
  · simp only [Bool.true_or, Bool.or_true, Bool.not_true, part_false, Option.bind_some, cond_true]
  cases h6 : decide (((List.length ws : Nat) : Int) < (2 : Int))
  rotate_left
  · simp only [Bool.true_or, Bool.or_true, Bool.not_true, part_false, Option.bind_some, cond_true]
  simp only [Bool.or_false, Bool.not_false, part_true, Option.bind_some]
  cases h7 : inR taken 0 20000
  · rfl
  simp only [Bool.not_true, Bool.or_false, cond_false]
  obtain ⟨V0, V1⟩ := inR_iff.1 h1
  obtain ⟨l0, l1⟩ := inR_iff.1 h2
  obtain ⟨l2, l3⟩ := inR_iff.1 h3
  obtain ⟨t0, t1⟩ := inR_iff.1 h7
  obtain ⟨d0, d1, rfl⟩ : ∃ d0 d1, ds = [d0, d1] := by
    simp at h5
    match ds, h5 with
    | [a, b], _ => exact ⟨a, b, rfl⟩
    | [], h => simp at h
    | [_], h => simp at h
    | _ :: _ :: _ :: _, h => simp at h; omega
  obtain ⟨w0, w1, ws, rfl⟩ : ∃ w0 w1 r, ws = w0 :: w1 :: r := by
    simp at h6
    match ws, h6 with
    | a :: b :: r, _ => exact ⟨a, b, r, rfl⟩
    | [], h => simp at h
    | [_], h => simp at h
  obtain ⟨lo, hi⟩ := loss
  dsimp only at *
  rw [loop_at (body := s4_l0 2000) 1999 rfl]
  refine s4_step 2000 V0 V1 (by omega) (by omega) t0 t1 (.inl rfl) (d := d0) (d0 := d0) (w := w0) rfl rfl rfl (by simp) rfl ?_
  intro a1 a2 _ a3 a4 a5 a6 a7
  rw [show (0 : Int) + 1 = 1 from rfl, loop_at (body := s4_l0 2000) 1998 rfl]
  refine s4_step 2000 V0 V1 (by omega) (by omega) t0 t1 (.inr rfl) (d := d1) (d0 := d0) (w := w1) rfl rfl rfl (by simp) rfl ?_
  intro b1 b2 b0 b3 b4 b5 b6 b7
  have b0 := b0 rfl
  rw [loop_at (body := s4_l0 2000) 1997 rfl]
  have hend : decide ((1 : Int) + 1 < 2) = false := by decide
  rw [Int.zero_mul, Int.sub_zero] at a7
  rw [Int.one_mul] at b7
  have hL0 : 0 ≤ L := by omega
  have p0 : 0 ≤ L * d0 := Int.mul_nonneg hL0 a1
  have p1 : 0 ≤ L * d1 := Int.mul_nonneg hL0 b1
  have hT : Two lo hi d0 d1 (V - L * d0 - w0.1) (V - L * d0 + w0.2) (V - L * d1 - taken - w1.1) (V - L * d1 - taken + w1.2) := by
    refine ⟨l0, by omega, l3, a1, b0, b2, ?_, ?_, ?_, ?_, ?_, ?_⟩ <;> omega
  have hB : ((lo, hi), (([] : List Rdg) ++ [(caskN, 1000 * d0, V - L * d0 - 0 * taken - w0.1, V - L * d0 - 0 * taken + w0.2)] ++ [(caskN, 1000 * d1, V - L * d1 - 1 * taken - w1.1, V - L * d1 - 1 * taken + w1.2)], ([] : List Mov)))
      = two lo hi d0 d1 (V - L * d0 - w0.1) (V - L * d0 + w0.2) (V - L * d1 - taken - w1.1) (V - L * d1 - taken + w1.2) := by
    simp only [two, List.nil_append, List.cons_append, Int.zero_mul, Int.sub_zero, Int.one_mul]
  simp only [s4_l0, hend, cond_false]
  rw [hB]
  obtain ⟨bl, e16, hbl⟩ := v16 hT
  rw [v14, Option.bind_some, v13 2000 (by omega) hT, Option.bind_some, Option.bind_some, v15 2000 (by omega) hT, Option.bind_some, Option.bind_some, e16, Option.bind_some]
  have q1 : lo * (d1 - d0) ≤ L * (d1 - d0) := Int.mul_le_mul_of_nonneg_right (by omega) (by omega)
  have q2 : L * (d1 - d0) ≤ hi * (d1 - d0) := Int.mul_le_mul_of_nonneg_right (by omega) (by omega)
  have q3 : L * (d1 - d0) = L * d1 - L * d0 := Int.mul_sub _ _ _
  have hin : inR taken (V - L * d0 - w0.1 - hi * (d1 - d0) - (V - L * d1 - taken + w1.2)) (V - L * d0 + w0.2 - lo * (d1 - d0) - (V - L * d1 - taken - w1.1)) = true := inR_iff.2 ⟨by omega, by omega⟩
  simp only [show ((0 : Int) != 0) = false from rfl, Bool.or_self, Bool.not_false, part_true, hin, Option.bind_some, Bool.not_true, cond_false]
  cases hc : clash lo hi d0 d1 (V - L * d0 - w0.1) (V - L * d0 + w0.2) (V - L * d1 - taken - w1.1) (V - L * d1 - taken + w1.2)
  · rw [hc] at hbl
    simp only [cond_false] at hbl ⊢
    rw [hbl]; rfl
  · rw [hc] at hbl
    simp only [cond_true] at hbl ⊢
    rw [hbl]
    have : taken > 0 := by
      unfold clash at hc
      simp only [Bool.or_eq_true, decide_eq_true_eq] at hc
      omega
    have h8 : decide (taken > 0) = true := by simpa using this
    rw [h8]; rfl

end Go.Abs
