/- How far two tasters agree; TasteAgrees. -/
import Derived.Test.YtbcbiemjokpghaaNLawI
set_option linter.unusedSimpArgs false
set_option linter.unusedVariables false
namespace Go.Abs
open Go

/-- In how many places two lists are the same. -/
def eqs : List Int → List Int → Nat
  | x :: l, y :: m => (bif y == x then 1 else 0) + eqs l m
  | _, _ => 0

theorem eqs_comm : (l m : List Int) → eqs l m = eqs m l
  | [], [] => rfl
  | [], _ :: _ => rfl
  | _ :: _, [] => rfl
  | x :: l, y :: m => by
    simp only [eqs, eqs_comm l m]
    have : (y == x) = (x == y) := BEq.comm
    rw [this]

theorem eqs_self : (l : List Int) → eqs l l = l.length
  | [] => rfl
  | x :: l => by simp only [eqs, eqs_self l, beq_self_eq_true, cond_true, List.length_cons]; omega

theorem eqs_le : (l m : List Int) → eqs l m ≤ l.length
  | [], _ => by simp [eqs]
  | _ :: _, [] => by simp [eqs]
  | x :: l, y :: m => by
    have := eqs_le l m
    simp only [eqs, List.length_cons]
    cases y == x <;> simp <;> omega

theorem qrem_nat (a b : Nat) (hb : b ≠ 0) : qrem (a : Int) (b : Int) = some ((a % b : Nat) : Int) := by
  unfold qrem
  rw [if_neg (by omega)]
  rfl

theorem gcd_loop {n : Nat} (k0 : Int × Unit → Option Int) : ∀ (m a b : Nat), b < m → loopG (s105_l0 n) m ((a : Int), (b : Int), ()) (k0, ()) = k0 (((Nat.gcd a b : Nat) : Int), ())
  | 0, a, b, h => by omega
  | m + 1, a, b, h => by
    rw [loopG]
    by_cases hb : b = 0
    · subst hb
      simp [s105_l0]
    · have e : (((b : Nat) : Int) != (0 : Int)) = true := by simpa using hb
      simp only [s105_l0, e, cond_true, qrem_nat a b hb, Option.bind_some]
      have hlt : a % b < b := Nat.mod_lt _ (Nat.pos_of_ne_zero hb)
      rw [gcd_loop k0 m b (a % b) (by omega)]
      rw [Nat.gcd_comm a b, Nat.gcd_rec b a, Nat.gcd_comm (a % b) b]

theorem imax_abs (g : Nat) (hg : g ≤ 1000000) : imax (g : Int) (IntKind.wrap .i64 (0 - (g : Int))) = (g : Int) := by
  rw [wrap_id (by omega) (by omega)]
  unfold imax
  split <;> omega

theorem v105 (n a b : Nat) (hb : b < n) (hg : Nat.gcd a b ≤ 1000000) : s105 n (a : Int) (b : Int) = some ((Nat.gcd a b : Nat) : Int) := by
  unfold s105
  rw [gcd_loop _ n a b hb]
  show some (imax ((Nat.gcd a b : Nat) : Int) (IntKind.wrap .i64 (0 - ((Nat.gcd a b : Nat) : Int)))) = _
  rw [imax_abs _ hg]

theorem v133 (n : Nat) (a b : Int) : s133 n a b = s105 n a b := rfl

theorem v47_loop (n : Nat) (hf : Fuel n) (p : Pan) (bb : Int) (la lb : List Int) (hlb : geti p.2.2.2 bb = some lb) (hla : la.length ≤ 1000) (hlen : la.length = lb.length) (all : Int) (k0 : Int × Int × Int × Int × Unit → Option ((Int × Int) × Int)) :
    loopG (s47_l0 n) n (bb, (0 : Int), all, la, ((List.length la : Nat) : Int), (0 : Int), p.1, p.2.1, p.2.2.1, p.2.2.2, (0 : Int), (0 : Int), ()) (k0, ()) = k0 (((eqs la lb : Nat) : Int), all, (0 : Int), (0 : Int), ()) := by
  have hlo := hf.lo
  refine (list_loop (A := Nat) la (fun i c => (bb, (c : Int), all, la, (la.length : Int), (i : Int), p.1, p.2.1, p.2.2.1, p.2.2.2, (0 : Int), (0 : Int), ())) (fun i c r => k0 (((c + eqs r (lb.drop i) : Nat) : Int), all, (0 : Int), (0 : Int), ())) (fun i c => c ≤ i) (by unfold maxLen; omega) ?_ ?_ 0 (Nat.le_refl _) (by omega)).trans (by simp)
  · intro i c x r hi hx hd hg hlt hw hinv again ih
    have hb : lb[i]? = some lb[i] := List.getElem?_eq_getElem (by omega)
    have hgb : geti lb (i : Int) = some lb[i] := by rw [geti_nat, hb]
    have hdb : lb.drop i = lb[i] :: lb.drop (i + 1) := List.drop_eq_getElem_cons (by omega)
    have hwc : IntKind.wrap .i64 ((c : Int) + 1) = ((c + 1 : Nat) : Int) := by rw [wrap_id] <;> omega
    simp only [s47_l0, hlt, cond_true, hg, Option.bind_some, hlb, hgb, hw, hwc]
    rw [hdb]
    simp only [eqs]
    cases h : (lb[i] == x)
    · simp only [cond_false, Nat.zero_add]
      exact ih c (by omega)
    · simp only [cond_true]
      rw [ih (c + 1) (by omega), Nat.add_assoc]
  · intro c hlt hinv again
    simp only [s47_l0, hlt, cond_false]
    rw [hlen, List.drop_length]
    rfl

theorem v48_loop (n : Nat) (hf : Fuel n) (p : Pan) (aa bb : Int) (la lb : List Int) (hla : geti p.2.2.2 aa = some la) (hlb : geti p.2.2.2 bb = some lb) (hl : p.2.2.1.length ≤ 1000) (h1 : la.length = p.2.2.1.length) (h2 : lb.length = p.2.2.1.length)
    (k0 : Int × Int × Int × List Int × List (List Int) × Int × Int × Unit → Option (Int × Int)) :
    loopG (s48_l0 n) n (aa, bb, (0 : Int), (0 : Int), p.1, p.2.1, p.2.2.1, p.2.2.2, (0 : Int), (0 : Int), ()) (k0, ()) = k0 (((eqs la lb : Nat) : Int), p.1, p.2.1, p.2.2.1, p.2.2.2, (0 : Int), (0 : Int), ()) := by
  have hlo := hf.lo
  refine (list_loop (A := Nat) p.2.2.1 (fun i c => (aa, bb, (c : Int), (i : Int), p.1, p.2.1, p.2.2.1, p.2.2.2, (0 : Int), (0 : Int), ())) (fun i c _ => k0 (((c + eqs (la.drop i) (lb.drop i) : Nat) : Int), p.1, p.2.1, p.2.2.1, p.2.2.2, (0 : Int), (0 : Int), ())) (fun i c => c ≤ i) (by unfold maxLen; omega) ?_ ?_ 0 (Nat.le_refl _) (by omega)).trans (by simp)
  · intro i c x r hi hx hd hg hlt hw hinv again ih
    have ha : la[i]? = some la[i] := List.getElem?_eq_getElem (by omega)
    have hga : geti la (i : Int) = some la[i] := by rw [geti_nat, ha]
    have hda : la.drop i = la[i] :: la.drop (i + 1) := List.drop_eq_getElem_cons (by omega)
    have hb : lb[i]? = some lb[i] := List.getElem?_eq_getElem (by omega)
    have hgb : geti lb (i : Int) = some lb[i] := by rw [geti_nat, hb]
    have hdb : lb.drop i = lb[i] :: lb.drop (i + 1) := List.drop_eq_getElem_cons (by omega)
    have hwc : IntKind.wrap .i64 ((c : Int) + 1) = ((c + 1 : Nat) : Int) := by rw [wrap_id] <;> omega
    simp only [s48_l0, hlt, cond_true, Option.bind_some, hla, hlb, hga, hgb, hw, hwc]
    rw [hda, hdb]
    simp only [eqs]
    have hc : (lb[i] == la[i]) = (la[i] == lb[i]) := BEq.comm
    rw [hc]
    cases h : (la[i] == lb[i])
    · simp only [cond_false, Nat.zero_add]
      exact ih c (by omega)
    · simp only [cond_true]
      rw [ih (c + 1) (by omega), Nat.add_assoc]
  · intro c hlt hinv again
    simp only [s48_l0, hlt, cond_false]
    rw [← h1, List.drop_length, h1, ← h2, List.drop_length]
    rfl

/-- The parts of the marks that are the same, in lowest terms. -/
def agreeO (c L : Nat) : Int × Int := (IntKind.wrap .i64 (((c : Int)).tdiv ((Nat.gcd c L : Nat) : Int)), IntKind.wrap .i64 (((L : Int)).tdiv ((Nat.gcd c L : Nat) : Int)))

def agErr (p : Pan) (a b : Int) : Int := firstErr [(panErr p).2, unl (inR a 0 ((p.2.2.2.length : Int) - 1)) 6, unl (inR b 0 ((p.2.2.2.length : Int) - 1)) 6]

theorem v47_bad (n : Nat) (hf : Fuel n) (p : Pan) (hp : fitP n p) (hl : p.2.2.2.length ≤ 1000) (a b : Int) (he : (agErr p a b == 0) = false) : s47 n p a b = some ((0, 0), agErr p a b) := by
  have hlo := hf.lo
  unfold s47
  simp only [show ((p.1, (p.2.1, (p.2.2.1, p.2.2.2))) : Pan) = p from rfl, v89 n p hf hp, Option.bind_some, show ((p.1, p.2.1, p.2.2.1, p.2.2.2) : Pan) = p from rfl, v90 n p _ hl, v80 n [_, _, _] (by simp [maxLen]) (by simp; omega), bne]
  rw [show firstErr [(panErr p).2, unl (inR a 0 ((p.2.2.2.length : Int) - 1)) 6, unl (inR b 0 ((p.2.2.2.length : Int) - 1)) 6] = agErr p a b from rfl, he]
  rfl

theorem v47_ok (n : Nat) (hf : Fuel n) (p : Pan) (hp : fitP n p) (hg : GoodP p) (a b : Int) (he : agErr p a b = 0) (ha : 0 ≤ a ∧ a < (p.2.2.2.length : Int)) (hb : 0 ≤ b ∧ b < (p.2.2.2.length : Int)) :
    s47 n p a b = some (agreeO (eqs (tst p a) (tst p b)) p.2.2.1.length, 0) := by
  have hlo := hf.lo
  have hgl := hg.glasses
  obtain ⟨a1, a2⟩ := tst_get ha
  obtain ⟨b1, b2⟩ := tst_get hb
  have ea := (hg.each _ a2).1
  have eb := (hg.each _ b2).1
  have hle := eqs_le (tst p a) (tst p b)
  unfold s47
  simp only [show ((p.1, (p.2.1, (p.2.2.1, p.2.2.2))) : Pan) = p from rfl, v89 n p hf hp, Option.bind_some, show ((p.1, p.2.1, p.2.2.1, p.2.2.2) : Pan) = p from rfl, v90 n p _ hg.tasters.2, v80 n [_, _, _] (by simp [maxLen]) (by simp; omega), bne]
  rw [show firstErr [(panErr p).2, unl (inR a 0 ((p.2.2.2.length : Int) - 1)) 6, unl (inR b 0 ((p.2.2.2.length : Int) - 1)) 6] = agErr p a b from rfl, he]
  simp only [beq_self_eq_true, Bool.not_true, cond_false, a1, Option.bind_some]
  rw [v47_loop n hf p b _ _ b1 (by omega) (by omega)]
  have hgp : 0 < Nat.gcd (eqs (tst p a) (tst p b)) p.2.2.1.length := Nat.gcd_pos_of_pos_right _ hgl.1
  have hgl2 : Nat.gcd (eqs (tst p a) (tst p b)) p.2.2.1.length ≤ p.2.2.1.length := Nat.gcd_le_right _ hgl.1
  simp only [v105 n (eqs (tst p a) (tst p b)) p.2.2.1.length (by omega) (by omega), Option.bind_some]
  unfold qdiv
  simp only [if_neg (show ¬ ((Nat.gcd (eqs (tst p a) (tst p b)) p.2.2.1.length : Nat) : Int) = 0 by omega), Option.bind_some]
  rfl

theorem v48_ok (n : Nat) (hf : Fuel n) (p : Pan) (hg : GoodP p) (a b : Int) (ha : 0 ≤ a ∧ a < (p.2.2.2.length : Int)) (hb : 0 ≤ b ∧ b < (p.2.2.2.length : Int)) :
    s48 n p a b = some (agreeO (eqs (tst p a) (tst p b)) p.2.2.1.length) := by
  have hlo := hf.lo
  have hgl := hg.glasses
  obtain ⟨a1, a2⟩ := tst_get ha
  obtain ⟨b1, b2⟩ := tst_get hb
  have ea := (hg.each _ a2).1
  have eb := (hg.each _ b2).1
  unfold s48
  rw [v48_loop n hf p a b _ _ a1 b1 hgl.2 ea eb]
  have hgp : 0 < Nat.gcd (eqs (tst p a) (tst p b)) p.2.2.1.length := Nat.gcd_pos_of_pos_right _ hgl.1
  have hgl2 : Nat.gcd (eqs (tst p a) (tst p b)) p.2.2.1.length ≤ p.2.2.1.length := Nat.gcd_le_right _ hgl.1
  simp only [s106, v133, v105 n (eqs (tst p a) (tst p b)) p.2.2.1.length (by omega) (by omega), Option.bind_some]
  rw [show decide (((p.2.2.1.length : Nat) : Int) < (0 : Int)) = false from by simp]
  simp only [cond_false]
  unfold qdiv
  simp only [if_neg (show ¬ ((Nat.gcd (eqs (tst p a) (tst p b)) p.2.2.1.length : Nat) : Int) = 0 by omega), Option.bind_some]
  rfl

theorem agree_self (L : Nat) (hL : 0 < L) : agreeO L L = (1, 1) := by
  unfold agreeO
  rw [Nat.gcd_self, Int.tdiv_self (by omega)]
  rfl

end Go.Abs
