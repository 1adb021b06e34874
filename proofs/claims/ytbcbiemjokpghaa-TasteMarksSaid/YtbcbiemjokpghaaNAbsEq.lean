/- Structs of two whole numbers, compared. -/
import Derived.Test.YtbcbiemjokpghaaNAbsY
import Derived.ChangeKeysEq
set_option linter.unusedVariables false
set_option linter.unusedSimpArgs false
namespace Go.Abs
open Go
variable {P : Program}

theorem int_eq_run {T : Nat} {k : IntKind} (h : P.underlying T = some (.int k)) (d : Nat) (a b : Int) (w : World) : (Op.equalIn (d + 1) T (.int k a) (.int k b)).run P w = .ok (a == b) w := by
  simp only [Op.equalIn, Sem.run_bind, run_underlying h, Result.andThen_ok]
  simp

theorem equalIn2_run {T : Nat} {f0 f1 : Field} {k0 k1 : IntKind} (hu : P.underlying T = some (.struct #[f0, f1])) (n0 : f0.name ≠ "_") (n1 : f1.name ≠ "_") (o0 : f0.offset = 0) (o1 : f1.offset = 1)
    (hs : P.stoodInHeld T = false) (p0 : P.plainKey f0.type = true) (p1 : P.plainKey f1.type = true) (t0 : P.underlying f0.type = some (.int k0)) (t1 : P.underlying f1.type = some (.int k1)) (m : Nat) (a b c d : Int) (w : World) :
    (Op.equalIn (m + 2) T (.agg #[.int k0 a, .int k1 b]) (.agg #[.int k0 c, .int k1 d])).run P w = .ok (a == c && b == d) w := by
  have r0 : ∀ x y : Int, (Go.part f0.type #[.int k0 x, .int k1 y] f0.offset).run P w = .ok (.int k0 x) w := fun x y => run_part_plain w p0 (by rw [o0]; rfl)
  have r1 : ∀ x y : Int, (Go.part f1.type #[.int k0 x, .int k1 y] f1.offset).run P w = .ok (.int k1 y) w := fun x y => run_part_plain w p1 (by rw [o1]; rfl)
  have e0 : ∀ x y : Int, (Op.equalIn (m + 1) f0.type (.int k0 x) (.int k0 y)).run P w = .ok (x == y) w := fun x y => int_eq_run t0 m x y w
  have e1 : ∀ x y : Int, (Op.equalIn (m + 1) f1.type (.int k1 x) (.int k1 y)).run P w = .ok (x == y) w := fun x y => int_eq_run t1 m x y w
  unfold Op.equalIn
  simp only [Sem.run_bind, run_underlying hu, Result.andThen_ok]
  have hp : (program).run P w = .ok P w := rfl
  by_cases h1 : a = c <;> by_cases h2 : b = d <;>
    simp [hp, hs, n0, n1, Sem.run_bind, r0, r1, e0, e1, h1, h2, Result.andThen]

/-- What is asked of a struct type that is compared. -/
def EqOK (P : Program) (T : Nat) (t : Ty) : Prop :=
  ∀ w ok vs vs' d d' r, Rep P t w ok vs d → Rep P t w ok vs' d' → beqTy t d d' = some r → ∀ (x y : Operand),
    (do eqGuard .eql T x y (t.val vs) (t.val vs'); Go.binOp .eql T (t.val vs) (t.val vs')).run P w = .ok (.bool r) w ∧
    (do eqGuard .neq T x y (t.val vs) (t.val vs'); Go.binOp .neq T (t.val vs) (t.val vs')).run P w = .ok (.bool (!r)) w

theorem env_eq {G : List (Nat × TyE)} {C : List (Nat × Con)} {Q : List (Nat × Ty)} {I : List (Nat × ICon)} (h : EnvOK P ⟨G, C, Q, I⟩) {T : Nat} {t : Ty} (hq : EqOK P T t) : EnvOK P ⟨G, C, (T, t) :: Q, I⟩ where
  ty := h.ty
  con := h.con
  it := h.it
  eq := fun U u hu => by
    simp only [Map.get, nbeq] at hu
    by_cases e : T = U
    · subst e
      simp at hu
      subst hu
      exact hq
    · simp [e] at hu
      exact h.eq U u hu

/-- A field of a struct type. -/
def fld (P : Program) (T i : Nat) : Field := match P.underlying T with
  | some (.struct fs) => fs.getD i default
  | _ => default

theorem eqOK2 {T : Nat} {f0 f1 : Field} {k0 k1 : IntKind} (hu : P.underlying T = some (.struct #[f0, f1])) (n0 : (f0.name == "_") = false) (n1 : (f1.name == "_") = false) (o0 : f0.offset = 0) (o1 : f1.offset = 1)
    (hs : P.stoodInHeld T = false) (p0 : P.plainKey f0.type = true) (p1 : P.plainKey f1.type = true) (t0 : P.underlying f0.type = some (.int k0)) (t1 : P.underlying f1.type = some (.int k1)) (hg : P.eqGuardType P.depth T = false) :
    EqOK P T (.pair (.int k0) (.int k1)) := by
  intro w ok vs vs' d d' r hv hv' hr x y
  obtain ⟨a, b⟩ := d
  obtain ⟨c, e⟩ := d'
  have q : ∀ {vs : List Value} {a b : Int}, Rep P (.pair (.int k0) (.int k1)) w ok vs (a, b) → vs = [.int k0 a, .int k1 b] := by
    intro vs a b h
    have h1 : vs.take 1 = [.int k0 a] := h.1
    have h2 : vs.drop 1 = [.int k1 b] := h.2
    rw [← List.take_append_drop 1 vs, h1, h2]
    rfl
  have e1 := q hv
  have e2 := q hv'
  subst e1 e2
  have hr : r = (a == c && b == e) := by
    simp [beqTy] at hr
    exact hr.symm
  subst hr
  have run := equalIn2_run hu (by simpa using n0) (by simpa using n1) o0 o1 hs p0 p1 t0 t1 9998 a b c e w
  have run : (Op.equal T (.agg #[.int k0 a, .int k1 b]) (.agg #[.int k0 c, .int k1 e])).run P w = .ok (a == c && b == e) w := run
  have hp : (program).run P w = .ok P w := rfl
  have v1 : (Ty.pair (.int k0) (.int k1)).val [.int k0 a, .int k1 b] = .agg #[.int k0 a, .int k1 b] := rfl
  have v2 : (Ty.pair (.int k0) (.int k1)).val [.int k0 c, .int k1 e] = .agg #[.int k0 c, .int k1 e] := rfl
  rw [v1, v2]
  constructor <;> simp [eqGuard, Go.binOp, Sem.run_bind, hp, hg, run, Result.andThen]

end Go.Abs
